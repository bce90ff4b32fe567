import Derived.Test.YtjadcdikckmooaaME
import Derived.Test.YtjadcdikckmooaaMS
/- A part of a proof, with no condition of its own. Merged texts: D7 D8 D9 E0. -/
/- slices.SortStableFunc for short lists of numbers; the order of the nodes. -/
set_option linter.unusedVariables false
set_option linter.unusedSimpArgs false
namespace Go.V
open Go.RowKit Go.Proofs
attribute [local irreducible] wp seqK lexK opK callK upd sto Good GoodR

section
variable (f : FuncId) (Tg sg : Nat) (p : PV) (cmp : Int → Int → Int) (data : List Int) (hL : data.length < 20) (hsn : ∀ g : Store, p.cells.map (PV.snap g 5) = p.cells) (hpc : p.cells.length = sg) (hrf : PV.refs p = []) 
    (hcmp : ∀ x ∈ data, ∀ y ∈ data, Good Try.prog f [.int .i64 x, .int .i64 y, .vptr p.cells 0] (.int .i64 (cmp x y)))
include hL hsn hpc hrf hcmp

theorem stable_good :
    GoodR Try.prog 85 [.sref 1 1 0 data.length false, .int .i64 data.length, .fn f [] [.ptr 2 sg 0 0]] (sto [(1, .row 3 1 (ints data)), (2, .row Tg sg [p])])
      fun r g => r = .tup [] ∧ g = sto [(1, .row 3 1 (ints (SP.isort (fun x y => decide (cmp x y < 0)) data))), (2, .row Tg sg [p])] := by
  have hren : ∀ f, PV.ren f p = p := fun f => PV.ren_none f p hrf
  have hins := insort_good f Tg sg p cmp data (by omega) hsn hpc hrf hcmp
  refine v_enterR ttok mixed Try.func85 (by kernel_rfl) rfl Try.ntmps85 Try.results85 (by simp) ?_; simp only [argEnv, List.range, List.range.loop, List.length_cons, List.length_nil, List.zip_cons_cons, List.zip_nil_left]
  generalize SP.isort (fun x y => decide (cmp x y < 0)) data = out at *
  have w1 : ¬ (20 : Int) ≤ data.length := by omega
  have w2 : ¬ (20 : Int) < data.length := by omega
  (repeat (first | refine Stp.go ?_ | refine v_region ?_ | refine v_regionD ?_ | refine v_blocky (by decide) ?_ | ((first | refine v_o rfl ?_ ?_ | refine v_oD rfl ?_ ?_); (focus (simp only [w1, go_sem]; done)); simp only [Env.put]) | ((first | refine v_u rfl fun K hK => ?_ | refine v_g rfl fun K hK => ?_ | refine v_uD rfl fun K hK => ?_ | refine v_gD rfl fun K hK => ?_); simp only [w1, go_sem]) | (fail) | refine v_end ?_ | refine v_endD (by kernel_rfl) ?_ | (refine hK _ _ ?_; clear hK K) | refine ⟨by (first | trivial | assumption | omega | (intros; first | assumption | omega)), ?_⟩ | (apply v_condb; (focus (simp only [w1, go_sem]; first | exact pvt | exact pvf)); simp only [cond_true, cond_false]) | fail))
  refine v_loop [0, 1, 2, 6, 7, 8] (fun _ : Unit => True) (fun _ => 0) (fun _ => [.sref 1 1 0 data.length false, .int .i64 data.length, .fn f [] [.ptr 2 sg 0 0], .int .i64 20, .int .i64 0, .int .i64 20])
    (fun _ => [(1, .row 3 1 (ints data)), (2, .row Tg sg [p])]) () trivial ?_ ?_
  · exact (fits_sto _ id (by simp [Env.get, PV.renL, PV.ren , hren, hrf, renL_ints, refsL_ints]) (by simp [PV.refsL, PV.refs , hren, hrf, renL_ints, refsL_ints]) (by simp [SC.live, SC.ren, SC.refs, PV.renL, PV.ren, PV.refsL, PV.refs, sto_cons, sto_nil , hren, hrf, renL_ints, refsL_ints]) (by simp ))
  · rintro ⟨⟩ -
    simp only [List.zip_cons_cons, List.zip_nil_left]
    (repeat (first | refine Stp.go ?_ | refine v_region ?_ | refine v_regionD ?_ | refine v_blocky (by decide) ?_ | (refine v_callR (by simp [dstOk]) rfl ?_; simp only [List.map_cons, List.map_nil, List.nil_append, List.append_nil, List.cons_append, Env.eval, Env.get, reduceIte, Nat.reduceEqDiff, List.toList_toArray, PV.ofConst]; refine callR_sto ([.sref 1 1 0 data.length false, .int .i64 0, .int .i64 data.length, .fn f [] [.ptr 2 sg 0 0]]) ([(1, .row 3 1 (ints data)), (2, .row Tg sg [p])]) (id) (hins) (by simp [PV.renL, PV.ren , hren, hrf, renL_ints, refsL_ints]) (by simp [PV.refsL, PV.refs , hren, hrf, renL_ints, refsL_ints]) (by simp [SC.live, SC.ren, SC.refs, PV.renL, PV.ren, PV.refsL, PV.refs, sto_cons, sto_nil, renL_ints, refsL_ints, renL_nats, refsL_nats, List.length_set , hren, hrf, renL_ints, refsL_ints]) (by simp [id_eq , hren, hrf, renL_ints, refsL_ints]) ?_; rintro _ _ ⟨rfl, rfl⟩; refine ⟨[(1, .row 3 1 (ints out)), (2, .row Tg sg [p])], id, rfl, (by simp [SC.live, SC.ren, SC.refs, PV.renL, PV.ren, PV.refsL, PV.refs, sto_cons, sto_nil, renL_ints, refsL_ints, renL_nats, refsL_nats, List.length_set , hren, hrf, renL_ints, refsL_ints]), (by simp [PV.refsL, PV.refs , hren, hrf, renL_ints, refsL_ints]), (by simp [Free, sto_cons, sto_nil , hren, hrf, renL_ints, refsL_ints]), (by simp [id_eq , hren, hrf, renL_ints, refsL_ints]), ?_⟩; simp only [backL, List.map_cons, List.map_nil, List.cons_append, List.nil_append, SC.ren, PV.renL, PV.ren, renL_ints, renL_nats, id_eq, Env.put , hren, hrf, renL_ints, refsL_ints]) | ((first | refine v_o rfl ?_ ?_ | refine v_oD rfl ?_ ?_); (focus (simp only [w1, go_sem]; done)); simp only [Env.put]) | ((first | refine v_u rfl fun K hK => ?_ | refine v_g rfl fun K hK => ?_ | refine v_uD rfl fun K hK => ?_ | refine v_gD rfl fun K hK => ?_); simp only [w1, go_sem]) | (refine v_loopx ?_) | refine v_end ?_ | refine v_endD (by kernel_rfl) ?_ | (refine hK _ _ ?_; clear hK K) | refine ⟨by (first | trivial | assumption | omega | (intros; first | assumption | omega)), ?_⟩ | (apply v_condb; (focus (simp only [w1, go_sem]; first | exact pvt | exact pvf)); simp only [cond_true, cond_false]) | fail))
    refine v_loop [0, 1, 2, 6] (fun _ : Unit => True) (fun _ => 0) (fun _ => [.sref 1 1 0 data.length false, .int .i64 data.length, .fn f [] [.ptr 2 sg 0 0], .int .i64 20])
      (fun _ => [(1, .row 3 1 (ints out)), (2, .row Tg sg [p])]) () trivial ?_ ?_
    · exact (fits_sto _ id (by simp [Env.get, PV.renL, PV.ren , hren, hrf, renL_ints, refsL_ints]) (by simp [PV.refsL, PV.refs , hren, hrf, renL_ints, refsL_ints]) (by simp [SC.live, SC.ren, SC.refs, PV.renL, PV.ren, PV.refsL, PV.refs, sto_cons, sto_nil , hren, hrf, renL_ints, refsL_ints]) (by simp ))
    · rintro ⟨⟩ -
      simp only [List.zip_cons_cons, List.zip_nil_left]
      (repeat (first | refine Stp.go ?_ | refine v_region ?_ | refine v_regionD ?_ | refine v_blocky (by decide) ?_ | ((first | refine v_o rfl ?_ ?_ | refine v_oD rfl ?_ ?_); (focus (simp only [w2, go_sem]; done)); simp only [Env.put]) | ((first | refine v_u rfl fun K hK => ?_ | refine v_g rfl fun K hK => ?_ | refine v_uD rfl fun K hK => ?_ | refine v_gD rfl fun K hK => ?_); simp only [w2, go_sem]) | (refine v_loopx ?_) | refine v_end ?_ | refine v_endD (by kernel_rfl) ?_ | (refine hK _ _ ?_; clear hK K) | refine ⟨by (first | trivial | assumption | omega | (intros; first | assumption | omega)), ?_⟩ | (apply v_condb; (focus (simp only [w2, go_sem]; first | exact pvt | exact pvf)); simp only [cond_true, cond_false]) | fail))
      (first | refine v_finR_n ?_ | refine v_finR_r ?_); simp only [ resK, go_sem]
      refine finR_sto (id) (.tup []) ([(1, .row 3 1 (ints out)), (2, .row Tg sg [p])]) (⟨rfl, rfl⟩) (by simp [one, PV.ren, PV.renL , hren, hrf, renL_ints, refsL_ints]) (by simp [PV.refs, PV.refsL , hren, hrf, renL_ints, refsL_ints]) (by simp [SC.live, SC.ren, SC.refs, PV.renL, PV.ren, PV.refsL, PV.refs, sto_cons, sto_nil, renL_ints, refsL_ints, renL_nats, refsL_nats, List.length_set , hren, hrf, renL_ints, refsL_ints]) (by simp )

theorem sort_good :
    GoodR Try.prog 66 [.sref 1 1 0 data.length false, .fn f [] [.ptr 2 sg 0 0]] (sto [(1, .row 3 1 (ints data)), (2, .row Tg sg [p])])
      fun r g => r = .tup [] ∧ g = sto [(1, .row 3 1 (ints (SP.isort (fun x y => decide (cmp x y < 0)) data))), (2, .row Tg sg [p])] := by
  have hren : ∀ f, PV.ren f p = p := fun f => PV.ren_none f p hrf
  have hins := stable_good f Tg sg p cmp data hL hsn hpc hrf hcmp
  refine v_enterR ttok mixed Try.func66 (by kernel_rfl) rfl Try.ntmps66 Try.results66 (by simp) ?_; simp only [argEnv, List.range, List.range.loop, List.length_cons, List.length_nil, List.zip_cons_cons, List.zip_nil_left]
  generalize SP.isort (fun x y => decide (cmp x y < 0)) data = out at *
  (repeat (first | refine Stp.go ?_ | refine v_region ?_ | refine v_regionD ?_ | refine v_blocky (by decide) ?_ | (refine v_callR (by simp [dstOk]) rfl ?_; simp only [List.map_cons, List.map_nil, List.nil_append, List.append_nil, List.cons_append, Env.eval, Env.get, reduceIte, Nat.reduceEqDiff, List.toList_toArray, PV.ofConst]; refine callR_sto ([.sref 1 1 0 data.length false, .int .i64 data.length, .fn f [] [.ptr 2 sg 0 0]]) ([(1, .row 3 1 (ints data)), (2, .row Tg sg [p])]) (id) (hins) (by simp [PV.renL, PV.ren , hren, hrf, renL_ints, refsL_ints]) (by simp [PV.refsL, PV.refs , hren, hrf, renL_ints, refsL_ints]) (by simp [SC.live, SC.ren, SC.refs, PV.renL, PV.ren, PV.refsL, PV.refs, sto_cons, sto_nil, renL_ints, refsL_ints, renL_nats, refsL_nats, List.length_set , hren, hrf, renL_ints, refsL_ints]) (by simp [id_eq , hren, hrf, renL_ints, refsL_ints]) ?_; rintro _ _ ⟨rfl, rfl⟩; refine ⟨[(1, .row 3 1 (ints out)), (2, .row Tg sg [p])], id, rfl, (by simp [SC.live, SC.ren, SC.refs, PV.renL, PV.ren, PV.refsL, PV.refs, sto_cons, sto_nil, renL_ints, refsL_ints, renL_nats, refsL_nats, List.length_set , hren, hrf, renL_ints, refsL_ints]), (by simp [PV.refsL, PV.refs , hren, hrf, renL_ints, refsL_ints]), (by simp [Free, sto_cons, sto_nil , hren, hrf, renL_ints, refsL_ints]), (by simp [id_eq , hren, hrf, renL_ints, refsL_ints]), ?_⟩; simp only [backL, List.map_cons, List.map_nil, List.cons_append, List.nil_append, SC.ren, PV.renL, PV.ren, renL_ints, renL_nats, id_eq, Env.put , hren, hrf, renL_ints, refsL_ints]) | ((first | refine v_o rfl ?_ ?_ | refine v_oD rfl ?_ ?_); (focus (simp only [ite_bool, go_sem]; done)); simp only [Env.put]) | ((first | refine v_u rfl fun K hK => ?_ | refine v_g rfl fun K hK => ?_ | refine v_uD rfl fun K hK => ?_ | refine v_gD rfl fun K hK => ?_); simp only [ite_bool, go_sem]) | (fail) | refine v_end ?_ | refine v_endD (by kernel_rfl) ?_ | (refine hK _ _ ?_; clear hK K) | refine ⟨by (first | trivial | assumption | omega | (intros; first | assumption | omega)), ?_⟩ | (apply v_condb; (focus (simp only [ite_bool, go_sem]; first | exact pvt | exact pvf)); simp only [cond_true, cond_false]) | fail))
  (first | refine v_finR_n ?_ | refine v_finR_r ?_); simp only [ resK, go_sem]
  refine finR_sto (id) (.tup []) ([(1, .row 3 1 (ints out)), (2, .row Tg sg [p])]) (⟨rfl, rfl⟩) (by simp [one, PV.ren, PV.renL , hren, hrf, renL_ints, refsL_ints]) (by simp [PV.refs, PV.refsL , hren, hrf, renL_ints, refsL_ints]) (by simp [SC.live, SC.ren, SC.refs, PV.renL, PV.ren, PV.refsL, PV.refs, sto_cons, sto_nil, renL_ints, refsL_ints, renL_nats, refsL_nats, List.length_set , hren, hrf, renL_ints, refsL_ints]) (by simp )
end

/-- The nodes from which the destination is reached. -/
def reachK (dist : List Int) (k : Nat) : List Int := ((List.range k).map fun (i : Nat) => (i : Int)).filter fun n => decide (0 ≤ dist.getD n.toNat (-1))
theorem reachK_succ (dist : List Int) (k : Nat) : reachK dist (k + 1) = reachK dist k ++ if 0 ≤ dist.getD k (-1) then [(k : Int)] else [] := by
  simp only [reachK, List.range_succ, List.map_append, List.filter_append, List.map_cons, List.map_nil, List.filter_cons, List.filter_nil, Int.toNat_natCast]
  by_cases h : 0 ≤ dist.getD k (-1) <;> simp only [h, decide_true, decide_false, if_true, if_false, Bool.false_eq_true]
theorem reachK_length (dist : List Int) (k : Nat) : (reachK dist k).length ≤ k := by
  have := List.length_filter_le (fun n : Int => decide (0 ≤ dist.getD n.toNat (-1))) ((List.range k).map fun (i : Nat) => (i : Int))
  simpa [reachK] using this
theorem reachK_mem {dist : List Int} {k : Nat} {x : Int} : x ∈ reachK dist k ↔ ∃ i : Nat, x = i ∧ i < k ∧ 0 ≤ dist.getD i (-1) := by
  simp only [reachK, List.mem_filter, List.mem_map, List.mem_range, decide_eq_true_eq]
  constructor
  · rintro ⟨⟨i, hi, rfl⟩, h⟩; exact ⟨i, rfl, hi, by simpa using h⟩
  · rintro ⟨i, rfl, hi, h⟩; exact ⟨⟨i, hi, rfl⟩, by simpa using h⟩
theorem reachK_up (dist : List Int) (k : Nat) : (reachK dist k).Pairwise (· < ·) := by
  refine List.Pairwise.filter _ ?_
  rw [List.pairwise_map]
  exact List.pairwise_lt_range.imp fun h => by omega

def ordLt (dist : List Int) (a b : Int) : Bool := decide (cmpI (dist.getD b.toNat (-1)) (dist.getD a.toNat (-1)) < 0)
def orderL (dist : List Int) : List Int := SP.isort (ordLt dist) (reachK dist dist.length)
theorem cmpI_neg (a b : Int) : cmpI a b < 0 ↔ a < b := by unfold cmpI; split <;> (try split) <;> omega
theorem orderL_sorted (dist : List Int) : (orderL dist).Pairwise (SP.Rk fun n => dist.getD n.toNat (-1)) :=
  SP.isort_sorted _ _ _ _ rfl (fun x _ y _ => by simp [ordLt, cmpI_neg]) (reachK_up dist _)
theorem orderL_mem {dist : List Int} {x : Int} : x ∈ orderL dist ↔ ∃ i : Nat, x = i ∧ i < dist.length ∧ 0 ≤ dist.getD i (-1) := by
  rw [orderL, (SP.isort_perm _ _ _ rfl).mem_iff, reachK_mem]
theorem orderL_unique {dist l : List Int} (hs : l.Pairwise (SP.Rk fun n => dist.getD n.toNat (-1))) (hm : ∀ x, x ∈ l ↔ ∃ i : Nat, x = i ∧ i < dist.length ∧ 0 ≤ dist.getD i (-1)) : l = orderL dist :=
  SP.sorted_unique (fun _ => SP.Rk.irrefl) (fun _ _ _ => SP.Rk.trans) _ _ hs (orderL_sorted dist) fun x => by rw [hm, orderL_mem]
end Go.V
/- Layers 11 and 12: Dist, the graph, Next and Order, as the program answers. -/
set_option linter.unusedVariables false
set_option linter.unusedSimpArgs false
namespace Go.V
open Go.RowKit Go.Proofs
attribute [local irreducible] wp seqK lexK opK callK upd sto Good GoodR

def distE (t : Topo) (down : List Bool) (d : Int) : Int := if maskOk t down = true then if 0 ≤ d ∧ d < t.n then 0 else 2 else 1
theorem distR_cases (t : Topo) (down : List Bool) (d : Int) (fwd : Bool) :
    (maskOk t down = true ∧ 0 ≤ d ∧ d < t.n ∧ distE t down d = 0 ∧ distR t down d fwd = .tup [.slc 1 (ints (distL t down d fwd)), .int .i64 0]) ∨
    (∃ e : Int, (e = 1 ∨ e = 2) ∧ distE t down d = e ∧ distR t down d fwd = .tup [.slc 1 [], .int .i64 e]) := by
  unfold distE distR
  by_cases h : maskOk t down = true
  · by_cases h' : 0 ≤ d ∧ d < t.n
    · left; simp [h, h']
    · right; exact ⟨2, .inr rfl, by simp [h, h'], by simp [h, h']⟩
  · right; exact ⟨1, .inl rfl, by simp [h], by simp [h]⟩

theorem sdist_good (t : Topo) (down : List Bool) (d : Int) : Good Try.prog 62 [pvT t, .slc 1 (bools down), .int .i64 d] (distR t down d false) := by
  have hs := search_good t down d false
  refine v_enter ttok mixed Try.func62 (by kernel_rfl) rfl Try.ntmps62 Try.results62 (by simp) ?_; rw [fresh_sto]; simp only [argEnv, List.range, List.range.loop, List.length_cons, List.length_nil, List.zip_cons_cons, List.zip_nil_left]
  rcases distR_cases t down d false with ⟨h1, h2, h3, h4, h5⟩ | ⟨e, h1, h2, h5⟩
  all_goals
    rw [h5] at hs ⊢
    (repeat (first | refine Stp.go ?_ | refine v_region ?_ | refine v_regionD ?_ | refine v_blocky (by decide) ?_ | ((first | refine v_o rfl ?_ ?_ | refine v_oD rfl ?_ ?_); (focus (simp only [pvT, ite_bool, go_sem]; done)); simp only [Env.put]) | ((first | refine v_u rfl fun K hK => ?_ | refine v_g rfl fun K hK => ?_ | refine v_uD rfl fun K hK => ?_ | refine v_gD rfl fun K hK => ?_); simp only [pvT, ite_bool, go_sem]) | ((refine callK_pure (fun hc => hs) rfl ?_; simp only [upds, eq_self, true_or, true_and])) | refine v_end ?_ | refine v_endD (by kernel_rfl) ?_ | (refine hK _ _ ?_; clear hK K) | refine ⟨by (first | trivial | assumption | omega | (intros; first | assumption | omega)), ?_⟩ | (apply v_condb; (focus (simp only [pvT, ite_bool, go_sem]; first | exact pvt | exact pvf)); simp only [cond_true, cond_false]) | fail))
    (first | refine v_fin_n ?_ | refine v_fin_r ?_); simp only [ resK, one, PV.snap, go_sem]
    exact Wk.refl _
theorem rdist_good (t : Topo) (down : List Bool) (d : Int) : Good Try.prog 21 [pvT t, .slc 1 (bools down), .int .i64 d] (distR t down d false) := by
  have hs := rsearch_good t down d false
  refine v_enter ttok mixed Try.func21 (by kernel_rfl) rfl Try.ntmps21 Try.results21 (by simp) ?_; rw [fresh_sto]; simp only [argEnv, List.range, List.range.loop, List.length_cons, List.length_nil, List.zip_cons_cons, List.zip_nil_left]
  rcases distR_cases t down d false with ⟨h1, h2, h3, h4, h5⟩ | ⟨e, h1, h2, h5⟩
  all_goals
    rw [h5] at hs ⊢
    (repeat (first | refine Stp.go ?_ | refine v_region ?_ | refine v_regionD ?_ | refine v_blocky (by decide) ?_ | ((first | refine v_o rfl ?_ ?_ | refine v_oD rfl ?_ ?_); (focus (simp only [pvT, ite_bool, go_sem]; done)); simp only [Env.put]) | ((first | refine v_u rfl fun K hK => ?_ | refine v_g rfl fun K hK => ?_ | refine v_uD rfl fun K hK => ?_ | refine v_gD rfl fun K hK => ?_); simp only [pvT, ite_bool, go_sem]) | ((refine callK_pure (fun hc => hs) rfl ?_; simp only [upds, eq_self, true_or, true_and])) | refine v_end ?_ | refine v_endD (by kernel_rfl) ?_ | (refine hK _ _ ?_; clear hK K) | refine ⟨by (first | trivial | assumption | omega | (intros; first | assumption | omega)), ?_⟩ | (apply v_condb; (focus (simp only [pvT, ite_bool, go_sem]; first | exact pvt | exact pvf)); simp only [cond_true, cond_false]) | fail))
    (first | refine v_fin_n ?_ | refine v_fin_r ?_); simp only [ resK, one, PV.snap, go_sem]
    exact Wk.refl _

/-- The graph that is made, or none. -/
def pvG0 : PV := .agg [.int .i64 0, .nilS, .nilS, .nilS, .int .i64 0, .nilS]
noncomputable def towR (t : Topo) (down : List Bool) (n d : Int) : PV :=
  if distE t down d = 0 then if 0 ≤ n ∧ n < t.n then .tup [pvG t down d (distL t down d false), .int .i64 0] else .tup [pvG0, .int .i64 2] else .tup [pvG0, .int .i64 (distE t down d)]

theorem towards_good (t : Topo) (down : List Bool) (n d : Int) : Good Try.prog 38 [pvT t, .slc 1 (bools down), .int .i64 n, .int .i64 d] (towR t down n d) := by
  have hs := sdist_good t down d
  refine v_enter ttok mixed Try.func38 (by kernel_rfl) rfl Try.ntmps38 Try.results38 (by simp) ?_; rw [fresh_sto]; simp only [argEnv, List.range, List.range.loop, List.length_cons, List.length_nil, List.zip_cons_cons, List.zip_nil_left]
  unfold towR
  rcases distR_cases t down d false with ⟨h1, h2, h3, h4, h5⟩ | ⟨e, h1, h2, h5⟩
  · rw [h5] at hs
    rw [if_pos h4]
    by_cases c1 : n < 0
    · rw [if_neg (by omega)]
      (repeat (first | refine Stp.go ?_ | refine v_region ?_ | refine v_regionD ?_ | refine v_blocky (by decide) ?_ | ((first | refine v_o rfl ?_ ?_ | refine v_oD rfl ?_ ?_); (focus (simp only [pvT, ite_bool, c1, go_sem]; done)); simp only [Env.put]) | ((first | refine v_u rfl fun K hK => ?_ | refine v_g rfl fun K hK => ?_ | refine v_uD rfl fun K hK => ?_ | refine v_gD rfl fun K hK => ?_); simp only [pvT, ite_bool, c1, go_sem]) | ((refine callK_pure (fun hc => hs) rfl ?_; simp only [upds, eq_self, true_or, true_and])) | refine v_end ?_ | refine v_endD (by kernel_rfl) ?_ | (refine hK _ _ ?_; clear hK K) | refine ⟨by (first | trivial | assumption | omega | (intros; first | assumption | omega)), ?_⟩ | (apply v_condb; (focus (simp only [pvT, ite_bool, c1, go_sem]; first | exact pvt | exact pvf)); simp only [cond_true, cond_false]) | fail))
      (first | refine v_fin_n ?_ | refine v_fin_r ?_); simp only [ resK, one, PV.snap, go_sem]
      exact Wk.refl _
    · by_cases c2 : t.n ≤ n
      · rw [if_neg (by omega)]
        (repeat (first | refine Stp.go ?_ | refine v_region ?_ | refine v_regionD ?_ | refine v_blocky (by decide) ?_ | ((first | refine v_o rfl ?_ ?_ | refine v_oD rfl ?_ ?_); (focus (simp only [pvT, ite_bool, c1, c2, go_sem]; done)); simp only [Env.put]) | ((first | refine v_u rfl fun K hK => ?_ | refine v_g rfl fun K hK => ?_ | refine v_uD rfl fun K hK => ?_ | refine v_gD rfl fun K hK => ?_); simp only [pvT, ite_bool, c1, c2, go_sem]) | ((refine callK_pure (fun hc => hs) rfl ?_; simp only [upds, eq_self, true_or, true_and])) | refine v_end ?_ | refine v_endD (by kernel_rfl) ?_ | (refine hK _ _ ?_; clear hK K) | refine ⟨by (first | trivial | assumption | omega | (intros; first | assumption | omega)), ?_⟩ | (apply v_condb; (focus (simp only [pvT, ite_bool, c1, c2, go_sem]; first | exact pvt | exact pvf)); simp only [cond_true, cond_false]) | fail))
        (first | refine v_fin_n ?_ | refine v_fin_r ?_); simp only [ resK, one, PV.snap, go_sem]
        exact Wk.refl _
      · rw [if_pos (by omega)]
        (repeat (first | refine Stp.go ?_ | refine v_region ?_ | refine v_regionD ?_ | refine v_blocky (by decide) ?_ | ((first | refine v_o rfl ?_ ?_ | refine v_oD rfl ?_ ?_); (focus (simp only [pvT, ite_bool, c1, c2, go_sem]; done)); simp only [Env.put]) | ((first | refine v_u rfl fun K hK => ?_ | refine v_g rfl fun K hK => ?_ | refine v_uD rfl fun K hK => ?_ | refine v_gD rfl fun K hK => ?_); simp only [pvT, ite_bool, c1, c2, go_sem]) | ((refine callK_pure (fun hc => hs) rfl ?_; simp only [upds, eq_self, true_or, true_and])) | refine v_end ?_ | refine v_endD (by kernel_rfl) ?_ | (refine hK _ _ ?_; clear hK K) | refine ⟨by (first | trivial | assumption | omega | (intros; first | assumption | omega)), ?_⟩ | (apply v_condb; (focus (simp only [pvT, ite_bool, c1, c2, go_sem]; first | exact pvt | exact pvf)); simp only [cond_true, cond_false]) | fail))
        (first | refine v_fin_n ?_ | refine v_fin_r ?_); simp only [ resK, one, PV.snap, go_sem]
        exact Wk.refl _
  · rw [h5] at hs
    have c1 : ¬ e = 0 := by omega
    rw [if_neg (by omega), h2]
    (repeat (first | refine Stp.go ?_ | refine v_region ?_ | refine v_regionD ?_ | refine v_blocky (by decide) ?_ | ((first | refine v_o rfl ?_ ?_ | refine v_oD rfl ?_ ?_); (focus (simp only [pvT, ite_bool, c1, go_sem]; done)); simp only [Env.put]) | ((first | refine v_u rfl fun K hK => ?_ | refine v_g rfl fun K hK => ?_ | refine v_uD rfl fun K hK => ?_ | refine v_gD rfl fun K hK => ?_); simp only [pvT, ite_bool, c1, go_sem]) | ((refine callK_pure (fun hc => hs) rfl ?_; simp only [upds, eq_self, true_or, true_and])) | refine v_end ?_ | refine v_endD (by kernel_rfl) ?_ | (refine hK _ _ ?_; clear hK K) | refine ⟨by (first | trivial | assumption | omega | (intros; first | assumption | omega)), ?_⟩ | (apply v_condb; (focus (simp only [pvT, ite_bool, c1, go_sem]; first | exact pvt | exact pvf)); simp only [cond_true, cond_false]) | fail))
    (first | refine v_fin_n ?_ | refine v_fin_r ?_); simp only [ resK, one, PV.snap, go_sem]
    exact Wk.refl _

/-- The next arcs, or an error. -/
noncomputable def nextR (t : Topo) (down : List Bool) (n d : Int) : PV :=
  if distE t down d = 0 then if 0 ≤ n ∧ n < t.n then .tup [.slc 1 (ints (nextL t down (distL t down d false) n d)), .int .i64 0] else .tup [.slc 1 [], .int .i64 2] else .tup [.slc 1 [], .int .i64 (distE t down d)]

theorem next_good (t : Topo) (down : List Bool) (n d : Int) : Good Try.prog 13 [pvT t, .slc 1 (bools down), .int .i64 n, .int .i64 d] (nextR t down n d) := by
  have hs := towards_good t down n d
  refine v_enter ttok mixed Try.func13 (by kernel_rfl) rfl Try.ntmps13 Try.results13 (by simp) ?_; rw [fresh_sto]; simp only [argEnv, List.range, List.range.loop, List.length_cons, List.length_nil, List.zip_cons_cons, List.zip_nil_left]
  unfold nextR
  unfold towR at hs
  rcases distR_cases t down d false with ⟨h1, h2, h3, h4, h5⟩ | ⟨e, h1, h2, h5⟩
  · rw [if_pos h4] at hs ⊢
    have ht := maskOk_ok h1
    have hml := maskOk_len h1
    have hd := isDist_ok ht (distL_is ht down h2 h3 false)
    by_cases c1 : 0 ≤ n ∧ n < t.n
    · rw [if_pos c1] at hs ⊢
      have hg := gnext_good t down (distL t down d false) n d ht hml hd c1.1 c1.2
      (repeat (first | refine Stp.go ?_ | refine v_region ?_ | refine v_regionD ?_ | refine v_blocky (by decide) ?_ | ((first | refine v_o rfl ?_ ?_ | refine v_oD rfl ?_ ?_); (focus (simp only [pvT, pvG, ite_bool,  go_sem]; done)); simp only [Env.put]) | ((first | refine v_u rfl fun K hK => ?_ | refine v_g rfl fun K hK => ?_ | refine v_uD rfl fun K hK => ?_ | refine v_gD rfl fun K hK => ?_); simp only [pvT, pvG, ite_bool,  go_sem]) | (first | (refine callK_pure (fun hc => hs) rfl ?_; simp only [upds, eq_self, true_or, true_and]) | (refine callK_pure (fun hc => hg) rfl ?_; simp only [upds, eq_self, true_or, true_and])) | refine v_end ?_ | refine v_endD (by kernel_rfl) ?_ | (refine hK _ _ ?_; clear hK K) | refine ⟨by (first | trivial | assumption | omega | (intros; first | assumption | omega)), ?_⟩ | (apply v_condb; (focus (simp only [pvT, pvG, ite_bool,  go_sem]; first | exact pvt | exact pvf)); simp only [cond_true, cond_false]) | fail))
      (first | refine v_fin_n ?_ | refine v_fin_r ?_); simp only [ resK, one, PV.snap, go_sem]
      exact Wk.refl _
    · rw [if_neg c1] at hs ⊢
      (repeat (first | refine Stp.go ?_ | refine v_region ?_ | refine v_regionD ?_ | refine v_blocky (by decide) ?_ | ((first | refine v_o rfl ?_ ?_ | refine v_oD rfl ?_ ?_); (focus (simp only [pvT, pvG0, ite_bool,  go_sem]; done)); simp only [Env.put]) | ((first | refine v_u rfl fun K hK => ?_ | refine v_g rfl fun K hK => ?_ | refine v_uD rfl fun K hK => ?_ | refine v_gD rfl fun K hK => ?_); simp only [pvT, pvG0, ite_bool,  go_sem]) | (first | (refine callK_pure (fun hc => hs) rfl ?_; simp only [upds, eq_self, true_or, true_and])) | refine v_end ?_ | refine v_endD (by kernel_rfl) ?_ | (refine hK _ _ ?_; clear hK K) | refine ⟨by (first | trivial | assumption | omega | (intros; first | assumption | omega)), ?_⟩ | (apply v_condb; (focus (simp only [pvT, pvG0, ite_bool,  go_sem]; first | exact pvt | exact pvf)); simp only [cond_true, cond_false]) | fail))
      (first | refine v_fin_n ?_ | refine v_fin_r ?_); simp only [ resK, one, PV.snap, go_sem]
      exact Wk.two (Wk.nil 1) (.refl _)
  · rw [if_neg (by omega), h2] at hs
    rw [if_neg (by omega), h2]
    have c1 : ¬ e = 0 := by omega
    (repeat (first | refine Stp.go ?_ | refine v_region ?_ | refine v_regionD ?_ | refine v_blocky (by decide) ?_ | ((first | refine v_o rfl ?_ ?_ | refine v_oD rfl ?_ ?_); (focus (simp only [pvT, pvG0, ite_bool, c1, go_sem]; done)); simp only [Env.put]) | ((first | refine v_u rfl fun K hK => ?_ | refine v_g rfl fun K hK => ?_ | refine v_uD rfl fun K hK => ?_ | refine v_gD rfl fun K hK => ?_); simp only [pvT, pvG0, ite_bool, c1, go_sem]) | (first | (refine callK_pure (fun hc => hs) rfl ?_; simp only [upds, eq_self, true_or, true_and])) | refine v_end ?_ | refine v_endD (by kernel_rfl) ?_ | (refine hK _ _ ?_; clear hK K) | refine ⟨by (first | trivial | assumption | omega | (intros; first | assumption | omega)), ?_⟩ | (apply v_condb; (focus (simp only [pvT, pvG0, ite_bool, c1, go_sem]; first | exact pvt | exact pvf)); simp only [cond_true, cond_false]) | fail))
    (first | refine v_fin_n ?_ | refine v_fin_r ?_); simp only [ resK, one, PV.snap, go_sem]
    exact Wk.two (Wk.nil 1) (.refl _)

theorem rNext_good (t : Topo) (down : List Bool) (n d : Int) : Good Try.prog 14 [pvT t, .slc 1 (bools down), .int .i64 n, .int .i64 d] (nextR t down n d) := by
  have hs := rdist_good t down d
  refine v_enter ttok mixed Try.func14 (by kernel_rfl) rfl Try.ntmps14 Try.results14 (by simp) ?_; rw [fresh_sto]; simp only [argEnv, List.range, List.range.loop, List.length_cons, List.length_nil, List.zip_cons_cons, List.zip_nil_left]
  unfold nextR
  rcases distR_cases t down d false with ⟨h1, h2, h3, h4, h5⟩ | ⟨e, h1, h2, h5⟩
  · rw [h5] at hs
    rw [if_pos h4]
    have ht := maskOk_ok h1
    have hml := maskOk_len h1
    have hd := isDist_ok ht (distL_is ht down h2 h3 false)
    have hg := rnext_good t down (distL t down d false) n d ht hml hd
    by_cases c1 : n < 0
    · rw [if_neg (by omega)]
      (repeat (first | refine Stp.go ?_ | refine v_region ?_ | refine v_regionD ?_ | refine v_blocky (by decide) ?_ | ((first | refine v_o rfl ?_ ?_ | refine v_oD rfl ?_ ?_); (focus (simp only [pvT, ite_bool, c1,  go_sem]; done)); simp only [Env.put]) | ((first | refine v_u rfl fun K hK => ?_ | refine v_g rfl fun K hK => ?_ | refine v_uD rfl fun K hK => ?_ | refine v_gD rfl fun K hK => ?_); simp only [pvT, ite_bool, c1,  go_sem]) | (first | (refine callK_pure (fun hc => hs) rfl ?_; simp only [upds, eq_self, true_or, true_and])) | refine v_end ?_ | refine v_endD (by kernel_rfl) ?_ | (refine hK _ _ ?_; clear hK K) | refine ⟨by (first | trivial | assumption | omega | (intros; first | assumption | omega)), ?_⟩ | (apply v_condb; (focus (simp only [pvT, ite_bool, c1,  go_sem]; first | exact pvt | exact pvf)); simp only [cond_true, cond_false]) | fail))
      (first | refine v_fin_n ?_ | refine v_fin_r ?_); simp only [ resK, one, PV.snap, go_sem]
      exact Wk.two (Wk.nil 1) (.refl _)
    · by_cases c2 : t.n ≤ n
      · rw [if_neg (by omega)]
        (repeat (first | refine Stp.go ?_ | refine v_region ?_ | refine v_regionD ?_ | refine v_blocky (by decide) ?_ | ((first | refine v_o rfl ?_ ?_ | refine v_oD rfl ?_ ?_); (focus (simp only [pvT, ite_bool, c1, c2, go_sem]; done)); simp only [Env.put]) | ((first | refine v_u rfl fun K hK => ?_ | refine v_g rfl fun K hK => ?_ | refine v_uD rfl fun K hK => ?_ | refine v_gD rfl fun K hK => ?_); simp only [pvT, ite_bool, c1, c2, go_sem]) | (first | (refine callK_pure (fun hc => hs) rfl ?_; simp only [upds, eq_self, true_or, true_and])) | refine v_end ?_ | refine v_endD (by kernel_rfl) ?_ | (refine hK _ _ ?_; clear hK K) | refine ⟨by (first | trivial | assumption | omega | (intros; first | assumption | omega)), ?_⟩ | (apply v_condb; (focus (simp only [pvT, ite_bool, c1, c2, go_sem]; first | exact pvt | exact pvf)); simp only [cond_true, cond_false]) | fail))
        (first | refine v_fin_n ?_ | refine v_fin_r ?_); simp only [ resK, one, PV.snap, go_sem]
        exact Wk.two (Wk.nil 1) (.refl _)
      · rw [if_pos (by omega)]
        (repeat (first | refine Stp.go ?_ | refine v_region ?_ | refine v_regionD ?_ | refine v_blocky (by decide) ?_ | ((first | refine v_o rfl ?_ ?_ | refine v_oD rfl ?_ ?_); (focus (simp only [pvT, ite_bool, c1, c2,  go_sem]; done)); simp only [Env.put]) | ((first | refine v_u rfl fun K hK => ?_ | refine v_g rfl fun K hK => ?_ | refine v_uD rfl fun K hK => ?_ | refine v_gD rfl fun K hK => ?_); simp only [pvT, ite_bool, c1, c2,  go_sem]) | (first | (refine callK_pure (fun hc => hs) rfl ?_; simp only [upds, eq_self, true_or, true_and]) | (refine callK_pure (fun hc => hg) rfl ?_; simp only [upds, eq_self, true_or, true_and])) | refine v_end ?_ | refine v_endD (by kernel_rfl) ?_ | (refine hK _ _ ?_; clear hK K) | refine ⟨by (first | trivial | assumption | omega | (intros; first | assumption | omega)), ?_⟩ | (apply v_condb; (focus (simp only [pvT, ite_bool, c1, c2,  go_sem]; first | exact pvt | exact pvf)); simp only [cond_true, cond_false]) | fail))
        (first | refine v_fin_n ?_ | refine v_fin_r ?_); simp only [ resK, one, PV.snap, go_sem]
        exact Wk.refl _
  · rw [h5] at hs
    rw [if_neg (by omega), h2]
    have c1 : ¬ e = 0 := by omega
    (repeat (first | refine Stp.go ?_ | refine v_region ?_ | refine v_regionD ?_ | refine v_blocky (by decide) ?_ | ((first | refine v_o rfl ?_ ?_ | refine v_oD rfl ?_ ?_); (focus (simp only [pvT, ite_bool, c1, go_sem]; done)); simp only [Env.put]) | ((first | refine v_u rfl fun K hK => ?_ | refine v_g rfl fun K hK => ?_ | refine v_uD rfl fun K hK => ?_ | refine v_gD rfl fun K hK => ?_); simp only [pvT, ite_bool, c1, go_sem]) | (first | (refine callK_pure (fun hc => hs) rfl ?_; simp only [upds, eq_self, true_or, true_and])) | refine v_end ?_ | refine v_endD (by kernel_rfl) ?_ | (refine hK _ _ ?_; clear hK K) | refine ⟨by (first | trivial | assumption | omega | (intros; first | assumption | omega)), ?_⟩ | (apply v_condb; (focus (simp only [pvT, ite_bool, c1, go_sem]; first | exact pvt | exact pvf)); simp only [cond_true, cond_false]) | fail))
    (first | refine v_fin_n ?_ | refine v_fin_r ?_); simp only [ resK, one, PV.snap, go_sem]
    exact Wk.two (Wk.nil 1) (.refl _)
end Go.V
/- Layer 12: the order of the nodes, as the program finds it. -/
set_option linter.unusedVariables false
set_option linter.unusedSimpArgs false
namespace Go.V
open Go.RowKit Go.Proofs
attribute [local irreducible] wp seqK lexK opK callK upd sto Good GoodR

set_option maxHeartbeats 2000000 in
theorem gorder_good (t : Topo) (down : List Bool) (d : Int) (dist : List Int) (hL : dist.length < 20) (hne : reachK dist dist.length ≠ []) :
    Good Try.prog 41 [pvG t down d dist] (.slc 1 (ints (orderL dist))) := by
  refine v_enter ttok mixed Try.func41 (by kernel_rfl) rfl Try.ntmps41 Try.results41 (by simp) ?_; rw [fresh_sto]; simp only [argEnv, List.range, List.range.loop, List.length_cons, List.length_nil, List.zip_cons_cons, List.zip_nil_left]
  (repeat (first | refine Stp.go ?_ | refine v_region ?_ | refine v_regionD ?_ | refine v_blocky (by decide) ?_ | ((first | refine v_o rfl ?_ ?_ | refine v_oD rfl ?_ ?_); (focus (simp only [pvG, ite_bool, ints_length, go_sem]; done)); simp only [Env.put]) | ((first | refine v_u rfl fun K hK => ?_ | refine v_g rfl fun K hK => ?_ | refine v_uD rfl fun K hK => ?_ | refine v_gD rfl fun K hK => ?_); simp only [pvG, ite_bool, ints_length, go_sem]) | (fail) | refine v_end ?_ | refine v_endD (by kernel_rfl) ?_ | (refine hK _ _ ?_; clear hK K) | refine ⟨by (first | trivial | assumption | omega | (intros; first | assumption | omega)), ?_⟩ | (apply v_condb; (focus (simp only [pvG, ite_bool, ints_length, go_sem]; first | exact pvt | exact pvf)); simp only [cond_true, cond_false]) | fail))
  refine v_loop [1, 3, 7, 8, 9] (fun k : Nat => k ≤ dist.length) (fun k => dist.length - k)
    (fun k => [.ptr 102 6 0 0, osl 101 (reachK dist k), .slc 1 (ints dist), .int .i64 dist.length, .int .i64 k]) (fun k => (102, .row 67 6 [pvG t down d dist]) :: oslG 101 3 (reachK dist k)) 0 (Nat.zero_le _) ?_ ?_
  · exact (fits_sto _ (fun x => if x = 102 then 1000 else x) (by simp [Env.get, PV.renL, PV.ren , pvG, reachK, osl_nil, oslG_nil]) (by simp [PV.refsL, PV.refs , pvG, reachK, osl_nil, oslG_nil]) (by simp [SC.live, SC.ren, SC.refs, PV.renL, PV.ren, PV.refsL, PV.refs, sto_cons, sto_nil , pvG, reachK, osl_nil, oslG_nil]) (by simp [reachK, oslG_nil]))
  · intro k hk
    simp only [List.zip_cons_cons, List.zip_nil_left]
    have hlen := reachK_length dist k
    have hsucc := reachK_succ dist k
    by_cases hc : k < dist.length
    · have z1 : (k : Int) < dist.length := by omega
      have z2 : (0 : Int) ≤ k := by omega
      have z3 : IntKind.i64.wrap ((k : Int) + 1) = ((k + 1 : Nat) : Int) := by rw [wrap_i64 (by omega) (by omega)]; omega
      have hA := ints_get' hc
      generalize dist.getD k (-1) = x at *
      generalize hL : reachK dist k = l at *
      have f1 : (l.length + 1) * 8 ≤ 140737488355328 := by omega
      have f2 : l.length + 1 ≤ 140737488355328 := by omega
      have f3 := ints_take_all l
      have f4 := no_room l.length
      have f5 : l.length ≤ l.length := Nat.le_refl _
      by_cases hx : 0 ≤ x
      · rw [if_pos hx] at hsucc
        by_cases hnil : l = []
        · subst hnil
          rw [osl_nil, oslG_nil]
          (repeat (first | refine Stp.go ?_ | refine v_region ?_ | refine v_regionD ?_ | refine v_blocky (by decide) ?_ | ((first | refine v_o rfl ?_ ?_ | refine v_oD rfl ?_ ?_); (focus (simp only [pvG, ite_bool, ints_length, z1, z2, z3, hA, hx, rep1', go_sem]; done)); simp only [Env.put]) | ((first | refine v_u rfl fun K hK => ?_ | refine v_g rfl fun K hK => ?_ | refine v_uD rfl fun K hK => ?_ | refine v_gD rfl fun K hK => ?_); simp only [pvG, ite_bool, ints_length, z1, z2, z3, hA, hx, rep1', go_sem]) | (fail) | refine v_end ?_ | refine v_endD (by kernel_rfl) ?_ | (refine hK _ _ ?_; clear hK K) | refine ⟨by (first | trivial | assumption | omega | (intros; first | assumption | omega)), ?_⟩ | (apply v_condb; (focus (simp only [pvG, ite_bool, ints_length, z1, z2, z3, hA, hx, rep1', go_sem]; first | exact pvt | exact pvf)); simp only [cond_true, cond_false]) | fail))
          refine v_round (k + 1) hc (by omega) (fits_sto _ (fun x => if x = 101 then 7003 else x) (by simp [Env.get, PV.renL, PV.ren , hsucc, osl_cons, oslG_cons, ints, pvG]) (by simp [PV.refsL, PV.refs , hsucc, osl_cons, oslG_cons, ints, pvG]) (by simp [SC.live, SC.ren, SC.refs, PV.renL, PV.ren, PV.refsL, PV.refs, sto_cons, sto_nil , hsucc, osl_cons, oslG_cons, ints, pvG]) (by simp [hsucc, oslG_cons]))
        · rw [osl_some hnil, oslG_some hnil]
          (repeat (first | refine Stp.go ?_ | refine v_region ?_ | refine v_regionD ?_ | refine v_blocky (by decide) ?_ | ((first | refine v_o rfl ?_ ?_ | refine v_oD rfl ?_ ?_); (focus (simp only [pvG, ite_bool, ints_length, z1, z2, z3, hA, hx, rep1', f1, f2, f3, f4, f5, go_sem]; done)); simp only [Env.put]) | ((first | refine v_u rfl fun K hK => ?_ | refine v_g rfl fun K hK => ?_ | refine v_uD rfl fun K hK => ?_ | refine v_gD rfl fun K hK => ?_); simp only [pvG, ite_bool, ints_length, z1, z2, z3, hA, hx, rep1', f1, f2, f3, f4, f5, go_sem]) | (fail) | refine v_end ?_ | refine v_endD (by kernel_rfl) ?_ | (refine hK _ _ ?_; clear hK K) | refine ⟨by (first | trivial | assumption | omega | (intros; first | assumption | omega)), ?_⟩ | (apply v_condb; (focus (simp only [pvG, ite_bool, ints_length, z1, z2, z3, hA, hx, rep1', f1, f2, f3, f4, f5, go_sem]; first | exact pvt | exact pvf)); simp only [cond_true, cond_false]) | fail))
          refine v_round (k + 1) hc (by omega) (fits_sto _ (fun x => if x = 101 then 7003 else x) (by simp [Env.get, PV.renL, PV.ren , hsucc, osl_snoc, oslG_snoc, ints_snoc, renL_ints, refsL_ints, pvG]) (by simp [PV.refsL, PV.refs , hsucc, osl_snoc, oslG_snoc, ints_snoc, renL_ints, refsL_ints, pvG]) (by simp [SC.live, SC.ren, SC.refs, PV.renL, PV.ren, PV.refsL, PV.refs, sto_cons, sto_nil , hsucc, osl_snoc, oslG_snoc, ints_snoc, renL_ints, refsL_ints, pvG]) (by simp [hsucc, oslG_snoc]))
      · rw [if_neg hx] at hsucc
        simp only [List.append_nil] at hsucc
        (repeat (first | refine Stp.go ?_ | refine v_region ?_ | refine v_regionD ?_ | refine v_blocky (by decide) ?_ | ((first | refine v_o rfl ?_ ?_ | refine v_oD rfl ?_ ?_); (focus (simp only [pvG, ite_bool, ints_length, z1, z2, z3, hA, hx, go_sem]; done)); simp only [Env.put]) | ((first | refine v_u rfl fun K hK => ?_ | refine v_g rfl fun K hK => ?_ | refine v_uD rfl fun K hK => ?_ | refine v_gD rfl fun K hK => ?_); simp only [pvG, ite_bool, ints_length, z1, z2, z3, hA, hx, go_sem]) | (fail) | refine v_end ?_ | refine v_endD (by kernel_rfl) ?_ | (refine hK _ _ ?_; clear hK K) | refine ⟨by (first | trivial | assumption | omega | (intros; first | assumption | omega)), ?_⟩ | (apply v_condb; (focus (simp only [pvG, ite_bool, ints_length, z1, z2, z3, hA, hx, go_sem]; first | exact pvt | exact pvf)); simp only [cond_true, cond_false]) | fail))
        by_cases hnil : l = []
        · subst hnil
          rw [osl_nil, oslG_nil]
          refine v_round (k + 1) hc (by omega) (fits_sto _ id (by simp [Env.get, PV.renL, PV.ren , hsucc, osl_nil, oslG_nil, ints, renL_ints, refsL_ints, pvG]) (by simp [PV.refsL, PV.refs , hsucc, osl_nil, oslG_nil, ints, renL_ints, refsL_ints, pvG]) (by simp [SC.live, SC.ren, SC.refs, PV.renL, PV.ren, PV.refsL, PV.refs, sto_cons, sto_nil , hsucc, osl_nil, oslG_nil, ints, renL_ints, refsL_ints, pvG]) (by simp [hsucc, oslG_nil, pvG]))
        · rw [osl_some hnil, oslG_some hnil]
          refine v_round (k + 1) hc (by omega) (fits_sto _ id (by simp [Env.get, PV.renL, PV.ren , hsucc, osl_some hnil, oslG_some hnil, renL_ints, refsL_ints, pvG]) (by simp [PV.refsL, PV.refs , hsucc, osl_some hnil, oslG_some hnil, renL_ints, refsL_ints, pvG]) (by simp [SC.live, SC.ren, SC.refs, PV.renL, PV.ren, PV.refsL, PV.refs, sto_cons, sto_nil , hsucc, osl_some hnil, oslG_some hnil, renL_ints, refsL_ints, pvG]) (by simp [hsucc, oslG_some hnil, pvG]))
    · have z1 : ¬ (k : Int) < dist.length := by omega
      have hkn : k = dist.length := by omega
      rw [← hkn] at hne
      have hsort := sort_good 67 67 6 (pvG t down d dist) (fun x y => cmpI (dist.getD y.toNat (-1)) (dist.getD x.toNat (-1))) (reachK dist k) (by omega) (fun _ => rfl) rfl rfl (fun x hx y hy => by
        obtain ⟨i, rfl, hi, _⟩ := reachK_mem.1 hx
        obtain ⟨j, rfl, hj, _⟩ := reachK_mem.1 hy
        simp only [Int.toNat_natCast]
        exact ordcmp_good t down d dist i j (by omega) (by omega))
      have eo : SP.isort (fun x y => decide (cmpI (dist.getD y.toNat (-1)) (dist.getD x.toNat (-1)) < 0)) (reachK dist k) = orderL dist := by rw [hkn]; rfl
      rw [eo] at hsort
      have hol : (orderL dist).length = (reachK dist k).length := by rw [hkn]; exact (SP.isort_perm _ _ _ rfl).length_eq
      generalize orderL dist = out at *
      generalize reachK dist k = l at *
      rw [osl_some hne, oslG_some hne]
      (repeat (first | refine Stp.go ?_ | refine v_region ?_ | refine v_regionD ?_ | refine v_blocky (by decide) ?_ | (refine v_callR (by simp [dstOk]) rfl ?_; simp only [List.map_cons, List.map_nil, List.nil_append, List.append_nil, List.cons_append, Env.eval, Env.get, reduceIte, Nat.reduceEqDiff, List.toList_toArray, PV.ofConst]; refine callR_sto ([.sref 1 1 0 l.length false, .fn 67 [] [.ptr 2 6 0 0]]) ([(1, .row 3 1 (ints l)), (2, .row 67 6 [pvG t down d dist])]) ((fun x => if x = 1 then 101 else if x = 2 then 102 else x)) (hsort) (by simp [PV.renL, PV.ren , pvG, renL_ints, refsL_ints]) (by simp [PV.refsL, PV.refs , pvG, renL_ints, refsL_ints]) (by simp [SC.live, SC.ren, SC.refs, PV.renL, PV.ren, PV.refsL, PV.refs, sto_cons, sto_nil, renL_ints, refsL_ints, renL_nats, refsL_nats, List.length_set , pvG, renL_ints, refsL_ints]) (by simp [id_eq , pvG, renL_ints, refsL_ints]) ?_; rintro _ _ ⟨rfl, rfl⟩; refine ⟨[(1, .row 3 1 (ints out)), (2, .row 67 6 [pvG t down d dist])], (fun x => if x = 1 then 101 else if x = 2 then 102 else x), rfl, (by simp [SC.live, SC.ren, SC.refs, PV.renL, PV.ren, PV.refsL, PV.refs, sto_cons, sto_nil, renL_ints, refsL_ints, renL_nats, refsL_nats, List.length_set , pvG, renL_ints, refsL_ints]), (by simp [PV.refsL, PV.refs , pvG, renL_ints, refsL_ints]), (by simp [Free, sto_cons, sto_nil , pvG, renL_ints, refsL_ints]), (by simp [id_eq , pvG, renL_ints, refsL_ints]), ?_⟩; simp only [backL, List.map_cons, List.map_nil, List.cons_append, List.nil_append, SC.ren, PV.renL, PV.ren, renL_ints, renL_nats, id_eq, Env.put , pvG, renL_ints, refsL_ints]) | ((first | refine v_o rfl ?_ ?_ | refine v_oD rfl ?_ ?_); (focus (simp only [ite_bool, ints_length, z1, go_sem]; done)); simp only [Env.put]) | ((first | refine v_u rfl fun K hK => ?_ | refine v_g rfl fun K hK => ?_ | refine v_uD rfl fun K hK => ?_ | refine v_gD rfl fun K hK => ?_); simp only [ite_bool, ints_length, z1, go_sem]) | (refine v_loopx ?_) | refine v_end ?_ | refine v_endD (by kernel_rfl) ?_ | (refine hK _ _ ?_; clear hK K) | refine ⟨by (first | trivial | assumption | omega | (intros; first | assumption | omega)), ?_⟩ | (apply v_condb; (focus (simp only [ite_bool, ints_length, z1, go_sem]; first | exact pvt | exact pvf)); simp only [cond_true, cond_false]) | fail))
      (first | refine v_fin_n ?_ | refine v_fin_r ?_); simp only [ resK, one, PV.snap, go_sem]
      refine wk_eq ?_
      simp [sto_cons, ints_length, List.take_of_length_le, snap_ints, hol]
end Go.V
/- Layer 12: the order of the nodes, as the document finds it. -/
set_option linter.unusedVariables false
set_option linter.unusedSimpArgs false
namespace Go.V
open Go.RowKit Go.Proofs
attribute [local irreducible] wp seqK lexK opK callK upd sto Good GoodR

/-- A node that counts. -/
def Elig (dist : List Int) (x : Int) : Prop := ∃ i : Nat, x = i ∧ i < dist.length ∧ 0 ≤ dist.getD i (-1)
abbrev RkD (dist : List Int) := SP.Rk fun n => dist.getD n.toNat (-1)
structure OrdI (dist out : List Int) : Prop where
  sorted : out.Pairwise (RkD dist)
  elig : ∀ x ∈ out, Elig dist x
  first : ∀ y ∈ out, ∀ z, Elig dist z → z ∉ out → RkD dist y z
def ordMeas (dist out : List Int) : Nat := ((reachK dist dist.length).filter fun x => decide (x ∉ out)).length
theorem filter_lt {l : List Int} {p q : Int → Bool} (h : ∀ x, q x = true → p x = true) {x : Int} (hx : x ∈ l) (hp : p x = true) (hq : q x = false) : (l.filter q).length < (l.filter p).length := by
  have hle : ∀ l : List Int, (l.filter q).length ≤ (l.filter p).length := by
    intro l
    induction l with
    | nil => simp
    | cons a l ih =>
      simp only [List.filter_cons]
      by_cases h1 : q a = true
      · simp [h1, h a h1, ih]
      · by_cases h2 : p a = true <;> simp [h1, h2] <;> omega
  induction l with
  | nil => simp at hx
  | cons a l ih =>
    simp only [List.filter_cons]
    rcases List.mem_cons.1 hx with rfl | hx
    · simp [hp, hq]; have := hle l; omega
    · have := ih hx
      by_cases h1 : q a = true
      · simp [h1, h a h1, this]
      · by_cases h2 : p a = true <;> simp [h1, h2] <;> omega
theorem OrdI.add {dist out : List Int} (h : OrdI dist out) {b : Int} (hb : Elig dist b) (hn : b ∉ out) (hf : ∀ z, Elig dist z → z ∉ out → z = b ∨ RkD dist b z) : OrdI dist (out ++ [b]) ∧ ordMeas dist (out ++ [b]) < ordMeas dist out := by
  refine ⟨⟨List.pairwise_append.2 ⟨h.sorted, by simp, fun y hy z hz => by simp at hz; subst hz; exact h.first y hy z hb hn⟩, fun x hx => ?_, fun y hy z hz hzn => ?_⟩, ?_⟩
  · rcases List.mem_append.1 hx with hx | hx
    · exact h.elig x hx
    · simp at hx; subst hx; exact hb
  · simp only [List.mem_append, List.mem_singleton, not_or] at hzn
    rcases List.mem_append.1 hy with hy | hy
    · exact h.first y hy z hz hzn.1
    · simp at hy; subst hy
      exact (hf z hz hzn.1).resolve_left hzn.2
  · obtain ⟨i, rfl, hi, h0⟩ := hb
    refine filter_lt (x := (i : Int)) (fun x hx => ?_) (reachK_mem.2 ⟨i, rfl, hi, h0⟩) (by simpa using hn) (by simp)
    simp only [decide_eq_true_eq, List.mem_append, not_or] at hx ⊢
    exact hx.1
theorem OrdI.done {dist out : List Int} (h : OrdI dist out) (hno : ∀ z, Elig dist z → z ∈ out) : out = orderL dist :=
  orderL_unique h.sorted fun x => ⟨h.elig x, hno x⟩
/-- The best of the nodes so far. -/
def BestI (dist out : List Int) (k : Nat) (best : Int) : Prop :=
  (best = -1 ∧ ∀ z, Elig dist z → z < (k : Int) → z ∈ out) ∨ (Elig dist best ∧ best ∉ out ∧ best < (k : Int) ∧ ∀ z, Elig dist z → z ∉ out → z < (k : Int) → z = best ∨ RkD dist best z)
theorem BestI.skip {dist out : List Int} {k : Nat} {best : Int} (h : BestI dist out k best) (hk : ¬ (Elig dist k ∧ (k : Int) ∉ out) ∨ (0 ≤ best ∧ dist.getD k (-1) ≤ dist.getD best.toNat (-1))) : BestI dist out (k + 1) best := by
  rcases h with ⟨h1, h2⟩ | ⟨h1, h2, h3, h4⟩
  · left
    refine ⟨h1, fun z hz hzk => ?_⟩
    rcases hk with hk | hk
    · by_cases e : z = k
      · subst e; exact Classical.byContradiction fun hn => hk ⟨hz, hn⟩
      · exact h2 z hz (by omega)
    · omega
  · right
    refine ⟨h1, h2, by omega, fun z hz hzn hzk => ?_⟩
    by_cases e : z = k
    · subst e
      rcases hk with hk | hk
      · exact absurd ⟨hz, hzn⟩ hk
      · right; unfold RkD SP.Rk; simp only [Int.toNat_natCast]; omega
    · exact h4 z hz hzn (by omega)
theorem BestI.take {dist out : List Int} {k : Nat} {best : Int} (h : BestI dist out k best) (hk : Elig dist k) (hn : (k : Int) ∉ out) (hb : best < 0 ∨ dist.getD best.toNat (-1) < dist.getD k (-1)) : BestI dist out (k + 1) k := by
  right
  refine ⟨hk, hn, by omega, fun z hz hzn hzk => ?_⟩
  by_cases e : z = k
  · exact .inl e
  · right
    rcases h with ⟨h1, h2⟩ | ⟨h1, h2, h3, h4⟩
    · exact absurd (h2 z hz (by omega)) hzn
    · have hbest : 0 ≤ best := by obtain ⟨i, rfl, _, _⟩ := h1; omega
      have hb' := hb.resolve_left (by omega)
      rcases h4 z hz hzn (by omega) with e2 | e2
      · subst e2; left; simpa using hb'
      · simp only [RkD, SP.Rk, Int.toNat_natCast] at e2 ⊢; omega

theorem has_nil_good (x : Int) : Good Try.prog 18 [.nilS, .int .i64 x] (.bool false) := by
  have := has_in_good [] x (by simp)
  refine Good.pre (show Good Try.prog 18 [.slc 1 (ints []), .int .i64 x] (.bool false) from by simpa using this) rfl fun j p q hp hq => ?_
  match j with
  | 0 => simp at hp hq; subst hp hq; exact Wk.nil 1
  | 1 => simp at hp hq; subst hp hq; exact Wk.refl _
  | j + 2 => simp at hp

noncomputable def orderR (t : Topo) (down : List Bool) (d : Int) : PV :=
  if distE t down d = 0 then .tup [.slc 1 (ints (orderL (distL t down d false))), .int .i64 0] else .tup [.slc 1 [], .int .i64 (distE t down d)]

theorem OrdI.len {dist out : List Int} (h : OrdI dist out) : out.length ≤ dist.length := by
  have hget : ∀ j (hj : j < out.length), out.getD j 0 = out[j] := fun j hj => by simp [List.getD, hj]
  refine Heap.pigeon dist.length out.length (fun j => (out.getD j 0).toNat) (fun j hj => ?_) (fun a b ha hb e => ?_)
  · obtain ⟨i, e, hi, _⟩ := h.elig _ (List.getElem_mem hj)
    rw [hget j hj, e]; simpa using hi
  · have h1 := h.elig _ (List.getElem_mem ha)
    have h2 := h.elig _ (List.getElem_mem hb)
    rw [hget a ha, hget b hb] at e
    obtain ⟨i, e1, _, _⟩ := h1
    obtain ⟨i', e2, _, _⟩ := h2
    have e3 : out[a] = out[b] := by omega
    rcases Nat.lt_trichotomy a b with hl | hl | hl
    · have := List.pairwise_iff_getElem.1 h.sorted a b ha hb hl
      rw [e3] at this; exact absurd this SP.Rk.irrefl
    · exact hl
    · have := List.pairwise_iff_getElem.1 h.sorted b a hb ha hl
      rw [e3] at this; exact absurd this SP.Rk.irrefl

set_option maxHeartbeats 4000000 in
theorem rorder_good (t : Topo) (down : List Bool) (d : Int) : Good Try.prog 17 [pvT t, .slc 1 (bools down), .int .i64 d] (orderR t down d) := by
  have hs := rdist_good t down d
  refine v_enter ttok mixed Try.func17 (by kernel_rfl) rfl Try.ntmps17 Try.results17 (by simp) ?_; rw [fresh_sto]; simp only [argEnv, List.range, List.range.loop, List.length_cons, List.length_nil, List.zip_cons_cons, List.zip_nil_left]
  unfold orderR
  rcases distR_cases t down d false with ⟨h1, h2, h3, h4, h5⟩ | ⟨e, h1, h2, h5⟩
  · rw [h5] at hs
    rw [if_pos h4]
    have ht := maskOk_ok h1
    obtain ⟨hn1, hn2, hn3, hn4⟩ := Topo.frame_n (Topo.ok_frame ht)
    have hD := isDist_ok ht (distL_is ht down h2 h3 false)
    have hDl := hD.1
    generalize distL t down d false = dist at *
    (repeat (first | refine Stp.go ?_ | refine v_region ?_ | refine v_regionD ?_ | refine v_blocky (by decide) ?_ | ((first | refine v_o rfl ?_ ?_ | refine v_oD rfl ?_ ?_); (focus (simp only [pvT, ite_bool,  go_sem]; done)); simp only [Env.put]) | ((first | refine v_u rfl fun K hK => ?_ | refine v_g rfl fun K hK => ?_ | refine v_uD rfl fun K hK => ?_ | refine v_gD rfl fun K hK => ?_); simp only [pvT, ite_bool,  go_sem]) | (first | (refine callK_pure (fun hc => hs) rfl ?_; simp only [upds, eq_self, true_or, true_and])) | refine v_end ?_ | refine v_endD (by kernel_rfl) ?_ | (refine hK _ _ ?_; clear hK K) | refine ⟨by (first | trivial | assumption | omega | (intros; first | assumption | omega)), ?_⟩ | (apply v_condb; (focus (simp only [pvT, ite_bool,  go_sem]; first | exact pvt | exact pvf)); simp only [cond_true, cond_false]) | fail))
    refine v_loop [3, 8, 10] (fun out : List Int => OrdI dist out ∧ out.length ≤ dist.length) (fun out => ordMeas dist out)
      (fun out => [.ptr 102 3 0 0, .slc 1 (ints dist), osl 101 out]) (fun out => (102, .row 25 3 [pvT t]) :: oslG 101 3 out) [] ⟨⟨.nil, by simp, by simp⟩, by simp⟩ ?_ ?_
    · exact (fits_sto _ (fun x => if x = 102 then 1000 else x) (by simp [Env.get, PV.renL, PV.ren , pvT, osl_nil, oslG_nil]) (by simp [PV.refsL, PV.refs , pvT, osl_nil, oslG_nil]) (by simp [SC.live, SC.ren, SC.refs, PV.renL, PV.ren, PV.refsL, PV.refs, sto_cons, sto_nil , pvT, osl_nil, oslG_nil]) (by simp [oslG_nil]))
    · rintro out ⟨hoi, hol⟩
      simp only [List.zip_cons_cons, List.zip_nil_left]
      have hN : t.n = (dist.length : Nat) := by omega
      have step : ∀ b : Int, Elig dist b → b ∉ out → (∀ z, Elig dist z → z ∉ out → z = b ∨ RkD dist b z) → OrdI dist (out ++ [b]) ∧ ordMeas dist (out ++ [b]) < ordMeas dist out := fun b h1 h2 h3 => hoi.add h1 h2 h3
      have f1 : (out.length + 1) * 8 ≤ 140737488355328 := by omega
      have f2 : out.length + 1 ≤ 140737488355328 := by omega
      have f3 := ints_take_all out
      have f4 := no_room out.length
      have f5 : out.length ≤ out.length := Nat.le_refl _
      by_cases hnil : out = []
      · have o1 : osl 101 out = .nilS := by rw [hnil]; rfl
        have o2 : oslG 101 3 out = [] := by rw [hnil]; rfl
        have o3 : ∀ b : Int, osl 14003 (out ++ [b]) = .sref 14003 1 0 1 false := fun b => by rw [hnil]; rfl
        have o4 : ∀ b : Int, ints (out ++ [b]) = [.int .i64 b] := fun b => by rw [hnil]; rfl
        have o5 : out.length = 0 := by rw [hnil]; rfl
        rw [o1, o2]
        (repeat (first | refine Stp.go ?_ | refine v_region ?_ | refine v_regionD ?_ | refine v_blocky (by decide) ?_ | ((first | refine v_o rfl ?_ ?_ | refine v_oD rfl ?_ ?_); (focus (simp only [pvT, ite_bool, pvT, go_sem]; done)); simp only [Env.put]) | ((first | refine v_u rfl fun K hK => ?_ | refine v_g rfl fun K hK => ?_ | refine v_uD rfl fun K hK => ?_ | refine v_gD rfl fun K hK => ?_); simp only [pvT, ite_bool, pvT, go_sem]) | (fail) | refine v_end ?_ | refine v_endD (by kernel_rfl) ?_ | (refine hK _ _ ?_; clear hK K) | refine ⟨by (first | trivial | assumption | omega | (intros; first | assumption | omega)), ?_⟩ | (apply v_condb; (focus (simp only [pvT, ite_bool, pvT, go_sem]; first | exact pvt | exact pvf)); simp only [cond_true, cond_false]) | fail))
        refine v_loop [3, 8, 10, 11, 12] (fun s : Nat × Int => s.1 ≤ dist.length ∧ BestI dist out s.1 s.2) (fun s => dist.length - s.1)
          (fun s => [.ptr 102 3 0 0, .slc 1 (ints dist), .nilS, .int .i64 s.2, .int .i64 s.1]) (fun s => (102, .row 25 3 [pvT t]) :: ([] : List (Nat × SC))) (0, -1) ⟨Nat.zero_le _, .inl ⟨rfl, fun z hz hz0 => by obtain ⟨i, rfl, _, _⟩ := hz; simp at hz0; omega⟩⟩ ?_ ?_
        · exact (fits_sto _ id (by simp [Env.get, PV.renL, PV.ren , pvT, renL_ints, refsL_ints]) (by simp [PV.refsL, PV.refs , pvT, renL_ints, refsL_ints]) (by simp [SC.live, SC.ren, SC.refs, PV.renL, PV.ren, PV.refsL, PV.refs, sto_cons, sto_nil , pvT, renL_ints, refsL_ints]) (by simp ))
        · rintro ⟨k, best⟩ ⟨hk, hbi⟩
          simp only at hk hbi
          simp only [List.zip_cons_cons, List.zip_nil_left]
          have hbr : best = -1 ∨ (0 ≤ best ∧ best < dist.length) := by
            rcases hbi with ⟨h, _⟩ | ⟨⟨i, rfl, hi, _⟩, _⟩
            · exact .inl h
            · exact .inr ⟨by omega, by omega⟩
          by_cases hc : k < dist.length
          · have z1 : (k : Int) < dist.length := by omega
            have z2 : (0 : Int) ≤ k := by omega
            have z3 : IntKind.i64.wrap ((k : Int) + 1) = ((k + 1 : Nat) : Int) := by rw [wrap_i64 (by omega) (by omega)]; omega
            have hA := ints_get' hc
            generalize hdk : dist.getD k (-1) = dk at *
            have hhas := has_in_good out k (by omega)
            have hnm : decide ((k : Int) ∈ out) = false → (k : Int) ∉ out := fun h => by simpa using h
            have hnm' : (k : Int) ∉ out → decide ((k : Int) ∈ out) = false := fun h => by simpa using h
            generalize decide ((k : Int) ∈ out) = hb at *
            rcases hbr with hbr | ⟨u2, u3⟩
            · have u1 : best < 0 := by omega
              generalize hdb : dist.getD best.toNat (-1) = db
              clear hbr
              (repeat (first | refine Stp.go ?_ | refine v_region ?_ | refine v_regionD ?_ | refine v_blocky (by decide) ?_ | ((first | refine v_o rfl ?_ ?_ | refine v_oD rfl ?_ ?_); (focus (simp only [pvT, ite_bool, ints_length, z1, z2, z3, hN, hA, u1, go_sem]; done)); simp only [Env.put]) | ((first | refine v_u rfl fun K hK => ?_ | refine v_g rfl fun K hK => ?_ | refine v_uD rfl fun K hK => ?_ | refine v_gD rfl fun K hK => ?_); simp only [pvT, ite_bool, ints_length, z1, z2, z3, hN, hA, u1, go_sem]) | (first | (refine callK_pure (fun hc => has_nil_good _) rfl ?_; simp only [upds, eq_self, true_or, true_and]) | (refine callK_lent (fun hc => hhas) (by simp [PV.snap, sto_cons, ints_length, ints_take_all, snap_ints]) rfl ?_; simp only [upds, eq_self, true_or, true_and])) | refine v_end ?_ | refine v_endD (by kernel_rfl) ?_ | (refine hK _ _ ?_; clear hK K) | refine ⟨by (first | trivial | assumption | omega | (intros; first | assumption | omega)), ?_⟩ | (apply v_condb; (focus (simp only [pvT, ite_bool, ints_length, z1, z2, z3, hN, hA, u1, go_sem]; first | exact pvt | exact pvf)); simp only [cond_true, cond_false]) | fail))
              refine v_cond rfl (fun hx => ?_) (fun hx => ?_)
              · have hcase : 0 ≤ dk ∧ false = false ∧ (best < 0 ∨ db < dk) := by
                  revert hx
                  by_cases q1 : 0 ≤ dk <;> by_cases q2 : db < dk  <;> simp [q1, q2, u1] <;> omega
                clear hx
                (repeat (first | refine Stp.go ?_ | refine v_region ?_ | refine v_regionD ?_ | refine v_blocky (by decide) ?_ | ((first | refine v_o rfl ?_ ?_ | refine v_oD rfl ?_ ?_); (focus (simp only [pvT, z3, go_sem]; done)); simp only [Env.put]) | ((first | refine v_u rfl fun K hK => ?_ | refine v_g rfl fun K hK => ?_ | refine v_uD rfl fun K hK => ?_ | refine v_gD rfl fun K hK => ?_); simp only [pvT, z3, go_sem]) | (fail) | refine v_end ?_ | refine v_endD (by kernel_rfl) ?_ | (refine hK _ _ ?_; clear hK K) | refine ⟨by (first | trivial | assumption | omega | (intros; first | assumption | omega)), ?_⟩ | (apply v_condb; (focus (simp only [pvT, z3, go_sem]; first | exact pvt | exact pvf)); simp only [cond_true, cond_false]) | fail))
                refine v_round (k + 1, (k : Int)) ⟨hc, hbi.take ⟨k, rfl, hc, by rw [hdk]; exact hcase.1⟩ (by rw [hnil]; simp) (by rw [hdb, hdk]; exact hcase.2.2)⟩ (by simp only; omega) (fits_sto _ id (by simp [Env.get, PV.renL, PV.ren , pvT, hN, renL_ints, refsL_ints, o1, o2]) (by simp [PV.refsL, PV.refs , pvT, hN, renL_ints, refsL_ints, o1, o2]) (by simp [SC.live, SC.ren, SC.refs, PV.renL, PV.ren, PV.refsL, PV.refs, sto_cons, sto_nil , pvT, hN, renL_ints, refsL_ints, o1, o2]) (by simp [o1, o2]))
              · have hcase : ¬ (0 ≤ dk ∧ false = false) ∨ (0 ≤ best ∧ dk ≤ db) := by
                  revert hx
                  by_cases q1 : 0 ≤ dk <;> by_cases q2 : db < dk  <;> simp [q1, q2, u1] <;> omega
                clear hx
                (repeat (first | refine Stp.go ?_ | refine v_region ?_ | refine v_regionD ?_ | refine v_blocky (by decide) ?_ | ((first | refine v_o rfl ?_ ?_ | refine v_oD rfl ?_ ?_); (focus (simp only [pvT, z3, go_sem]; done)); simp only [Env.put]) | ((first | refine v_u rfl fun K hK => ?_ | refine v_g rfl fun K hK => ?_ | refine v_uD rfl fun K hK => ?_ | refine v_gD rfl fun K hK => ?_); simp only [pvT, z3, go_sem]) | (fail) | refine v_end ?_ | refine v_endD (by kernel_rfl) ?_ | (refine hK _ _ ?_; clear hK K) | refine ⟨by (first | trivial | assumption | omega | (intros; first | assumption | omega)), ?_⟩ | (apply v_condb; (focus (simp only [pvT, z3, go_sem]; first | exact pvt | exact pvf)); simp only [cond_true, cond_false]) | fail))
                refine v_round (k + 1, best) ⟨hc, hbi.skip ?_⟩ (by simp only; omega) (fits_sto _ id (by simp [Env.get, PV.renL, PV.ren , pvT, hN, renL_ints, refsL_ints, o1, o2]) (by simp [PV.refsL, PV.refs , pvT, hN, renL_ints, refsL_ints, o1, o2]) (by simp [SC.live, SC.ren, SC.refs, PV.renL, PV.ren, PV.refsL, PV.refs, sto_cons, sto_nil , pvT, hN, renL_ints, refsL_ints, o1, o2]) (by simp [o1, o2]))
                rcases hcase with h | h
                · left
                  rintro ⟨h1, h2⟩
                  refine h ⟨?_, ?_⟩
                  · obtain ⟨i, e, _, h0⟩ := h1
                    have : i = k := by omega
                    subst this
                    rw [hdk] at h0; exact h0
                  · rfl
                · right; rw [hdb, hdk]; exact h
            · have u1 : ¬ best < 0 := by omega
              have hB : (ints dist).getD best.toNat .undef = .int .i64 (dist.getD best.toNat (-1)) := ints_get' (by omega)
              generalize hdb : dist.getD best.toNat (-1) = db at *
              (repeat (first | refine Stp.go ?_ | refine v_region ?_ | refine v_regionD ?_ | refine v_blocky (by decide) ?_ | ((first | refine v_o rfl ?_ ?_ | refine v_oD rfl ?_ ?_); (focus (simp only [pvT, ite_bool, ints_length, z1, z2, z3, hN, hA, u1, u2, u3, hB, go_sem]; done)); simp only [Env.put]) | ((first | refine v_u rfl fun K hK => ?_ | refine v_g rfl fun K hK => ?_ | refine v_uD rfl fun K hK => ?_ | refine v_gD rfl fun K hK => ?_); simp only [pvT, ite_bool, ints_length, z1, z2, z3, hN, hA, u1, u2, u3, hB, go_sem]) | (first | (refine callK_pure (fun hc => has_nil_good _) rfl ?_; simp only [upds, eq_self, true_or, true_and]) | (refine callK_lent (fun hc => hhas) (by simp [PV.snap, sto_cons, ints_length, ints_take_all, snap_ints]) rfl ?_; simp only [upds, eq_self, true_or, true_and])) | refine v_end ?_ | refine v_endD (by kernel_rfl) ?_ | (refine hK _ _ ?_; clear hK K) | refine ⟨by (first | trivial | assumption | omega | (intros; first | assumption | omega)), ?_⟩ | (apply v_condb; (focus (simp only [pvT, ite_bool, ints_length, z1, z2, z3, hN, hA, u1, u2, u3, hB, go_sem]; first | exact pvt | exact pvf)); simp only [cond_true, cond_false]) | fail))
              refine v_cond rfl (fun hx => ?_) (fun hx => ?_)
              · have hcase : 0 ≤ dk ∧ false = false ∧ (best < 0 ∨ db < dk) := by
                  revert hx
                  by_cases q1 : 0 ≤ dk <;> by_cases q2 : db < dk  <;> simp [q1, q2, u1] <;> omega
                clear hx
                (repeat (first | refine Stp.go ?_ | refine v_region ?_ | refine v_regionD ?_ | refine v_blocky (by decide) ?_ | ((first | refine v_o rfl ?_ ?_ | refine v_oD rfl ?_ ?_); (focus (simp only [pvT, z3, go_sem]; done)); simp only [Env.put]) | ((first | refine v_u rfl fun K hK => ?_ | refine v_g rfl fun K hK => ?_ | refine v_uD rfl fun K hK => ?_ | refine v_gD rfl fun K hK => ?_); simp only [pvT, z3, go_sem]) | (fail) | refine v_end ?_ | refine v_endD (by kernel_rfl) ?_ | (refine hK _ _ ?_; clear hK K) | refine ⟨by (first | trivial | assumption | omega | (intros; first | assumption | omega)), ?_⟩ | (apply v_condb; (focus (simp only [pvT, z3, go_sem]; first | exact pvt | exact pvf)); simp only [cond_true, cond_false]) | fail))
                refine v_round (k + 1, (k : Int)) ⟨hc, hbi.take ⟨k, rfl, hc, by rw [hdk]; exact hcase.1⟩ (by rw [hnil]; simp) (by rw [hdb, hdk]; exact hcase.2.2)⟩ (by simp only; omega) (fits_sto _ id (by simp [Env.get, PV.renL, PV.ren , pvT, hN, renL_ints, refsL_ints, o1, o2]) (by simp [PV.refsL, PV.refs , pvT, hN, renL_ints, refsL_ints, o1, o2]) (by simp [SC.live, SC.ren, SC.refs, PV.renL, PV.ren, PV.refsL, PV.refs, sto_cons, sto_nil , pvT, hN, renL_ints, refsL_ints, o1, o2]) (by simp [o1, o2]))
              · have hcase : ¬ (0 ≤ dk ∧ false = false) ∨ (0 ≤ best ∧ dk ≤ db) := by
                  revert hx
                  by_cases q1 : 0 ≤ dk <;> by_cases q2 : db < dk  <;> simp [q1, q2, u1] <;> omega
                clear hx
                (repeat (first | refine Stp.go ?_ | refine v_region ?_ | refine v_regionD ?_ | refine v_blocky (by decide) ?_ | ((first | refine v_o rfl ?_ ?_ | refine v_oD rfl ?_ ?_); (focus (simp only [pvT, z3, go_sem]; done)); simp only [Env.put]) | ((first | refine v_u rfl fun K hK => ?_ | refine v_g rfl fun K hK => ?_ | refine v_uD rfl fun K hK => ?_ | refine v_gD rfl fun K hK => ?_); simp only [pvT, z3, go_sem]) | (fail) | refine v_end ?_ | refine v_endD (by kernel_rfl) ?_ | (refine hK _ _ ?_; clear hK K) | refine ⟨by (first | trivial | assumption | omega | (intros; first | assumption | omega)), ?_⟩ | (apply v_condb; (focus (simp only [pvT, z3, go_sem]; first | exact pvt | exact pvf)); simp only [cond_true, cond_false]) | fail))
                refine v_round (k + 1, best) ⟨hc, hbi.skip ?_⟩ (by simp only; omega) (fits_sto _ id (by simp [Env.get, PV.renL, PV.ren , pvT, hN, renL_ints, refsL_ints, o1, o2]) (by simp [PV.refsL, PV.refs , pvT, hN, renL_ints, refsL_ints, o1, o2]) (by simp [SC.live, SC.ren, SC.refs, PV.renL, PV.ren, PV.refsL, PV.refs, sto_cons, sto_nil , pvT, hN, renL_ints, refsL_ints, o1, o2]) (by simp [o1, o2]))
                rcases hcase with h | h
                · left
                  rintro ⟨h1, h2⟩
                  refine h ⟨?_, ?_⟩
                  · obtain ⟨i, e, _, h0⟩ := h1
                    have : i = k := by omega
                    subst this
                    rw [hdk] at h0; exact h0
                  · rfl
                · right; rw [hdb, hdk]; exact h
          · have z1 : ¬ (k : Int) < dist.length := by omega
            have hke : k = dist.length := by omega
            rcases hbr with hbr | ⟨u2, u3⟩
            · subst hbr
              have hdone : out = orderL dist := hoi.done fun z hz => by
                rcases hbi with ⟨_, h⟩ | ⟨⟨i, e, _, _⟩, _⟩
                · refine h z hz ?_
                  obtain ⟨i, rfl, hi, _⟩ := hz
                  omega
                · omega
              (repeat (first | refine Stp.go ?_ | refine v_region ?_ | refine v_regionD ?_ | refine v_blocky (by decide) ?_ | ((first | refine v_o rfl ?_ ?_ | refine v_oD rfl ?_ ?_); (focus (simp only [pvT, ite_bool, hN, z1, pvT, go_sem]; done)); simp only [Env.put]) | ((first | refine v_u rfl fun K hK => ?_ | refine v_g rfl fun K hK => ?_ | refine v_uD rfl fun K hK => ?_ | refine v_gD rfl fun K hK => ?_); simp only [pvT, ite_bool, hN, z1, pvT, go_sem]) | (first | refine v_loopx ?_ | refine v_loopr ?_) | refine v_end ?_ | refine v_endD (by kernel_rfl) ?_ | (refine hK _ _ ?_; clear hK K) | refine ⟨by (first | trivial | assumption | omega | (intros; first | assumption | omega)), ?_⟩ | (apply v_condb; (focus (simp only [pvT, ite_bool, hN, z1, pvT, go_sem]; first | exact pvt | exact pvf)); simp only [cond_true, cond_false]) | fail))
              (first | refine v_fin_n ?_ | refine v_fin_r ?_); simp only [ resK, one, PV.snap, go_sem]
              refine Wk.two ?_ (.refl _)
              rw [← hdone]
              rw [hnil]; exact Wk.nil 1
            · have u1 : ¬ best < 0 := by omega
              obtain ⟨g1, g2⟩ := step best (by rcases hbi with ⟨h, _⟩ | ⟨h, _⟩; omega; exact h) (by rcases hbi with ⟨h, _⟩ | ⟨_, h, _⟩; omega; exact h) (fun z hz hzn => by
                rcases hbi with ⟨h, _⟩ | ⟨_, _, _, h⟩
                · omega
                · refine h z hz hzn ?_
                  obtain ⟨i, rfl, hi, _⟩ := hz
                  omega)
              (repeat (first | refine Stp.go ?_ | refine v_region ?_ | refine v_regionD ?_ | refine v_blocky (by decide) ?_ | ((first | refine v_o rfl ?_ ?_ | refine v_oD rfl ?_ ?_); (focus (simp only [pvT, ite_bool, hN, z1, u1, rep1', f1, f2, f3, f4, f5, ints_length, pvT, go_sem]; done)); simp only [Env.put]) | ((first | refine v_u rfl fun K hK => ?_ | refine v_g rfl fun K hK => ?_ | refine v_uD rfl fun K hK => ?_ | refine v_gD rfl fun K hK => ?_); simp only [pvT, ite_bool, hN, z1, u1, rep1', f1, f2, f3, f4, f5, ints_length, pvT, go_sem]) | (refine v_loopx ?_) | refine v_end ?_ | refine v_endD (by kernel_rfl) ?_ | (refine hK _ _ ?_; clear hK K) | refine ⟨by (first | trivial | assumption | omega | (intros; first | assumption | omega)), ?_⟩ | (apply v_condb; (focus (simp only [pvT, ite_bool, hN, z1, u1, rep1', f1, f2, f3, f4, f5, ints_length, pvT, go_sem]; first | exact pvt | exact pvf)); simp only [cond_true, cond_false]) | fail))
              refine v_round (out ++ [best]) ⟨g1, g1.len⟩ g2 (fits_sto _ (fun x => if x = 101 then 14003 else x) (by simp [Env.get, PV.renL, PV.ren , osl_cons, oslG_cons, osl_snoc, oslG_snoc, ints_snoc, o5, o4, o3, renL_ints, refsL_ints, pvT, hN]) (by simp [PV.refsL, PV.refs , osl_cons, oslG_cons, osl_snoc, oslG_snoc, ints_snoc, o5, o4, o3, renL_ints, refsL_ints, pvT, hN]) (by simp [SC.live, SC.ren, SC.refs, PV.renL, PV.ren, PV.refsL, PV.refs, sto_cons, sto_nil , osl_cons, oslG_cons, osl_snoc, oslG_snoc, ints_snoc, o5, o4, o3, renL_ints, refsL_ints, pvT, hN]) (by simp [osl_cons, oslG_cons, osl_snoc, oslG_snoc]))
      · rw [osl_some hnil, oslG_some hnil]
        (repeat (first | refine Stp.go ?_ | refine v_region ?_ | refine v_regionD ?_ | refine v_blocky (by decide) ?_ | ((first | refine v_o rfl ?_ ?_ | refine v_oD rfl ?_ ?_); (focus (simp only [pvT, ite_bool, pvT, go_sem]; done)); simp only [Env.put]) | ((first | refine v_u rfl fun K hK => ?_ | refine v_g rfl fun K hK => ?_ | refine v_uD rfl fun K hK => ?_ | refine v_gD rfl fun K hK => ?_); simp only [pvT, ite_bool, pvT, go_sem]) | (fail) | refine v_end ?_ | refine v_endD (by kernel_rfl) ?_ | (refine hK _ _ ?_; clear hK K) | refine ⟨by (first | trivial | assumption | omega | (intros; first | assumption | omega)), ?_⟩ | (apply v_condb; (focus (simp only [pvT, ite_bool, pvT, go_sem]; first | exact pvt | exact pvf)); simp only [cond_true, cond_false]) | fail))
        refine v_loop [3, 8, 10, 11, 12] (fun s : Nat × Int => s.1 ≤ dist.length ∧ BestI dist out s.1 s.2) (fun s => dist.length - s.1)
          (fun s => [.ptr 102 3 0 0, .slc 1 (ints dist), .sref 101 1 0 out.length false, .int .i64 s.2, .int .i64 s.1]) (fun s => (102, .row 25 3 [pvT t]) :: [(101, .row 3 1 (ints out))]) (0, -1) ⟨Nat.zero_le _, .inl ⟨rfl, fun z hz hz0 => by obtain ⟨i, rfl, _, _⟩ := hz; simp at hz0; omega⟩⟩ ?_ ?_
        · exact (fits_sto _ id (by simp [Env.get, PV.renL, PV.ren , pvT, renL_ints, refsL_ints]) (by simp [PV.refsL, PV.refs , pvT, renL_ints, refsL_ints]) (by simp [SC.live, SC.ren, SC.refs, PV.renL, PV.ren, PV.refsL, PV.refs, sto_cons, sto_nil , pvT, renL_ints, refsL_ints]) (by simp ))
        · rintro ⟨k, best⟩ ⟨hk, hbi⟩
          simp only at hk hbi
          simp only [List.zip_cons_cons, List.zip_nil_left]
          have hbr : best = -1 ∨ (0 ≤ best ∧ best < dist.length) := by
            rcases hbi with ⟨h, _⟩ | ⟨⟨i, rfl, hi, _⟩, _⟩
            · exact .inl h
            · exact .inr ⟨by omega, by omega⟩
          by_cases hc : k < dist.length
          · have z1 : (k : Int) < dist.length := by omega
            have z2 : (0 : Int) ≤ k := by omega
            have z3 : IntKind.i64.wrap ((k : Int) + 1) = ((k + 1 : Nat) : Int) := by rw [wrap_i64 (by omega) (by omega)]; omega
            have hA := ints_get' hc
            generalize hdk : dist.getD k (-1) = dk at *
            have hhas := has_in_good out k (by omega)
            have hnm : decide ((k : Int) ∈ out) = false → (k : Int) ∉ out := fun h => by simpa using h
            have hnm' : (k : Int) ∉ out → decide ((k : Int) ∈ out) = false := fun h => by simpa using h
            generalize decide ((k : Int) ∈ out) = hb at *
            rcases hbr with hbr | ⟨u2, u3⟩
            · have u1 : best < 0 := by omega
              generalize hdb : dist.getD best.toNat (-1) = db
              clear hbr
              (repeat (first | refine Stp.go ?_ | refine v_region ?_ | refine v_regionD ?_ | refine v_blocky (by decide) ?_ | ((first | refine v_o rfl ?_ ?_ | refine v_oD rfl ?_ ?_); (focus (simp only [pvT, ite_bool, ints_length, z1, z2, z3, hN, hA, u1, go_sem]; done)); simp only [Env.put]) | ((first | refine v_u rfl fun K hK => ?_ | refine v_g rfl fun K hK => ?_ | refine v_uD rfl fun K hK => ?_ | refine v_gD rfl fun K hK => ?_); simp only [pvT, ite_bool, ints_length, z1, z2, z3, hN, hA, u1, go_sem]) | (first | (refine callK_pure (fun hc => has_nil_good _) rfl ?_; simp only [upds, eq_self, true_or, true_and]) | (refine callK_lent (fun hc => hhas) (by simp [PV.snap, sto_cons, ints_length, ints_take_all, snap_ints]) rfl ?_; simp only [upds, eq_self, true_or, true_and])) | refine v_end ?_ | refine v_endD (by kernel_rfl) ?_ | (refine hK _ _ ?_; clear hK K) | refine ⟨by (first | trivial | assumption | omega | (intros; first | assumption | omega)), ?_⟩ | (apply v_condb; (focus (simp only [pvT, ite_bool, ints_length, z1, z2, z3, hN, hA, u1, go_sem]; first | exact pvt | exact pvf)); simp only [cond_true, cond_false]) | fail))
              refine v_cond rfl (fun hx => ?_) (fun hx => ?_)
              · have hcase : 0 ≤ dk ∧ hb = false ∧ (best < 0 ∨ db < dk) := by
                  revert hx
                  by_cases q1 : 0 ≤ dk <;> by_cases q2 : db < dk <;> cases hb <;> simp [q1, q2, u1] <;> omega
                clear hx
                (repeat (first | refine Stp.go ?_ | refine v_region ?_ | refine v_regionD ?_ | refine v_blocky (by decide) ?_ | ((first | refine v_o rfl ?_ ?_ | refine v_oD rfl ?_ ?_); (focus (simp only [pvT, z3, go_sem]; done)); simp only [Env.put]) | ((first | refine v_u rfl fun K hK => ?_ | refine v_g rfl fun K hK => ?_ | refine v_uD rfl fun K hK => ?_ | refine v_gD rfl fun K hK => ?_); simp only [pvT, z3, go_sem]) | (fail) | refine v_end ?_ | refine v_endD (by kernel_rfl) ?_ | (refine hK _ _ ?_; clear hK K) | refine ⟨by (first | trivial | assumption | omega | (intros; first | assumption | omega)), ?_⟩ | (apply v_condb; (focus (simp only [pvT, z3, go_sem]; first | exact pvt | exact pvf)); simp only [cond_true, cond_false]) | fail))
                refine v_round (k + 1, (k : Int)) ⟨hc, hbi.take ⟨k, rfl, hc, by rw [hdk]; exact hcase.1⟩ (hnm hcase.2.1) (by rw [hdb, hdk]; exact hcase.2.2)⟩ (by simp only; omega) (fits_sto _ id (by simp [Env.get, PV.renL, PV.ren , pvT, hN, renL_ints, refsL_ints, osl_some hnil, oslG_some hnil]) (by simp [PV.refsL, PV.refs , pvT, hN, renL_ints, refsL_ints, osl_some hnil, oslG_some hnil]) (by simp [SC.live, SC.ren, SC.refs, PV.renL, PV.ren, PV.refsL, PV.refs, sto_cons, sto_nil , pvT, hN, renL_ints, refsL_ints, osl_some hnil, oslG_some hnil]) (by simp [osl_some hnil, oslG_some hnil]))
              · have hcase : ¬ (0 ≤ dk ∧ hb = false) ∨ (0 ≤ best ∧ dk ≤ db) := by
                  revert hx
                  by_cases q1 : 0 ≤ dk <;> by_cases q2 : db < dk <;> cases hb <;> simp [q1, q2, u1] <;> omega
                clear hx
                (repeat (first | refine Stp.go ?_ | refine v_region ?_ | refine v_regionD ?_ | refine v_blocky (by decide) ?_ | ((first | refine v_o rfl ?_ ?_ | refine v_oD rfl ?_ ?_); (focus (simp only [pvT, z3, go_sem]; done)); simp only [Env.put]) | ((first | refine v_u rfl fun K hK => ?_ | refine v_g rfl fun K hK => ?_ | refine v_uD rfl fun K hK => ?_ | refine v_gD rfl fun K hK => ?_); simp only [pvT, z3, go_sem]) | (fail) | refine v_end ?_ | refine v_endD (by kernel_rfl) ?_ | (refine hK _ _ ?_; clear hK K) | refine ⟨by (first | trivial | assumption | omega | (intros; first | assumption | omega)), ?_⟩ | (apply v_condb; (focus (simp only [pvT, z3, go_sem]; first | exact pvt | exact pvf)); simp only [cond_true, cond_false]) | fail))
                refine v_round (k + 1, best) ⟨hc, hbi.skip ?_⟩ (by simp only; omega) (fits_sto _ id (by simp [Env.get, PV.renL, PV.ren , pvT, hN, renL_ints, refsL_ints, osl_some hnil, oslG_some hnil]) (by simp [PV.refsL, PV.refs , pvT, hN, renL_ints, refsL_ints, osl_some hnil, oslG_some hnil]) (by simp [SC.live, SC.ren, SC.refs, PV.renL, PV.ren, PV.refsL, PV.refs, sto_cons, sto_nil , pvT, hN, renL_ints, refsL_ints, osl_some hnil, oslG_some hnil]) (by simp [osl_some hnil, oslG_some hnil]))
                rcases hcase with h | h
                · left
                  rintro ⟨h1, h2⟩
                  refine h ⟨?_, ?_⟩
                  · obtain ⟨i, e, _, h0⟩ := h1
                    have : i = k := by omega
                    subst this
                    rw [hdk] at h0; exact h0
                  · exact hnm' h2
                · right; rw [hdb, hdk]; exact h
            · have u1 : ¬ best < 0 := by omega
              have hB : (ints dist).getD best.toNat .undef = .int .i64 (dist.getD best.toNat (-1)) := ints_get' (by omega)
              generalize hdb : dist.getD best.toNat (-1) = db at *
              (repeat (first | refine Stp.go ?_ | refine v_region ?_ | refine v_regionD ?_ | refine v_blocky (by decide) ?_ | ((first | refine v_o rfl ?_ ?_ | refine v_oD rfl ?_ ?_); (focus (simp only [pvT, ite_bool, ints_length, z1, z2, z3, hN, hA, u1, u2, u3, hB, go_sem]; done)); simp only [Env.put]) | ((first | refine v_u rfl fun K hK => ?_ | refine v_g rfl fun K hK => ?_ | refine v_uD rfl fun K hK => ?_ | refine v_gD rfl fun K hK => ?_); simp only [pvT, ite_bool, ints_length, z1, z2, z3, hN, hA, u1, u2, u3, hB, go_sem]) | (first | (refine callK_pure (fun hc => has_nil_good _) rfl ?_; simp only [upds, eq_self, true_or, true_and]) | (refine callK_lent (fun hc => hhas) (by simp [PV.snap, sto_cons, ints_length, ints_take_all, snap_ints]) rfl ?_; simp only [upds, eq_self, true_or, true_and])) | refine v_end ?_ | refine v_endD (by kernel_rfl) ?_ | (refine hK _ _ ?_; clear hK K) | refine ⟨by (first | trivial | assumption | omega | (intros; first | assumption | omega)), ?_⟩ | (apply v_condb; (focus (simp only [pvT, ite_bool, ints_length, z1, z2, z3, hN, hA, u1, u2, u3, hB, go_sem]; first | exact pvt | exact pvf)); simp only [cond_true, cond_false]) | fail))
              refine v_cond rfl (fun hx => ?_) (fun hx => ?_)
              · have hcase : 0 ≤ dk ∧ hb = false ∧ (best < 0 ∨ db < dk) := by
                  revert hx
                  by_cases q1 : 0 ≤ dk <;> by_cases q2 : db < dk <;> cases hb <;> simp [q1, q2, u1] <;> omega
                clear hx
                (repeat (first | refine Stp.go ?_ | refine v_region ?_ | refine v_regionD ?_ | refine v_blocky (by decide) ?_ | ((first | refine v_o rfl ?_ ?_ | refine v_oD rfl ?_ ?_); (focus (simp only [pvT, z3, go_sem]; done)); simp only [Env.put]) | ((first | refine v_u rfl fun K hK => ?_ | refine v_g rfl fun K hK => ?_ | refine v_uD rfl fun K hK => ?_ | refine v_gD rfl fun K hK => ?_); simp only [pvT, z3, go_sem]) | (fail) | refine v_end ?_ | refine v_endD (by kernel_rfl) ?_ | (refine hK _ _ ?_; clear hK K) | refine ⟨by (first | trivial | assumption | omega | (intros; first | assumption | omega)), ?_⟩ | (apply v_condb; (focus (simp only [pvT, z3, go_sem]; first | exact pvt | exact pvf)); simp only [cond_true, cond_false]) | fail))
                refine v_round (k + 1, (k : Int)) ⟨hc, hbi.take ⟨k, rfl, hc, by rw [hdk]; exact hcase.1⟩ (hnm hcase.2.1) (by rw [hdb, hdk]; exact hcase.2.2)⟩ (by simp only; omega) (fits_sto _ id (by simp [Env.get, PV.renL, PV.ren , pvT, hN, renL_ints, refsL_ints, osl_some hnil, oslG_some hnil]) (by simp [PV.refsL, PV.refs , pvT, hN, renL_ints, refsL_ints, osl_some hnil, oslG_some hnil]) (by simp [SC.live, SC.ren, SC.refs, PV.renL, PV.ren, PV.refsL, PV.refs, sto_cons, sto_nil , pvT, hN, renL_ints, refsL_ints, osl_some hnil, oslG_some hnil]) (by simp [osl_some hnil, oslG_some hnil]))
              · have hcase : ¬ (0 ≤ dk ∧ hb = false) ∨ (0 ≤ best ∧ dk ≤ db) := by
                  revert hx
                  by_cases q1 : 0 ≤ dk <;> by_cases q2 : db < dk <;> cases hb <;> simp [q1, q2, u1] <;> omega
                clear hx
                (repeat (first | refine Stp.go ?_ | refine v_region ?_ | refine v_regionD ?_ | refine v_blocky (by decide) ?_ | ((first | refine v_o rfl ?_ ?_ | refine v_oD rfl ?_ ?_); (focus (simp only [pvT, z3, go_sem]; done)); simp only [Env.put]) | ((first | refine v_u rfl fun K hK => ?_ | refine v_g rfl fun K hK => ?_ | refine v_uD rfl fun K hK => ?_ | refine v_gD rfl fun K hK => ?_); simp only [pvT, z3, go_sem]) | (fail) | refine v_end ?_ | refine v_endD (by kernel_rfl) ?_ | (refine hK _ _ ?_; clear hK K) | refine ⟨by (first | trivial | assumption | omega | (intros; first | assumption | omega)), ?_⟩ | (apply v_condb; (focus (simp only [pvT, z3, go_sem]; first | exact pvt | exact pvf)); simp only [cond_true, cond_false]) | fail))
                refine v_round (k + 1, best) ⟨hc, hbi.skip ?_⟩ (by simp only; omega) (fits_sto _ id (by simp [Env.get, PV.renL, PV.ren , pvT, hN, renL_ints, refsL_ints, osl_some hnil, oslG_some hnil]) (by simp [PV.refsL, PV.refs , pvT, hN, renL_ints, refsL_ints, osl_some hnil, oslG_some hnil]) (by simp [SC.live, SC.ren, SC.refs, PV.renL, PV.ren, PV.refsL, PV.refs, sto_cons, sto_nil , pvT, hN, renL_ints, refsL_ints, osl_some hnil, oslG_some hnil]) (by simp [osl_some hnil, oslG_some hnil]))
                rcases hcase with h | h
                · left
                  rintro ⟨h1, h2⟩
                  refine h ⟨?_, ?_⟩
                  · obtain ⟨i, e, _, h0⟩ := h1
                    have : i = k := by omega
                    subst this
                    rw [hdk] at h0; exact h0
                  · exact hnm' h2
                · right; rw [hdb, hdk]; exact h
          · have z1 : ¬ (k : Int) < dist.length := by omega
            have hke : k = dist.length := by omega
            rcases hbr with hbr | ⟨u2, u3⟩
            · subst hbr
              have hdone : out = orderL dist := hoi.done fun z hz => by
                rcases hbi with ⟨_, h⟩ | ⟨⟨i, e, _, _⟩, _⟩
                · refine h z hz ?_
                  obtain ⟨i, rfl, hi, _⟩ := hz
                  omega
                · omega
              (repeat (first | refine Stp.go ?_ | refine v_region ?_ | refine v_regionD ?_ | refine v_blocky (by decide) ?_ | ((first | refine v_o rfl ?_ ?_ | refine v_oD rfl ?_ ?_); (focus (simp only [pvT, ite_bool, hN, z1, pvT, go_sem]; done)); simp only [Env.put]) | ((first | refine v_u rfl fun K hK => ?_ | refine v_g rfl fun K hK => ?_ | refine v_uD rfl fun K hK => ?_ | refine v_gD rfl fun K hK => ?_); simp only [pvT, ite_bool, hN, z1, pvT, go_sem]) | (first | refine v_loopx ?_ | refine v_loopr ?_) | refine v_end ?_ | refine v_endD (by kernel_rfl) ?_ | (refine hK _ _ ?_; clear hK K) | refine ⟨by (first | trivial | assumption | omega | (intros; first | assumption | omega)), ?_⟩ | (apply v_condb; (focus (simp only [pvT, ite_bool, hN, z1, pvT, go_sem]; first | exact pvt | exact pvf)); simp only [cond_true, cond_false]) | fail))
              (first | refine v_fin_n ?_ | refine v_fin_r ?_); simp only [ resK, one, PV.snap, go_sem]
              refine Wk.two ?_ (.refl _)
              rw [← hdone]
              exact wk_eq (by simp [sto_cons, ints_length, List.take_of_length_le, snap_ints])
            · have u1 : ¬ best < 0 := by omega
              obtain ⟨g1, g2⟩ := step best (by rcases hbi with ⟨h, _⟩ | ⟨h, _⟩; omega; exact h) (by rcases hbi with ⟨h, _⟩ | ⟨_, h, _⟩; omega; exact h) (fun z hz hzn => by
                rcases hbi with ⟨h, _⟩ | ⟨_, _, _, h⟩
                · omega
                · refine h z hz hzn ?_
                  obtain ⟨i, rfl, hi, _⟩ := hz
                  omega)
              (repeat (first | refine Stp.go ?_ | refine v_region ?_ | refine v_regionD ?_ | refine v_blocky (by decide) ?_ | ((first | refine v_o rfl ?_ ?_ | refine v_oD rfl ?_ ?_); (focus (simp only [pvT, ite_bool, hN, z1, u1, rep1', f1, f2, f3, f4, f5, ints_length, pvT, go_sem]; done)); simp only [Env.put]) | ((first | refine v_u rfl fun K hK => ?_ | refine v_g rfl fun K hK => ?_ | refine v_uD rfl fun K hK => ?_ | refine v_gD rfl fun K hK => ?_); simp only [pvT, ite_bool, hN, z1, u1, rep1', f1, f2, f3, f4, f5, ints_length, pvT, go_sem]) | (refine v_loopx ?_) | refine v_end ?_ | refine v_endD (by kernel_rfl) ?_ | (refine hK _ _ ?_; clear hK K) | refine ⟨by (first | trivial | assumption | omega | (intros; first | assumption | omega)), ?_⟩ | (apply v_condb; (focus (simp only [pvT, ite_bool, hN, z1, u1, rep1', f1, f2, f3, f4, f5, ints_length, pvT, go_sem]; first | exact pvt | exact pvf)); simp only [cond_true, cond_false]) | fail))
              refine v_round (out ++ [best]) ⟨g1, g1.len⟩ g2 (fits_sto _ (fun x => if x = 101 then 14003 else x) (by simp [Env.get, PV.renL, PV.ren , osl_cons, oslG_cons, osl_snoc, oslG_snoc, ints_snoc, pvT, renL_ints, refsL_ints, pvT, hN]) (by simp [PV.refsL, PV.refs , osl_cons, oslG_cons, osl_snoc, oslG_snoc, ints_snoc, pvT, renL_ints, refsL_ints, pvT, hN]) (by simp [SC.live, SC.ren, SC.refs, PV.renL, PV.ren, PV.refsL, PV.refs, sto_cons, sto_nil , osl_cons, oslG_cons, osl_snoc, oslG_snoc, ints_snoc, pvT, renL_ints, refsL_ints, pvT, hN]) (by simp [osl_cons, oslG_cons, osl_snoc, oslG_snoc]))
  · rw [h5] at hs
    rw [if_neg (by omega), h2]
    have c1 : ¬ e = 0 := by omega
    (repeat (first | refine Stp.go ?_ | refine v_region ?_ | refine v_regionD ?_ | refine v_blocky (by decide) ?_ | ((first | refine v_o rfl ?_ ?_ | refine v_oD rfl ?_ ?_); (focus (simp only [pvT, ite_bool, c1, go_sem]; done)); simp only [Env.put]) | ((first | refine v_u rfl fun K hK => ?_ | refine v_g rfl fun K hK => ?_ | refine v_uD rfl fun K hK => ?_ | refine v_gD rfl fun K hK => ?_); simp only [pvT, ite_bool, c1, go_sem]) | (first | (refine callK_pure (fun hc => hs) rfl ?_; simp only [upds, eq_self, true_or, true_and])) | refine v_end ?_ | refine v_endD (by kernel_rfl) ?_ | (refine hK _ _ ?_; clear hK K) | refine ⟨by (first | trivial | assumption | omega | (intros; first | assumption | omega)), ?_⟩ | (apply v_condb; (focus (simp only [pvT, ite_bool, c1, go_sem]; first | exact pvt | exact pvf)); simp only [cond_true, cond_false]) | fail))
    (first | refine v_fin_n ?_ | refine v_fin_r ?_); simp only [ resK, one, PV.snap, go_sem]
    exact Wk.two (Wk.nil 1) (.refl _)
end Go.V
