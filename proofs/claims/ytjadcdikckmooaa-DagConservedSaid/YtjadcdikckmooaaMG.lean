import Derived.Test.YtjadcdikckmooaaMF
import Derived.Test.YtjadcdikckmooaaMA
/- A part of a proof, with no condition of its own. Merged texts: E1 E2 E3 E4. -/
/- Layer 12: the number of shortest paths: the plain law. -/
set_option linter.unusedVariables false
set_option linter.unusedSimpArgs false
namespace Go.V
open Go.RowKit Go.Proofs

/-- One arc's share in the count of a node. -/
def cntS (t : Topo) (most x : Int) (c : List Int) (a : Int) : List Int :=
  c.set x.toNat (c.getD x.toNat 0 + (if most - c.getD x.toNat 0 < c.getD (t.head a).toNat 0 then most - c.getD x.toNat 0 else c.getD (t.head a).toNat 0))
/-- The counts when the nodes of a list are done. -/
def cntX (t : Topo) (down : List Bool) (dist : List Int) (d most : Int) (x : Int) (c : List Int) : List Int := (nextL t down dist x d).foldl (cntS t most x) c
def cnt0 (t : Topo) (d most : Int) : List Int := (List.replicate t.n.toNat 0).set d.toNat (if most < 1 then most else 1)
def cntL (t : Topo) (down : List Bool) (dist : List Int) (d most : Int) : List Int → List Int
  | [] => cnt0 t d most
  | x :: l => cntX t down dist d most x (cntL t down dist d most l)
/-- Counts between 0 and most. -/
structure CntOk (t : Topo) (most : Int) (c : List Int) : Prop where
  len : c.length = t.n.toNat
  lo : ∀ j, 0 ≤ c.getD j 0
  hi : ∀ j, c.getD j 0 ≤ most
theorem getD_set0 (c : List Int) (i j : Nat) (v : Int) : (c.set i v).getD j 0 = if i = j ∧ i < c.length then v else c.getD j 0 := by
  simp only [List.getD_eq_getElem?_getD, List.getElem?_set]
  by_cases h : i = j
  · subst h
    by_cases hl : i < c.length
    · simp [hl]
    · simp [hl]
  · simp [h]
theorem CntOk.step {t : Topo} {most x a : Int} {c : List Int} (h : CntOk t most c) : CntOk t most (cntS t most x c a) := by
  refine ⟨by simp [cntS, h.len], fun j => ?_, fun j => ?_⟩
  all_goals
    unfold cntS
    rw [getD_set0]
    have h1 := h.lo x.toNat
    have h2 := h.hi x.toNat
    have h3 := h.lo (t.head a).toNat
    have h4 := h.hi (t.head a).toNat
    have h5 := h.lo j
    have h6 := h.hi j
    split <;> (try split) <;> omega
theorem CntOk.foldl {t : Topo} {most x : Int} : ∀ (l : List Int) {c : List Int}, CntOk t most c → CntOk t most (l.foldl (cntS t most x) c)
  | [], _, h => h
  | a :: l, _, h => CntOk.foldl l h.step
theorem CntOk.zero {t : Topo} {d most : Int} (hm : 0 ≤ most) : CntOk t most (cnt0 t d most) := by
  refine ⟨by simp [cnt0], fun j => ?_, fun j => ?_⟩
  all_goals
    unfold cnt0
    rw [getD_set0]
    have : (List.replicate t.n.toNat (0 : Int)).getD j 0 = 0 := by simp [List.getD_eq_getElem?_getD, List.getElem?_replicate]; split <;> rfl
    rw [this]
    split <;> (try split) <;> omega
theorem CntOk.all {t : Topo} {down : List Bool} {dist : List Int} {d most : Int} (hm : 0 ≤ most) : ∀ l, CntOk t most (cntL t down dist d most l)
  | [] => .zero hm
  | x :: l => CntOk.foldl _ (CntOk.all hm l)
/-- What Count returns. -/
noncomputable def countR (t : Topo) (down : List Bool) (n d most : Int) : PV :=
  if distE t down d = 0 then if 0 ≤ n ∧ n < t.n then if 0 ≤ most then .tup [.int .i64 ((cntL t down (distL t down d false) d most (orderL (distL t down d false))).getD n.toNat 0), .int .i64 0] else .tup [.int .i64 0, .int .i64 1]
    else .tup [.int .i64 0, .int .i64 2] else .tup [.int .i64 0, .int .i64 (distE t down d)]
end Go.V
/- Layer 12: the number of shortest paths, as the document counts them. -/
set_option linter.unusedVariables false
set_option linter.unusedSimpArgs false
namespace Go.V
open Go.RowKit Go.Proofs
attribute [local irreducible] wp seqK lexK opK callK upd sto Good GoodR

/-- The counts when some arcs of a node are done. -/
def cntJ (t : Topo) (most x : Int) (l : List Int) (k : Nat) (c : List Int) : List Int := (l.take k).foldl (cntS t most x) c
theorem foldl_take {α β : Type} (f : β → α → β) (l : List α) (k : Nat) (b : β) (a0 : α) (hk : k < l.length) : (l.take (k + 1)).foldl f b = f ((l.take k).foldl f b) (l.getD k a0) := by
  rw [List.take_succ_eq_append_getElem hk, List.foldl_append]
  simp [List.getD, hk]
theorem cntJ_succ (t : Topo) (most x : Int) (l : List Int) (k : Nat) (c : List Int) (hk : k < l.length) : cntJ t most x l (k + 1) c = cntS t most x (cntJ t most x l k c) (l.getD k 0) := foldl_take _ l k c 0 hk
theorem cntJ_all (t : Topo) (most x : Int) (l : List Int) (c : List Int) (k : Nat) (hk : l.length ≤ k) : cntJ t most x l k c = l.foldl (cntS t most x) c := by
  unfold cntJ; rw [List.take_of_length_le hk]
theorem cntL_drop (t : Topo) (down : List Bool) (dist : List Int) (d most : Int) (ord : List Int) (k : Nat) (hk : k < ord.length) :
    cntL t down dist d most (ord.drop k) = cntX t down dist d most (ord.getD k 0) (cntL t down dist d most (ord.drop (k + 1))) := by
  rw [List.drop_eq_getElem_cons hk]
  simp only [cntL]
  congr 1
  simp [List.getD, hk]
theorem nextL_arc {t : Topo} (ht : t.ok = true) {down : List Bool} {dist : List Int} {n d a : Int} (h : a ∈ nextL t down dist n d) : t.arc a ∧ t.tail a = n := by
  rw [nextL_eq t ht] at h
  exact arcsL_mem ht (List.mem_filter.1 h).1
theorem nextL_len {t : Topo} (ht : t.ok = true) (down : List Bool) (dist : List Int) (n d : Int) : (nextL t down dist n d).length ≤ 512 := by
  have h1 := nextK_length t down dist n d (2 * t.ls.length)
  have h2 := Topo.frame_n (Topo.ok_frame ht)
  show (nextK t down dist n d (2 * t.ls.length)).length ≤ 512
  omega
theorem orderL_length (dist : List Int) : (orderL dist).length ≤ dist.length := by
  rw [orderL, (SP.isort_perm _ _ _ rfl).length_eq]
  exact reachK_length dist dist.length
theorem cntS_eq (t : Topo) (most : Int) (c : List Int) (a : Int) (xn hn : Nat) (cx ch : Int) (h1 : c.getD xn 0 = cx) (h2 : c.getD hn 0 = ch) (h3 : t.head a = hn) :
    cntS t most (xn : Int) c a = c.set xn (cx + (if most - cx < ch then most - cx else ch)) := by
  unfold cntS
  rw [h3]
  simp only [Int.toNat_natCast, h1, h2]

set_option maxHeartbeats 4000000 in
theorem rcount_good (t : Topo) (down : List Bool) (n d most : Int) (hmx : most ≤ 9223372036854775807) :
    Good Try.prog 33 [pvT t, .slc 1 (bools down), .int .i64 n, .int .i64 d, .int .i64 most] (countR t down n d most) := by
  have hs := rdist_good t down d
  have ho := rorder_good t down d
  refine v_enter ttok mixed Try.func33 (by kernel_rfl) rfl Try.ntmps33 Try.results33 (by simp) ?_; rw [fresh_sto]; simp only [argEnv, List.range, List.range.loop, List.length_cons, List.length_nil, List.zip_cons_cons, List.zip_nil_left]
  unfold countR
  unfold orderR at ho
  rcases distR_cases t down d false with ⟨h1, h2, h3, h4, h5⟩ | ⟨e, h1, h2, h5⟩
  · rw [h5] at hs
    rw [if_pos h4] at ho ⊢
    have ht := maskOk_ok h1
    have hml := maskOk_len h1
    obtain ⟨hn1, hn2, hn3, hn4⟩ := Topo.frame_n (Topo.ok_frame ht)
    have hD := isDist_ok ht (distL_is ht down h2 h3 false)
    have hDl := hD.1
    generalize distL t down d false = dist at *
    by_cases c1 : n < 0
    · rw [if_neg (by omega)]
      (repeat (first | refine Stp.go ?_ | refine v_region ?_ | refine v_regionD ?_ | refine v_blocky (by decide) ?_ | ((first | refine v_o rfl ?_ ?_ | refine v_oD rfl ?_ ?_); (focus (simp only [pvT, ite_bool, c1, go_sem]; done)); simp only [Env.put]) | ((first | refine v_u rfl fun K hK => ?_ | refine v_g rfl fun K hK => ?_ | refine v_uD rfl fun K hK => ?_ | refine v_gD rfl fun K hK => ?_); simp only [pvT, ite_bool, c1, go_sem]) | ((refine callK_pure (fun hc => hs) rfl ?_; simp only [upds, eq_self, true_or, true_and])) | refine v_end ?_ | refine v_endD (by kernel_rfl) ?_ | (refine hK _ _ ?_; clear hK K) | refine ⟨by (first | trivial | assumption | omega | (intros; first | assumption | omega)), ?_⟩ | (apply v_condb; (focus (simp only [pvT, ite_bool, c1, go_sem]; first | exact pvt | exact pvf)); simp only [cond_true, cond_false]) | fail))
      (first | refine v_fin_n ?_ | refine v_fin_r ?_); simp only [ resK, one, PV.snap, go_sem]
      exact .refl _
    · by_cases c2 : t.n ≤ n
      · rw [if_neg (by omega)]
        (repeat (first | refine Stp.go ?_ | refine v_region ?_ | refine v_regionD ?_ | refine v_blocky (by decide) ?_ | ((first | refine v_o rfl ?_ ?_ | refine v_oD rfl ?_ ?_); (focus (simp only [pvT, ite_bool, c1, c2, go_sem]; done)); simp only [Env.put]) | ((first | refine v_u rfl fun K hK => ?_ | refine v_g rfl fun K hK => ?_ | refine v_uD rfl fun K hK => ?_ | refine v_gD rfl fun K hK => ?_); simp only [pvT, ite_bool, c1, c2, go_sem]) | ((refine callK_pure (fun hc => hs) rfl ?_; simp only [upds, eq_self, true_or, true_and])) | refine v_end ?_ | refine v_endD (by kernel_rfl) ?_ | (refine hK _ _ ?_; clear hK K) | refine ⟨by (first | trivial | assumption | omega | (intros; first | assumption | omega)), ?_⟩ | (apply v_condb; (focus (simp only [pvT, ite_bool, c1, c2, go_sem]; first | exact pvt | exact pvf)); simp only [cond_true, cond_false]) | fail))
        (first | refine v_fin_n ?_ | refine v_fin_r ?_); simp only [ resK, one, PV.snap, go_sem]
        exact .refl _
      · rw [if_pos (by omega)]
        by_cases c3 : most < 0
        · rw [if_neg (by omega)]
          (repeat (first | refine Stp.go ?_ | refine v_region ?_ | refine v_regionD ?_ | refine v_blocky (by decide) ?_ | ((first | refine v_o rfl ?_ ?_ | refine v_oD rfl ?_ ?_); (focus (simp only [pvT, ite_bool, c1, c2, c3, go_sem]; done)); simp only [Env.put]) | ((first | refine v_u rfl fun K hK => ?_ | refine v_g rfl fun K hK => ?_ | refine v_uD rfl fun K hK => ?_ | refine v_gD rfl fun K hK => ?_); simp only [pvT, ite_bool, c1, c2, c3, go_sem]) | ((refine callK_pure (fun hc => hs) rfl ?_; simp only [upds, eq_self, true_or, true_and])) | refine v_end ?_ | refine v_endD (by kernel_rfl) ?_ | (refine hK _ _ ?_; clear hK K) | refine ⟨by (first | trivial | assumption | omega | (intros; first | assumption | omega)), ?_⟩ | (apply v_condb; (focus (simp only [pvT, ite_bool, c1, c2, c3, go_sem]; first | exact pvt | exact pvf)); simp only [cond_true, cond_false]) | fail))
          (first | refine v_fin_n ?_ | refine v_fin_r ?_); simp only [ resK, one, PV.snap, go_sem]
          exact .refl _
        · rw [if_pos (by omega)]
          have hcl0 : ∀ l, CntOk t most (cntL t down dist d most l) := CntOk.all (by omega)
          have homem : ∀ k, k < (orderL dist).length → ∃ i : Nat, (orderL dist).getD k 0 = i ∧ i < dist.length := fun k hk => by
            obtain ⟨i, e1, e2, _⟩ := orderL_mem.1 (show (orderL dist).getD k 0 ∈ orderL dist by simp [List.getD, hk])
            exact ⟨i, e1, e2⟩
          have hol := orderL_length dist
          have hdrop := cntL_drop t down dist d most (orderL dist)
          have hzero : cntL t down dist d most [] = cnt0 t d most := rfl
          have hdr0 : cntL t down dist d most ((orderL dist).drop 0) = cntL t down dist d most (orderL dist) := by simp
          unfold cnt0 at hzero
          generalize orderL dist = ord at *
          obtain ⟨N, hN⟩ : ∃ N : Nat, t.n = N := ⟨t.n.toNat, by omega⟩
          have hnn : t.n.toNat = N := by omega
          obtain ⟨dn, rfl⟩ : ∃ m : Nat, d = m := ⟨d.toNat, by omega⟩
          obtain ⟨nn, rfl⟩ : ∃ m : Nat, n = m := ⟨n.toNat, by omega⟩
          have v3 : 0 ≤ t.n := by omega
          have v4 : t.n.toNat * 8 ≤ 140737488355328 := by omega
          have v5 : t.n ≤ 140737488355328 := by omega
          have v6 : (dn : Int) < N := by omega
          have v7 : (0 : Int) ≤ dn := by omega
          have v8 : dn < N := by omega
          have v9 : IntKind.i64.wrap ((ord.length : Int) - 1) = (ord.length : Int) - 1 := wrap_i64 (by omega) (by omega)
          have v10 : (ints (List.replicate N 0)).getD dn .undef = .int .i64 0 := by rw [ints_get (by simpa using v8)]; simp [List.getD, v8]
          rw [hnn] at hzero
          simp only [Int.toNat_natCast] at hzero
          (repeat (first | refine Stp.go ?_ | refine v_region ?_ | refine v_regionD ?_ | refine v_blocky (by decide) ?_ | ((first | refine v_o rfl ?_ ?_ | refine v_oD rfl ?_ ?_); (focus (simp only [pvT, ite_bool, c1, c2, c3, v3, v4, v5, v6, v7, v8, v9, v10, hnn, ints_replicate, ints_set, ints_length, List.length_replicate,  go_sem]; done)); simp only [Env.put]) | ((first | refine v_u rfl fun K hK => ?_ | refine v_g rfl fun K hK => ?_ | refine v_uD rfl fun K hK => ?_ | refine v_gD rfl fun K hK => ?_); simp only [pvT, ite_bool, c1, c2, c3, v3, v4, v5, v6, v7, v8, v9, v10, hnn, ints_replicate, ints_set, ints_length, List.length_replicate,  go_sem]) | (first | (refine callK_pure (fun hc => hs) rfl ?_; simp only [upds, eq_self, true_or, true_and]) | (refine callK_pure (fun hc => ho) rfl ?_; simp only [upds, eq_self, true_or, true_and])) | refine v_end ?_ | refine v_endD (by kernel_rfl) ?_ | (refine hK _ _ ?_; clear hK K) | refine ⟨by (first | trivial | assumption | omega | (intros; first | assumption | omega)), ?_⟩ | (apply v_condb; (focus (simp only [pvT, ite_bool, c1, c2, c3, v3, v4, v5, v6, v7, v8, v9, v10, hnn, ints_replicate, ints_set, ints_length, List.length_replicate,  go_sem]; first | exact pvt | exact pvf)); simp only [cond_true, cond_false]) | fail))
          refine v_loop [1, 2, 3, 4, 5, 12, 14, 15, 17] (fun i : Int => -1 ≤ i ∧ i < ord.length) (fun i => (i + 1).toNat)
            (fun i => [.slc 1 (bools down), .int .i64 nn, .int .i64 dn, .int .i64 most, .ptr 102 3 0 0, .slc 1 (ints dist), .sref 101 1 0 N false, .slc 1 (ints ord), .int .i64 i])
            (fun i => [(102, .row 25 3 [pvT t]), (101, .row 3 1 (ints (cntL t down dist dn most (ord.drop (i + 1).toNat))))]) ((ord.length : Int) - 1) ⟨by omega, by omega⟩ ?_ ?_
          · have e : ((ord.length : Int) - 1 + 1).toNat = ord.length := by omega
            exact (fits_sto _ (fun x => if x = 102 then 1000 else if x = 101 then 9002 else x) (by simp [Env.get, PV.renL, PV.ren , pvT, renL_ints, refsL_ints, e, hzero, ints_set]) (by simp [PV.refsL, PV.refs , pvT, renL_ints, refsL_ints, e, hzero, ints_set]) (by simp [SC.live, SC.ren, SC.refs, PV.renL, PV.ren, PV.refsL, PV.refs, sto_cons, sto_nil , pvT, renL_ints, refsL_ints, e, hzero, ints_set]) (by simp []))
          · rintro i ⟨hi1, hi2⟩
            simp only [List.zip_cons_cons, List.zip_nil_left]
            by_cases hc : i < 0
            · have : i = -1 := by omega
              subst this
              have e : ((-1 : Int) + 1).toNat = 0 := rfl
              have hck := hcl0 (ord.drop 0)
              rw [e]
              rw [hdr0] at hck ⊢
              generalize cntL t down dist dn most ord = c at *
              have hl := hck.len
              have u1 : (nn : Int) < N := by omega
              have u2 : (0 : Int) ≤ nn := by omega
              have u3 : nn < c.length := by omega
              have u4 := ints_get u3
              (repeat (first | refine Stp.go ?_ | refine v_region ?_ | refine v_regionD ?_ | refine v_blocky (by decide) ?_ | ((first | refine v_o rfl ?_ ?_ | refine v_oD rfl ?_ ?_); (focus (simp only [pvT, ints_length, u1, u2, u3, u4, go_sem]; done)); simp only [Env.put]) | ((first | refine v_u rfl fun K hK => ?_ | refine v_g rfl fun K hK => ?_ | refine v_uD rfl fun K hK => ?_ | refine v_gD rfl fun K hK => ?_); simp only [pvT, ints_length, u1, u2, u3, u4, go_sem]) | (refine v_loopx ?_) | refine v_end ?_ | refine v_endD (by kernel_rfl) ?_ | (refine hK _ _ ?_; clear hK K) | refine ⟨by (first | trivial | assumption | omega | (intros; first | assumption | omega)), ?_⟩ | (apply v_condb; (focus (simp only [pvT, ints_length, u1, u2, u3, u4, go_sem]; first | exact pvt | exact pvf)); simp only [cond_true, cond_false]) | fail))
              (first | refine v_fin_n ?_ | refine v_fin_r ?_); simp only [ resK, one, PV.snap, go_sem]
              exact .refl _
            · obtain ⟨k, rfl⟩ : ∃ k : Nat, i = k := ⟨i.toNat, by omega⟩
              have hk : k < ord.length := by omega
              have e1 : ((k : Int) + 1).toNat = k + 1 := by omega
              have e2 : ((k : Int) - 1 + 1).toNat = k := by omega
              obtain ⟨xn, hx, hxl⟩ := homem k hk
              have hdk := hdrop k hk
              rw [hx] at hdk
              have hcl := hcl0 (ord.drop (k + 1))
              have hcl' := hcl0 (ord.drop k)
              rw [e1]
              have hrn := rnext_good t down dist xn dn ht hml hD
              have hmem : ∀ j, j < (nextL t down dist xn dn).length → t.arc ((nextL t down dist xn dn).getD j 0) := fun j hj => (nextL_arc ht (down := down) (dist := dist) (n := xn) (d := dn) (by simp [List.getD, hj])).1
              have hll := nextL_len ht down dist xn dn
              unfold cntX at hdk
              generalize nextL t down dist xn dn = l at *
              have y1 : ¬ (k : Int) < 0 := hc
              have y2 : (0 : Int) ≤ k := by omega
              have y3 : (k : Int) < ord.length := hi2
              have y4 : (ints ord).getD k .undef = .int .i64 xn := by rw [ints_get hk, hx]
              have y5 : IntKind.i64.wrap ((k : Int) - 1) = (k : Int) - 1 := wrap_i64 (by omega) (by omega)
              (repeat (first | refine Stp.go ?_ | refine v_region ?_ | refine v_regionD ?_ | refine v_blocky (by decide) ?_ | ((first | refine v_o rfl ?_ ?_ | refine v_oD rfl ?_ ?_); (focus (simp only [pvT, ite_bool, ints_length, y1, y2, y3, y4, go_sem]; done)); simp only [Env.put]) | ((first | refine v_u rfl fun K hK => ?_ | refine v_g rfl fun K hK => ?_ | refine v_uD rfl fun K hK => ?_ | refine v_gD rfl fun K hK => ?_); simp only [pvT, ite_bool, ints_length, y1, y2, y3, y4, go_sem]) | ((refine callK_pure (fun hc => hrn) rfl ?_; simp only [upds, eq_self, true_or, true_and])) | refine v_end ?_ | refine v_endD (by kernel_rfl) ?_ | (refine hK _ _ ?_; clear hK K) | refine ⟨by (first | trivial | assumption | omega | (intros; first | assumption | omega)), ?_⟩ | (apply v_condb; (focus (simp only [pvT, ite_bool, ints_length, y1, y2, y3, y4, go_sem]; first | exact pvt | exact pvf)); simp only [cond_true, cond_false]) | fail))
              generalize cntL t down dist dn most (ord.drop (k + 1)) = c0 at *
              refine v_loop [1, 2, 3, 4, 5, 12, 14, 15, 17, 18, 19] (fun j : Nat => j ≤ l.length) (fun j => l.length - j)
                (fun j => [.slc 1 (bools down), .int .i64 nn, .int .i64 dn, .int .i64 most, .ptr 102 3 0 0, .slc 1 (ints dist), .sref 101 1 0 N false, .slc 1 (ints ord), .int .i64 k, .slc 1 (ints l), .int .i64 j])
                (fun j => [(102, .row 25 3 [pvT t]), (101, .row 3 1 (ints (cntJ t most xn l j c0)))]) 0 (Nat.zero_le _) ?_ ?_
              · exact (fits_sto _ id (by simp [Env.get, PV.renL, PV.ren , pvT, renL_ints, refsL_ints, cntJ]) (by simp [PV.refsL, PV.refs , pvT, renL_ints, refsL_ints, cntJ]) (by simp [SC.live, SC.ren, SC.refs, PV.renL, PV.ren, PV.refsL, PV.refs, sto_cons, sto_nil , pvT, renL_ints, refsL_ints, cntJ]) (by simp []))
              · intro j hj
                simp only [List.zip_cons_cons, List.zip_nil_left]
                by_cases hcj : j < l.length
                · have hsucc := cntJ_succ t most xn l j c0 hcj
                  have ha := hmem j hcj
                  have hA := ints_get hcj
                  have hok : CntOk t most (cntJ t most xn l j c0) := CntOk.foldl _ hcl
                  generalize l.getD j 0 = a at *
                  have hhd := rhead_good t a ht ha
                  have hhi := t.head_in ht ha
                  obtain ⟨hn, hhn⟩ : ∃ m : Nat, t.head a = m := ⟨(t.head a).toNat, by omega⟩
                  rw [hhn] at hhd hhi
                  generalize cntJ t most xn l j c0 = c at *
                  have hl := hok.len
                  have b1 := hok.lo xn
                  have b2 := hok.hi xn
                  have b3 := hok.lo hn
                  have z1 : (j : Int) < l.length := by omega
                  have z2 : (0 : Int) ≤ j := by omega
                  have z3 : IntKind.i64.wrap ((j : Int) + 1) = ((j + 1 : Nat) : Int) := by rw [wrap_i64 (by omega) (by omega)]; omega
                  have u1 : (hn : Int) < N := by omega
                  have u2 : (0 : Int) ≤ hn := by omega
                  have u3 : hn < c.length := by omega
                  have u4 := ints_get u3
                  have w1 : (xn : Int) < N := by omega
                  have w2 : (0 : Int) ≤ xn := by omega
                  have w3 : xn < c.length := by omega
                  have w4 := ints_get w3
                  have hstep := cntS_eq t most c a xn hn _ _ rfl rfl hhn
                  rw [hstep] at hsucc
                  generalize c.getD xn 0 = cx at *
                  generalize c.getD hn 0 = ch at *
                  have w5 : IntKind.i64.wrap (most - cx) = most - cx := wrap_i64 (by omega) (by omega)
                  have w6 : IntKind.i64.wrap (cx + if most - cx < ch then most - cx else ch) = cx + if most - cx < ch then most - cx else ch := wrap_i64 (by split <;> omega) (by split <;> omega)
                  (repeat (first | refine Stp.go ?_ | refine v_region ?_ | refine v_regionD ?_ | refine v_blocky (by decide) ?_ | ((first | refine v_o rfl ?_ ?_ | refine v_oD rfl ?_ ?_); (focus (simp only [pvT, ite_bool, ints_length, ints_set, hA, y2, y3, y4, z1, z2, z3, u1, u2, u3, u4, w1, w2, w3, w4, w5, w6, go_sem]; done)); simp only [Env.put]) | ((first | refine v_u rfl fun K hK => ?_ | refine v_g rfl fun K hK => ?_ | refine v_uD rfl fun K hK => ?_ | refine v_gD rfl fun K hK => ?_); simp only [pvT, ite_bool, ints_length, ints_set, hA, y2, y3, y4, z1, z2, z3, u1, u2, u3, u4, w1, w2, w3, w4, w5, w6, go_sem]) | ((refine callK_pure (fun hc => hhd) rfl ?_; simp only [upds, eq_self, true_or, true_and])) | refine v_end ?_ | refine v_endD (by kernel_rfl) ?_ | (refine hK _ _ ?_; clear hK K) | refine ⟨by (first | trivial | assumption | omega | (intros; first | assumption | omega)), ?_⟩ | (apply v_condb; (focus (simp only [pvT, ite_bool, ints_length, ints_set, hA, y2, y3, y4, z1, z2, z3, u1, u2, u3, u4, w1, w2, w3, w4, w5, w6, go_sem]; first | exact pvt | exact pvf)); simp only [cond_true, cond_false]) | fail))
                  refine v_round (j + 1) hcj (by omega) (fits_sto _ id (by simp [Env.get, PV.renL, PV.ren , pvT, renL_ints, refsL_ints, hsucc, ints_set]) (by simp [PV.refsL, PV.refs , pvT, renL_ints, refsL_ints, hsucc, ints_set]) (by simp [SC.live, SC.ren, SC.refs, PV.renL, PV.ren, PV.refsL, PV.refs, sto_cons, sto_nil , pvT, renL_ints, refsL_ints, hsucc, ints_set]) (by simp []))
                · have z1 : ¬ (j : Int) < l.length := by omega
                  have hend := cntJ_all t most xn l c0 j (by omega)
                  rw [← hdk] at hend
                  (repeat (first | refine Stp.go ?_ | refine v_region ?_ | refine v_regionD ?_ | refine v_blocky (by decide) ?_ | ((first | refine v_o rfl ?_ ?_ | refine v_oD rfl ?_ ?_); (focus (simp only [pvT, ite_bool, ints_length, z1, y5, go_sem]; done)); simp only [Env.put]) | ((first | refine v_u rfl fun K hK => ?_ | refine v_g rfl fun K hK => ?_ | refine v_uD rfl fun K hK => ?_ | refine v_gD rfl fun K hK => ?_); simp only [pvT, ite_bool, ints_length, z1, y5, go_sem]) | (refine v_loopx ?_) | refine v_end ?_ | refine v_endD (by kernel_rfl) ?_ | (refine hK _ _ ?_; clear hK K) | refine ⟨by (first | trivial | assumption | omega | (intros; first | assumption | omega)), ?_⟩ | (apply v_condb; (focus (simp only [pvT, ite_bool, ints_length, z1, y5, go_sem]; first | exact pvt | exact pvf)); simp only [cond_true, cond_false]) | fail))
                  refine v_round ((k : Int) - 1) ⟨by omega, by omega⟩ (by omega) (fits_sto _ id (by simp [Env.get, PV.renL, PV.ren , pvT, renL_ints, refsL_ints, e2, hend]) (by simp [PV.refsL, PV.refs , pvT, renL_ints, refsL_ints, e2, hend]) (by simp [SC.live, SC.ren, SC.refs, PV.renL, PV.ren, PV.refsL, PV.refs, sto_cons, sto_nil , pvT, renL_ints, refsL_ints, e2, hend]) (by simp []))
  · rw [h5] at hs
    rw [if_neg (by omega), h2]
    have c1 : ¬ e = 0 := by omega
    (repeat (first | refine Stp.go ?_ | refine v_region ?_ | refine v_regionD ?_ | refine v_blocky (by decide) ?_ | ((first | refine v_o rfl ?_ ?_ | refine v_oD rfl ?_ ?_); (focus (simp only [pvT, ite_bool, c1, go_sem]; done)); simp only [Env.put]) | ((first | refine v_u rfl fun K hK => ?_ | refine v_g rfl fun K hK => ?_ | refine v_uD rfl fun K hK => ?_ | refine v_gD rfl fun K hK => ?_); simp only [pvT, ite_bool, c1, go_sem]) | ((refine callK_pure (fun hc => hs) rfl ?_; simp only [upds, eq_self, true_or, true_and])) | refine v_end ?_ | refine v_endD (by kernel_rfl) ?_ | (refine hK _ _ ?_; clear hK K) | refine ⟨by (first | trivial | assumption | omega | (intros; first | assumption | omega)), ?_⟩ | (apply v_condb; (focus (simp only [pvT, ite_bool, c1, go_sem]; first | exact pvt | exact pvf)); simp only [cond_true, cond_false]) | fail))
    (first | refine v_fin_n ?_ | refine v_fin_r ?_); simp only [ resK, one, PV.snap, go_sem]
    exact .refl _
end Go.V
/- Layer 12: the number of shortest paths, as the program counts them. -/
set_option linter.unusedVariables false
set_option linter.unusedSimpArgs false
namespace Go.V
open Go.RowKit Go.Proofs
attribute [local irreducible] wp seqK lexK opK callK upd sto Good GoodR

theorem reach_ne {t : Topo} {down : List Bool} {d : Int} {dist : List Int} (h : SP.IsDist (t.gr down d false) dist) (hd : d.toNat < dist.length) : reachK dist dist.length ≠ [] := by
  have hz := h.zero
  intro he
  have : (d.toNat : Int) ∈ reachK dist dist.length := reachK_mem.2 ⟨d.toNat, rfl, hd, by
    have e : (t.gr down d false).d = d.toNat := rfl
    rw [e] at hz; omega⟩
  rw [he] at this
  cases this

theorem okst_sto {l : List (Nat × SC)} (h : ∀ x ∈ l, x.2.live = true ∧ x.1 < 100 ∧ (∀ T es, x.2 ≠ .omap T es) ∧ ∀ j ∈ x.2.refs, j ∈ l.map (·.1)) : OkSt (l.map (·.1)) (sto l) := by
  have hl := sto_live (l := l) fun x hx => (h x hx).1
  refine fun id => ⟨fun hm => ?_, fun hm => sto_none hm⟩
  obtain ⟨h1, h2, h3, h4⟩ := h _ (sto_mem hm)
  exact ⟨h1, h2, h3, fun j hj => (hl j).2 (h4 j hj)⟩

set_option maxHeartbeats 4000000 in
theorem count_good (t : Topo) (down : List Bool) (n d most : Int) (hmx : most ≤ 9223372036854775807) (h20 : t.n < 20) :
    Good Try.prog 32 [pvT t, .slc 1 (bools down), .int .i64 n, .int .i64 d, .int .i64 most] (countR t down n d most) := by
  have hs := towards_good t down n d
  refine v_enter ttok mixed Try.func32 (by kernel_rfl) rfl Try.ntmps32 Try.results32 (by simp) ?_; rw [fresh_sto]; simp only [argEnv, List.range, List.range.loop, List.length_cons, List.length_nil, List.zip_cons_cons, List.zip_nil_left]
  unfold countR
  unfold towR at hs
  rcases distR_cases t down d false with ⟨h1, h2, h3, h4, h5⟩ | ⟨e, h1, h2, h5⟩
  · rw [if_pos h4] at hs ⊢
    have ht := maskOk_ok h1
    have hml := maskOk_len h1
    obtain ⟨hn1, hn2, hn3, hn4⟩ := Topo.frame_n (Topo.ok_frame ht)
    have hI := distL_is ht down h2 h3 false
    have hD := isDist_ok ht hI
    have hDl := hD.1
    generalize distL t down d false = dist at *
    by_cases c1 : 0 ≤ n ∧ n < t.n
    · rw [if_pos c1] at hs ⊢
      by_cases c3 : most < 0
      · rw [if_neg (by omega)]
        (repeat (first | refine Stp.go ?_ | refine v_region ?_ | refine v_regionD ?_ | refine v_blocky (by decide) ?_ | ((first | refine v_o rfl ?_ ?_ | refine v_oD rfl ?_ ?_); (focus (simp only [pvT, pvG, ite_bool, c3, go_sem]; done)); simp only [Env.put]) | ((first | refine v_u rfl fun K hK => ?_ | refine v_g rfl fun K hK => ?_ | refine v_uD rfl fun K hK => ?_ | refine v_gD rfl fun K hK => ?_); simp only [pvT, pvG, ite_bool, c3, go_sem]) | ((refine callK_pure (fun hc => hs) rfl ?_; simp only [upds, eq_self, true_or, true_and])) | refine v_end ?_ | refine v_endD (by kernel_rfl) ?_ | (refine hK _ _ ?_; clear hK K) | refine ⟨by (first | trivial | assumption | omega | (intros; first | assumption | omega)), ?_⟩ | (apply v_condb; (focus (simp only [pvT, pvG, ite_bool, c3, go_sem]; first | exact pvt | exact pvf)); simp only [cond_true, cond_false]) | fail))
        (first | refine v_fin_n ?_ | refine v_fin_r ?_); simp only [ resK, one, PV.snap, go_sem]
        exact .refl _
      · rw [if_pos (by omega)]
        have hgo := gorder_good t down d dist (by omega) (reach_ne hI (by omega))
        have hcl0 : ∀ l, CntOk t most (cntL t down dist d most l) := CntOk.all (by omega)
        have homem : ∀ k, k < (orderL dist).length → ∃ i : Nat, (orderL dist).getD k 0 = i ∧ i < dist.length := fun k hk => by
          obtain ⟨i, e1, e2, _⟩ := orderL_mem.1 (show (orderL dist).getD k 0 ∈ orderL dist by simp [List.getD, hk])
          exact ⟨i, e1, e2⟩
        have hol := orderL_length dist
        have hdrop := cntL_drop t down dist d most (orderL dist)
        have hzero : cntL t down dist d most [] = cnt0 t d most := rfl
        have hdr0 : cntL t down dist d most ((orderL dist).drop 0) = cntL t down dist d most (orderL dist) := by simp
        unfold cnt0 at hzero
        have hback := backward_good (orderL dist)
        generalize orderL dist = ord at *
        obtain ⟨N, hN⟩ : ∃ N : Nat, t.n = N := ⟨t.n.toNat, by omega⟩
        have hnn : t.n.toNat = N := by omega
        obtain ⟨dn, rfl⟩ : ∃ m : Nat, d = m := ⟨d.toNat, by omega⟩
        obtain ⟨nn, rfl⟩ : ∃ m : Nat, n = m := ⟨n.toNat, by omega⟩
        have v3 : 0 ≤ t.n := by omega
        have v4 : t.n.toNat * 8 ≤ 140737488355328 := by omega
        have v5 : t.n ≤ 140737488355328 := by omega
        have v6 : (dn : Int) < N := by omega
        have v7 : (0 : Int) ≤ dn := by omega
        have v8 : dn < N := by omega
        have v10 : (ints (List.replicate N 0)).getD dn .undef = .int .i64 0 := by rw [ints_get (by simpa using v8)]; simp [List.getD, v8]
        rw [hnn] at hzero
        simp only [Int.toNat_natCast] at hzero
        (repeat (first | refine Stp.go ?_ | refine v_region ?_ | refine v_regionD ?_ | refine v_blocky (by decide) ?_ | ((first | refine v_o rfl ?_ ?_ | refine v_oD rfl ?_ ?_); (focus (simp only [pvT, pvG, ite_bool, c3, v3, v4, v5, v6, v7, v8, v10, hnn, ints_replicate, ints_set, ints_length, List.length_replicate,  go_sem]; done)); simp only [Env.put]) | ((first | refine v_u rfl fun K hK => ?_ | refine v_g rfl fun K hK => ?_ | refine v_uD rfl fun K hK => ?_ | refine v_gD rfl fun K hK => ?_); simp only [pvT, pvG, ite_bool, c3, v3, v4, v5, v6, v7, v8, v10, hnn, ints_replicate, ints_set, ints_length, List.length_replicate,  go_sem]) | (first | (refine callK_pure (fun hc => hs) rfl ?_; simp only [upds, eq_self, true_or, true_and]) | (refine callK_pure (fun hc => hgo) rfl ?_; simp only [upds, eq_self, true_or, true_and]) | (refine callK_made hback (by simp [Free, sto_cons, sto_nil]) ?_; simp only [upds, upd_sto, eq_self, true_or, true_and])) | refine v_end ?_ | refine v_endD (by kernel_rfl) ?_ | (refine hK _ _ ?_; clear hK K) | refine ⟨by (first | trivial | assumption | omega | (intros; first | assumption | omega)), ?_⟩ | (apply v_condb; (focus (simp only [pvT, pvG, ite_bool, c3, v3, v4, v5, v6, v7, v8, v10, hnn, ints_replicate, ints_set, ints_length, List.length_replicate,  go_sem]; first | exact pvt | exact pvf)); simp only [cond_true, cond_false]) | fail))
        refine v_range [2, 5, 9, 12, 14, 42] [.int .i64 nn, .ptr 6 3 0 0, .ptr 5 1 0 0, .ptr 4 6 0 0, .ptr 2 1 0 0, .fn 79 [] [.ptr 1 1 0 0]] [1, 2, 3, 4, 5, 6]
          (fun c : List Int => [(1, .row 29 1 [.slc 1 (ints ord)]), (2, .row 29 1 [.sref 3 1 0 N false]), (3, .row 3 1 (ints c)), (4, .row 67 6 [pvG t down dn dist]), (5, .row 3 1 [.int .i64 most]), (6, .row 25 3 [pvT t])])
          (fun m c => c = cntL t down dist dn most (ord.drop m)) (cntL t down dist dn most []) (box := 1) (T := 29) (zs := ord) (by kernel_rfl) (by decide) (by decide) ?_ back_seq (by omega) (by decide) (by decide) rfl ?_ ?_ ?_ ?_ ?_ ?_ ?_ ?_
        · intro o ho
          simp only [List.mem_cons, List.not_mem_nil, or_false] at ho
          subst ho
          exact ⟨⟨_, rfl⟩, rfl, by simp [dstOk]⟩
        · exact (fits_sto _ (fun x => if x = 101 then 9002 else if x = 102 then 7003 else if x = 103 then 7002 else if x = 104 then 2008 else if x = 105 then 1001 else if x = 106 then 1000 else x) (by simp [Env.get, PV.renL, PV.ren , pvT, pvG, sh, PV.renL, PV.ren, renL_ints, refsL_ints, hzero, ints_set]) (by simp [PV.refsL, PV.refs , pvT, pvG, sh, PV.renL, PV.ren, renL_ints, refsL_ints, hzero, ints_set]) (by simp [SC.live, SC.ren, SC.refs, PV.renL, PV.ren, PV.refsL, PV.refs, sto_cons, sto_nil , pvT, pvG, sh, PV.renL, PV.ren, renL_ints, refsL_ints, hzero, ints_set]) (by simp []))
        · simp
        · intro c; rfl
        · intro c
          refine okst_sto (l := [(1, .row 29 1 [.slc 1 (ints ord)]), (2, .row 29 1 [.sref 3 1 0 N false]), (3, .row 3 1 (ints c)), (4, .row 67 6 [pvG t down dn dist]), (5, .row 3 1 [.int .i64 most]), (6, .row 25 3 [pvT t])]) ?_
          simp [SC.live, SC.refs, PV.refsL, PV.refs, refsL_ints, pvG, pvT]
        · intro c; simp [sto_cons]
        · simp [PV.refsL, PV.refs]
        · intro k c hk hc
          subst hc
          have hcl := hcl0 (ord.drop (k + 1))
          obtain ⟨xn, hx, hxl⟩ := homem k hk
          have hdk := hdrop k hk
          rw [hx] at hdk
          have hgn := gnext_good t down dist xn dn ht hml hD (by omega) (by omega)
          have hmem : ∀ j, j < (nextL t down dist xn dn).length → t.arc ((nextL t down dist xn dn).getD j 0) := fun j hj => (nextL_arc ht (down := down) (dist := dist) (n := xn) (d := dn) (by simp [List.getD, hj])).1
          have hll := nextL_len ht down dist xn dn
          unfold cntX at hdk
          generalize nextL t down dist xn dn = l at *
          generalize cntL t down dist dn most (ord.drop (k + 1)) = c0 at *
          rw [hx]
          simp only [List.zip_cons_cons, List.zip_nil_left, asgEnv, List.foldl_cons, List.foldl_nil, Env.put, Env.eval, Env.get, reduceIte, Nat.reduceEqDiff]
          (repeat (first | refine Stp.go ?_ | refine v_region ?_ | refine v_regionD ?_ | refine v_blocky (by decide) ?_ | ((first | refine v_o rfl ?_ ?_ | refine v_oD rfl ?_ ?_); (focus (simp only [pvT, pvG, ite_bool, ints_length, go_sem]; done)); simp only [Env.put]) | ((first | refine v_u rfl fun K hK => ?_ | refine v_g rfl fun K hK => ?_ | refine v_uD rfl fun K hK => ?_ | refine v_gD rfl fun K hK => ?_); simp only [pvT, pvG, ite_bool, ints_length, go_sem]) | ((refine callK_pure (fun hc => hgn) rfl ?_; simp only [upds, eq_self, true_or, true_and])) | refine v_end ?_ | refine v_endD (by kernel_rfl) ?_ | (refine hK _ _ ?_; clear hK K) | refine ⟨by (first | trivial | assumption | omega | (intros; first | assumption | omega)), ?_⟩ | (apply v_condb; (focus (simp only [pvT, pvG, ite_bool, ints_length, go_sem]; first | exact pvt | exact pvf)); simp only [cond_true, cond_false]) | fail))
          refine v_loop [5, 9, 12, 14, 16, 47, 48, 49] (fun j : Nat => j ≤ l.length) (fun j => l.length - j)
            (fun j => [.ptr 6 3 0 0, .ptr 5 1 0 0, .ptr 4 6 0 0, .ptr 2 1 0 0, .int .i64 xn, .slc 1 (ints l), .int .i64 l.length, .int .i64 j])
            (fun j => [(1, .row 29 1 [.slc 1 (ints ord)]), (2, .row 29 1 [.sref 3 1 0 N false]), (3, .row 3 1 (ints (cntJ t most xn l j c0))), (4, .row 67 6 [pvG t down dn dist]), (5, .row 3 1 [.int .i64 most]), (6, .row 25 3 [pvT t])]) 0 (Nat.zero_le _) ?_ ?_
          · exact (fits_sto _ id (by simp [Env.get, PV.renL, PV.ren , pvT, pvG, renL_ints, refsL_ints, cntJ]) (by simp [PV.refsL, PV.refs , pvT, pvG, renL_ints, refsL_ints, cntJ]) (by simp [SC.live, SC.ren, SC.refs, PV.renL, PV.ren, PV.refsL, PV.refs, sto_cons, sto_nil , pvT, pvG, renL_ints, refsL_ints, cntJ]) (by simp []))
          · intro j hj
            simp only [List.zip_cons_cons, List.zip_nil_left]
            by_cases hcj : j < l.length
            · have hsucc := cntJ_succ t most xn l j c0 hcj
              have ha := hmem j hcj
              have hA := ints_get hcj
              have hok : CntOk t most (cntJ t most xn l j c0) := CntOk.foldl _ hcl
              generalize l.getD j 0 = a at *
              have hhd := head_good t a ht ha
              have hhi := t.head_in ht ha
              obtain ⟨hn, hhn⟩ : ∃ m : Nat, t.head a = m := ⟨(t.head a).toNat, by omega⟩
              rw [hhn] at hhd hhi
              generalize cntJ t most xn l j c0 = c at *
              have hl := hok.len
              have b1 := hok.lo xn
              have b2 := hok.hi xn
              have b3 := hok.lo hn
              have z1 : (j : Int) < l.length := by omega
              have z2 : (0 : Int) ≤ j := by omega
              have z3 : IntKind.i64.wrap ((j : Int) + 1) = ((j + 1 : Nat) : Int) := by rw [wrap_i64 (by omega) (by omega)]; omega
              have u1 : (hn : Int) < N := by omega
              have u2 : (0 : Int) ≤ hn := by omega
              have u3 : hn < c.length := by omega
              have u4 := ints_get u3
              have w1 : (xn : Int) < N := by omega
              have w2 : (0 : Int) ≤ xn := by omega
              have w3 : xn < c.length := by omega
              have w4 := ints_get w3
              have hstep := cntS_eq t most c a xn hn _ _ rfl rfl hhn
              rw [hstep] at hsucc
              generalize c.getD xn 0 = cx at *
              generalize c.getD hn 0 = ch at *
              have w5 : IntKind.i64.wrap (most - cx) = most - cx := wrap_i64 (by omega) (by omega)
              have w6 : IntKind.i64.wrap (cx + if most - cx < ch then most - cx else ch) = cx + if most - cx < ch then most - cx else ch := wrap_i64 (by split <;> omega) (by split <;> omega)
              (repeat (first | refine Stp.go ?_ | refine v_region ?_ | refine v_regionD ?_ | refine v_blocky (by decide) ?_ | ((first | refine v_o rfl ?_ ?_ | refine v_oD rfl ?_ ?_); (focus (simp only [pvT, pvG, ite_bool, ints_length, ints_set, hA, z1, z2, z3, u1, u2, u3, u4, w1, w2, w3, w4, w5, w6, go_sem]; done)); simp only [Env.put]) | ((first | refine v_u rfl fun K hK => ?_ | refine v_g rfl fun K hK => ?_ | refine v_uD rfl fun K hK => ?_ | refine v_gD rfl fun K hK => ?_); simp only [pvT, pvG, ite_bool, ints_length, ints_set, hA, z1, z2, z3, u1, u2, u3, u4, w1, w2, w3, w4, w5, w6, go_sem]) | ((refine callK_pure (fun hc => hhd) rfl ?_; simp only [upds, eq_self, true_or, true_and])) | refine v_end ?_ | refine v_endD (by kernel_rfl) ?_ | (refine hK _ _ ?_; clear hK K) | refine ⟨by (first | trivial | assumption | omega | (intros; first | assumption | omega)), ?_⟩ | (apply v_condb; (focus (simp only [pvT, pvG, ite_bool, ints_length, ints_set, hA, z1, z2, z3, u1, u2, u3, u4, w1, w2, w3, w4, w5, w6, go_sem]; first | exact pvt | exact pvf)); simp only [cond_true, cond_false]) | fail))
              refine v_round (j + 1) hcj (by omega) (fits_sto _ id (by simp [Env.get, PV.renL, PV.ren , pvT, pvG, renL_ints, refsL_ints, hsucc, ints_set]) (by simp [PV.refsL, PV.refs , pvT, pvG, renL_ints, refsL_ints, hsucc, ints_set]) (by simp [SC.live, SC.ren, SC.refs, PV.renL, PV.ren, PV.refsL, PV.refs, sto_cons, sto_nil , pvT, pvG, renL_ints, refsL_ints, hsucc, ints_set]) (by simp []))
            · have z1 : ¬ (j : Int) < l.length := by omega
              have hend := cntJ_all t most xn l c0 j (by omega)
              rw [← hdk] at hend
              (repeat (first | refine Stp.go ?_ | refine v_region ?_ | refine v_regionD ?_ | refine v_blocky (by decide) ?_ | ((first | refine v_o rfl ?_ ?_ | refine v_oD rfl ?_ ?_); (focus (simp only [pvT, pvG, ite_bool, ints_length, z1, go_sem]; done)); simp only [Env.put]) | ((first | refine v_u rfl fun K hK => ?_ | refine v_g rfl fun K hK => ?_ | refine v_uD rfl fun K hK => ?_ | refine v_gD rfl fun K hK => ?_); simp only [pvT, pvG, ite_bool, ints_length, z1, go_sem]) | (refine v_loopx ?_) | refine v_end ?_ | refine v_endD (by kernel_rfl) ?_ | (refine hK _ _ ?_; clear hK K) | refine ⟨by (first | trivial | assumption | omega | (intros; first | assumption | omega)), ?_⟩ | (apply v_condb; (focus (simp only [pvT, pvG, ite_bool, ints_length, z1, go_sem]; first | exact pvt | exact pvf)); simp only [cond_true, cond_false]) | fail))
              refine v_rangeq _ rfl ?_
              intro id hid
              rw [hend]
              simp only [pvG, pvT]
        · intro c hc
          subst hc
          have hck := hcl0 (ord.drop 0)
          rw [hdr0] at hck ⊢
          generalize cntL t down dist dn most ord = c at *
          have hl := hck.len
          have u1 : (nn : Int) < N := by omega
          have u2 : (0 : Int) ≤ nn := by omega
          have u3 : nn < c.length := by omega
          have u4 := ints_get u3
          simp only [List.map_cons, List.map_nil, SC.ren, PV.renL, PV.ren, sh, renL_ints, Nat.reduceAdd, List.zip_cons_cons, List.zip_nil_left]
          (repeat (first | refine Stp.go ?_ | refine v_region ?_ | refine v_regionD ?_ | refine v_blocky (by decide) ?_ | ((first | refine v_o rfl ?_ ?_ | refine v_oD rfl ?_ ?_); (focus (simp only [pvT, ints_length, u1, u2, u3, u4, go_sem]; done)); simp only [Env.put]) | ((first | refine v_u rfl fun K hK => ?_ | refine v_g rfl fun K hK => ?_ | refine v_uD rfl fun K hK => ?_ | refine v_gD rfl fun K hK => ?_); simp only [pvT, ints_length, u1, u2, u3, u4, go_sem]) | (fail) | refine v_end ?_ | refine v_endD (by kernel_rfl) ?_ | (refine hK _ _ ?_; clear hK K) | refine ⟨by (first | trivial | assumption | omega | (intros; first | assumption | omega)), ?_⟩ | (apply v_condb; (focus (simp only [pvT, ints_length, u1, u2, u3, u4, go_sem]; first | exact pvt | exact pvf)); simp only [cond_true, cond_false]) | fail))
          (first | refine v_fin_n ?_ | refine v_fin_r ?_); simp only [ resK, one, PV.snap, go_sem]
          exact .refl _
    · rw [if_neg c1] at hs ⊢
      (repeat (first | refine Stp.go ?_ | refine v_region ?_ | refine v_regionD ?_ | refine v_blocky (by decide) ?_ | ((first | refine v_o rfl ?_ ?_ | refine v_oD rfl ?_ ?_); (focus (simp only [pvT, pvG0, ite_bool,  go_sem]; done)); simp only [Env.put]) | ((first | refine v_u rfl fun K hK => ?_ | refine v_g rfl fun K hK => ?_ | refine v_uD rfl fun K hK => ?_ | refine v_gD rfl fun K hK => ?_); simp only [pvT, pvG0, ite_bool,  go_sem]) | ((refine callK_pure (fun hc => hs) rfl ?_; simp only [upds, eq_self, true_or, true_and])) | refine v_end ?_ | refine v_endD (by kernel_rfl) ?_ | (refine hK _ _ ?_; clear hK K) | refine ⟨by (first | trivial | assumption | omega | (intros; first | assumption | omega)), ?_⟩ | (apply v_condb; (focus (simp only [pvT, pvG0, ite_bool,  go_sem]; first | exact pvt | exact pvf)); simp only [cond_true, cond_false]) | fail))
      (first | refine v_fin_n ?_ | refine v_fin_r ?_); simp only [ resK, one, PV.snap, go_sem]
      exact .refl _
  · rw [if_neg (by omega), h2] at hs
    rw [if_neg (by omega), h2]
    have c1 : ¬ e = 0 := by omega
    (repeat (first | refine Stp.go ?_ | refine v_region ?_ | refine v_regionD ?_ | refine v_blocky (by decide) ?_ | ((first | refine v_o rfl ?_ ?_ | refine v_oD rfl ?_ ?_); (focus (simp only [pvT, pvG0, ite_bool, c1, go_sem]; done)); simp only [Env.put]) | ((first | refine v_u rfl fun K hK => ?_ | refine v_g rfl fun K hK => ?_ | refine v_uD rfl fun K hK => ?_ | refine v_gD rfl fun K hK => ?_); simp only [pvT, pvG0, ite_bool, c1, go_sem]) | ((refine callK_pure (fun hc => hs) rfl ?_; simp only [upds, eq_self, true_or, true_and])) | refine v_end ?_ | refine v_endD (by kernel_rfl) ?_ | (refine hK _ _ ?_; clear hK K) | refine ⟨by (first | trivial | assumption | omega | (intros; first | assumption | omega)), ?_⟩ | (apply v_condb; (focus (simp only [pvT, pvG0, ite_bool, c1, go_sem]; first | exact pvt | exact pvf)); simp only [cond_true, cond_false]) | fail))
    (first | refine v_fin_n ?_ | refine v_fin_r ?_); simp only [ resK, one, PV.snap, go_sem]
    exact .refl _
end Go.V
/- Layer 12: is there exactly one shortest path; Order. -/
set_option linter.unusedVariables false
set_option linter.unusedSimpArgs false
namespace Go.V
open Go.RowKit Go.Proofs
attribute [local irreducible] wp seqK lexK opK callK upd sto Good GoodR

/-- The number of shortest paths that Count gives back, and its error. -/
noncomputable def cntV (t : Topo) (down : List Bool) (n d most : Int) : Int :=
  if distE t down d = 0 then if 0 ≤ n ∧ n < t.n then if 0 ≤ most then (cntL t down (distL t down d false) d most (orderL (distL t down d false))).getD n.toNat 0 else 0 else 0 else 0
def cntE (t : Topo) (down : List Bool) (n d most : Int) : Int :=
  if distE t down d = 0 then if 0 ≤ n ∧ n < t.n then if 0 ≤ most then 0 else 1 else 2 else distE t down d
theorem countR_eq (t : Topo) (down : List Bool) (n d most : Int) : countR t down n d most = .tup [.int .i64 (cntV t down n d most), .int .i64 (cntE t down n d most)] := by
  unfold countR cntV cntE
  split
  · split
    · split <;> rfl
    · rfl
  · rfl
noncomputable def uniqB (t : Topo) (down : List Bool) (n d : Int) : Bool := decide (cntE t down n d 2 = 0) && decide (cntV t down n d 2 = 1)

theorem unique_good (t : Topo) (down : List Bool) (n d : Int) (h20 : t.n < 20) : Good Try.prog 34 [pvT t, .slc 1 (bools down), .int .i64 n, .int .i64 d] (.bool (uniqB t down n d)) := by
  have hs := count_good t down n d 2 (by decide) h20
  rw [countR_eq] at hs
  unfold uniqB
  generalize cntV t down n d 2 = v at *
  generalize cntE t down n d 2 = e at *
  refine v_enter ttok mixed Try.func34 (by kernel_rfl) rfl Try.ntmps34 Try.results34 (by simp) ?_; rw [fresh_sto]; simp only [argEnv, List.range, List.range.loop, List.length_cons, List.length_nil, List.zip_cons_cons, List.zip_nil_left]
  (repeat (first | refine Stp.go ?_ | refine v_region ?_ | refine v_regionD ?_ | refine v_blocky (by decide) ?_ | ((first | refine v_o rfl ?_ ?_ | refine v_oD rfl ?_ ?_); (focus (simp only [pvT, ite_bool, go_sem]; done)); simp only [Env.put]) | ((first | refine v_u rfl fun K hK => ?_ | refine v_g rfl fun K hK => ?_ | refine v_uD rfl fun K hK => ?_ | refine v_gD rfl fun K hK => ?_); simp only [pvT, ite_bool, go_sem]) | ((refine callK_pure (fun hc => hs) rfl ?_; simp only [upds, eq_self, true_or, true_and])) | refine v_end ?_ | refine v_endD (by kernel_rfl) ?_ | (refine hK _ _ ?_; clear hK K) | refine ⟨by (first | trivial | assumption | omega | (intros; first | assumption | omega)), ?_⟩ | (apply v_condb; (focus (simp only [pvT, ite_bool, go_sem]; first | exact pvt | exact pvf)); simp only [cond_true, cond_false]) | fail))
  (first | refine v_fin_n ?_ | refine v_fin_r ?_); simp only [ resK, one, PV.snap, go_sem]
  refine wk_bool ?_
  by_cases h : e = 0 <;> simp [h]
theorem runique_good (t : Topo) (down : List Bool) (n d : Int) : Good Try.prog 35 [pvT t, .slc 1 (bools down), .int .i64 n, .int .i64 d] (.bool (uniqB t down n d)) := by
  have hs := rcount_good t down n d 2 (by decide)
  rw [countR_eq] at hs
  unfold uniqB
  generalize cntV t down n d 2 = v at *
  generalize cntE t down n d 2 = e at *
  refine v_enter ttok mixed Try.func35 (by kernel_rfl) rfl Try.ntmps35 Try.results35 (by simp) ?_; rw [fresh_sto]; simp only [argEnv, List.range, List.range.loop, List.length_cons, List.length_nil, List.zip_cons_cons, List.zip_nil_left]
  (repeat (first | refine Stp.go ?_ | refine v_region ?_ | refine v_regionD ?_ | refine v_blocky (by decide) ?_ | ((first | refine v_o rfl ?_ ?_ | refine v_oD rfl ?_ ?_); (focus (simp only [pvT, ite_bool, go_sem]; done)); simp only [Env.put]) | ((first | refine v_u rfl fun K hK => ?_ | refine v_g rfl fun K hK => ?_ | refine v_uD rfl fun K hK => ?_ | refine v_gD rfl fun K hK => ?_); simp only [pvT, ite_bool, go_sem]) | ((refine callK_pure (fun hc => hs) rfl ?_; simp only [upds, eq_self, true_or, true_and])) | refine v_end ?_ | refine v_endD (by kernel_rfl) ?_ | (refine hK _ _ ?_; clear hK K) | refine ⟨by (first | trivial | assumption | omega | (intros; first | assumption | omega)), ?_⟩ | (apply v_condb; (focus (simp only [pvT, ite_bool, go_sem]; first | exact pvt | exact pvf)); simp only [cond_true, cond_false]) | fail))
  (first | refine v_fin_n ?_ | refine v_fin_r ?_); simp only [ resK, one, PV.snap, go_sem]
  refine wk_bool ?_
  by_cases h : e = 0 <;> simp [h]

theorem order_good (t : Topo) (down : List Bool) (d : Int) (h20 : t.n < 20) : Good Try.prog 16 [pvT t, .slc 1 (bools down), .int .i64 d] (orderR t down d) := by
  have hs := towards_good t down d d
  refine v_enter ttok mixed Try.func16 (by kernel_rfl) rfl Try.ntmps16 Try.results16 (by simp) ?_; rw [fresh_sto]; simp only [argEnv, List.range, List.range.loop, List.length_cons, List.length_nil, List.zip_cons_cons, List.zip_nil_left]
  unfold orderR
  unfold towR at hs
  rcases distR_cases t down d false with ⟨h1, h2, h3, h4, h5⟩ | ⟨e, h1, h2, h5⟩
  · rw [if_pos h4, if_pos ⟨h2, h3⟩] at hs
    rw [if_pos h4]
    have ht := maskOk_ok h1
    have hI := distL_is ht down h2 h3 false
    have hDl := (isDist_ok ht hI).1
    generalize distL t down d false = dist at *
    have hgo := gorder_good t down d dist (by omega) (reach_ne hI (by omega))
    generalize orderL dist = ord at *
    (repeat (first | refine Stp.go ?_ | refine v_region ?_ | refine v_regionD ?_ | refine v_blocky (by decide) ?_ | ((first | refine v_o rfl ?_ ?_ | refine v_oD rfl ?_ ?_); (focus (simp only [pvT, pvG, ite_bool,  go_sem]; done)); simp only [Env.put]) | ((first | refine v_u rfl fun K hK => ?_ | refine v_g rfl fun K hK => ?_ | refine v_uD rfl fun K hK => ?_ | refine v_gD rfl fun K hK => ?_); simp only [pvT, pvG, ite_bool,  go_sem]) | (first | (refine callK_pure (fun hc => hs) rfl ?_; simp only [upds, eq_self, true_or, true_and]) | (refine callK_pure (fun hc => hgo) rfl ?_; simp only [upds, eq_self, true_or, true_and])) | refine v_end ?_ | refine v_endD (by kernel_rfl) ?_ | (refine hK _ _ ?_; clear hK K) | refine ⟨by (first | trivial | assumption | omega | (intros; first | assumption | omega)), ?_⟩ | (apply v_condb; (focus (simp only [pvT, pvG, ite_bool,  go_sem]; first | exact pvt | exact pvf)); simp only [cond_true, cond_false]) | fail))
    (first | refine v_fin_n ?_ | refine v_fin_r ?_); simp only [ resK, one, PV.snap, go_sem]
    exact .refl _
  · rw [if_neg (by omega), h2] at hs
    rw [if_neg (by omega), h2]
    have c1 : ¬ e = 0 := by omega
    (repeat (first | refine Stp.go ?_ | refine v_region ?_ | refine v_regionD ?_ | refine v_blocky (by decide) ?_ | ((first | refine v_o rfl ?_ ?_ | refine v_oD rfl ?_ ?_); (focus (simp only [pvT, pvG0, ite_bool, c1, go_sem]; done)); simp only [Env.put]) | ((first | refine v_u rfl fun K hK => ?_ | refine v_g rfl fun K hK => ?_ | refine v_uD rfl fun K hK => ?_ | refine v_gD rfl fun K hK => ?_); simp only [pvT, pvG0, ite_bool, c1, go_sem]) | (first | (refine callK_pure (fun hc => hs) rfl ?_; simp only [upds, eq_self, true_or, true_and])) | refine v_end ?_ | refine v_endD (by kernel_rfl) ?_ | (refine hK _ _ ?_; clear hK K) | refine ⟨by (first | trivial | assumption | omega | (intros; first | assumption | omega)), ?_⟩ | (apply v_condb; (focus (simp only [pvT, pvG0, ite_bool, c1, go_sem]; first | exact pvt | exact pvf)); simp only [cond_true, cond_false]) | fail))
    (first | refine v_fin_n ?_ | refine v_fin_r ?_); simp only [ resK, one, PV.snap, go_sem]
    exact Wk.two (Wk.nil 1) (.refl _)
end Go.V
