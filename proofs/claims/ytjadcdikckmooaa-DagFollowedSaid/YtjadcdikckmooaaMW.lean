import Derived.Test.YtjadcdikckmooaaMU
/- A part of a proof, with no condition of its own. Merged texts: L4 L5. -/
/- Paths over next arcs; Path of layer 9's document; the statement DagFollowed, as a contract. -/
set_option linter.unusedVariables false
set_option linter.unusedSimpArgs false
namespace Go.V
open Go.RowKit Go.Proofs
attribute [local irreducible] wp seqK lexK opK callK upd sto Good GoodR

def pEnd (t : Topo) (s : Int) (p : List Int) : Int := p.foldl (fun _ a => t.head a) s
def pCost (t : Topo) (p : List Int) : Int := (p.map t.cost).sum
theorem pEnd_snoc (t : Topo) (s : Int) (p : List Int) (a : Int) : pEnd t s (p ++ [a]) = t.head a := by simp [pEnd]
theorem pCost_snoc (t : Topo) (p : List Int) (a : Int) : pCost t (p ++ [a]) = pCost t p + t.cost a := by simp [pCost]
/-- A path of arcs that Path of the document takes. -/
def PathOk (t : Topo) (s : Int) (p : List Int) : Prop :=
  ∀ k, k < p.length → t.arc (p.getD k 0) ∧ t.tail (p.getD k 0) = pEnd t s (p.take k) ∧ (0 < k → t.over (pEnd t s (p.take k)) = false)
theorem take_snoc {p : List Int} {k : Nat} (h : k < p.length) : p.take (k + 1) = p.take k ++ [p.getD k 0] := by
  rw [List.take_succ_eq_append_getElem h]; simp [List.getD, h]
theorem PathOk.snoc {t : Topo} {s : Int} {p : List Int} (h : PathOk t s p) {a : Int} (ha : t.arc a) (ht : t.tail a = pEnd t s p) (ho : p ≠ [] → t.over (pEnd t s p) = false) : PathOk t s (p ++ [a]) := by
  intro k hk
  simp only [List.length_append, List.length_singleton] at hk
  by_cases hc : k < p.length
  · obtain ⟨h1, h2, h3⟩ := h k hc
    have e1 : (p ++ [a]).getD k 0 = p.getD k 0 := by simp [List.getD, List.getElem?_append_left hc]
    have e2 : (p ++ [a]).take k = p.take k := by rw [List.take_append_of_le_length (by omega)]
    rw [e1, e2]
    exact ⟨h1, h2, h3⟩
  · have hkl : k = p.length := by omega
    subst hkl
    have e1 : (p ++ [a]).getD p.length 0 = a := by simp [List.getD]
    have e2 : (p ++ [a]).take p.length = p := by simp
    rw [e1, e2]
    exact ⟨ha, ht, fun hp => ho fun e => by rw [e] at hp; simp at hp⟩
theorem pCost_bound {t : Topo} (ht : t.ok = true) : ∀ p : List Int, (∀ a ∈ p, t.arc a) → 0 ≤ pCost t p ∧ pCost t p ≤ p.length * 65535
  | [], _ => by simp [pCost]
  | a :: p, h => by
    have ih := pCost_bound ht p fun b hb => h b (by simp [hb])
    have hc := t.cost_in ht (h a (by simp))
    simp only [pCost, List.map_cons, List.sum_cons, List.length_cons, Int.natCast_add, Int.add_mul, Int.natCast_one, Int.one_mul] at ih ⊢
    omega

set_option maxHeartbeats 4000000 in
theorem path09_good (t : Topo) (s : Int) (p : List Int) (ht : t.ok = true) (hs : 0 ≤ s) (hs' : s < t.n) (hp : PathOk t s p) (hl : p.length ≤ 1000) :
    Good Try.prog 25 [pvT t, .int .i64 s, .slc 1 (ints p)] (.tup [.int .i64 (pEnd t s p), .int .i64 (pCost t p), .int .i64 0]) := by
  have hv := rvalid_good t
  rw [ht] at hv
  have hra := rarcs_good t ht
  obtain ⟨hn1, hn2, hn3, hn4⟩ := Topo.frame_n (Topo.ok_frame ht)
  refine v_enter ttok mixed Try.func25 (by kernel_rfl) rfl Try.ntmps25 Try.results25 (by simp) ?_; rw [fresh_sto]; simp only [argEnv, List.range, List.range.loop, List.length_cons, List.length_nil, List.zip_cons_cons, List.zip_nil_left]
  have c1 : ¬ s < 0 := by omega
  have c2 : ¬ t.n ≤ s := by omega
  (repeat (first | refine Stp.go ?_ | refine v_region ?_ | refine v_regionD ?_ | refine v_blocky (by decide) ?_ | ((first | refine v_o rfl ?_ ?_ | refine v_oD rfl ?_ ?_); (focus (simp only [pvT, c1, c2, decide_true, decide_false, go_sem]; done)); simp only [Env.put]) | ((first | refine v_u rfl fun K hK => ?_ | refine v_g rfl fun K hK => ?_ | refine v_uD rfl fun K hK => ?_ | refine v_gD rfl fun K hK => ?_); simp only [pvT, c1, c2, decide_true, decide_false, go_sem]) | ((refine callK_pure (fun hc => hv) rfl ?_; simp only [upds, eq_self, true_or, true_and])) | refine v_end ?_ | refine v_endD (by kernel_rfl) ?_ | (refine hK _ _ ?_; clear hK K) | refine ⟨by (first | trivial | assumption | omega | (intros; first | assumption | omega)), ?_⟩ | (apply v_condb; (focus (simp only [pvT, c1, c2, decide_true, decide_false, go_sem]; first | exact pvt | exact pvf)); simp only [cond_true, cond_false]) | fail))
  refine v_loop [1, 2, 3, 9, 10] (fun k : Nat => k ≤ p.length) (fun k => p.length - k) (fun k => [.int .i64 (pEnd t s (p.take k)), .slc 1 (ints p), .ptr 102 3 0 0, .int .i64 (pCost t (p.take k)), .int .i64 k])
    (fun k => [(102, .row 25 3 [pvT t])]) 0 (Nat.zero_le _) ?_ ?_
  · exact (fits_sto _ (fun x => if x = 102 then 1000 else x) (by simp [Env.get, PV.renL, PV.ren , pvT, pEnd, pCost]) (by simp [PV.refsL, PV.refs , pvT, pEnd, pCost]) (by simp [SC.live, SC.ren, SC.refs, PV.renL, PV.ren, PV.refsL, PV.refs, sto_cons, sto_nil , pvT, pEnd, pCost]) (by simp []))
  · intro k hk
    simp only [List.zip_cons_cons, List.zip_nil_left]
    by_cases hc : k < p.length
    · obtain ⟨ha, htl, hov⟩ := hp k hc
      have e1 : pEnd t s (p.take (k + 1)) = t.head (p.getD k 0) := by rw [take_snoc hc, pEnd_snoc]
      have e2 : pCost t (p.take (k + 1)) = pCost t (p.take k) + t.cost (p.getD k 0) := by rw [take_snoc hc, pCost_snoc]
      have hb := pCost_bound ht (p.take k) fun a ha => by
        obtain ⟨j, hj, rfl⟩ := List.getElem_of_mem (List.mem_of_mem_take ha)
        have := (hp j hj).1
        simpa [List.getD, hj] using this
      have hbl : (p.take k).length ≤ 1000 := Nat.le_trans (List.length_take_le _ _) (by omega)
      have hA := ints_get hc
      have hcb := t.cost_in ht ha
      have htg := rtail_good t _ ht ha
      have hhg := rhead_good t _ ht ha
      have hcg := rcost_good t _ ht ha
      have hog := rover_good t (pEnd t s (p.take k)) ht
      rw [htl] at htg
      have a1 : ¬ p.getD k 0 < 0 := by have := ha.1; omega
      have a2 : ¬ ((2 * t.ls.length : Nat) : Int) ≤ p.getD k 0 := by have := ha.2; omega
      generalize p.getD k 0 = a at *
      generalize t.head a = h at *
      generalize t.cost a = ca at *
      generalize pCost t (p.take k) = cs at *
      generalize pEnd t s (p.take k) = x at *
      have w1 : (k : Int) < p.length := by omega
      have w2 : (0 : Int) ≤ k := by omega
      have w3 : IntKind.i64.wrap ((k : Int) + 1) = ((k + 1 : Nat) : Int) := by rw [wrap_i64 (by omega) (by omega)]; omega
      have w4 : IntKind.i64.wrap (cs + ca) = cs + ca := wrap_i64 (by omega) (by omega)
      by_cases h0 : k = 0
      · have w5 : ¬ (0 : Int) < k := by omega
        (repeat (first | refine Stp.go ?_ | refine v_region ?_ | refine v_regionD ?_ | refine v_blocky (by decide) ?_ | ((first | refine v_o rfl ?_ ?_ | refine v_oD rfl ?_ ?_); (focus (simp only [pvT, ints_length, w1, w2, w3, w4, w5, a1, a2, hA, eq_self, decide_true, decide_false, not_true_eq_false, Bool.not_true, go_sem]; done)); simp only [Env.put]) | ((first | refine v_u rfl fun K hK => ?_ | refine v_g rfl fun K hK => ?_ | refine v_uD rfl fun K hK => ?_ | refine v_gD rfl fun K hK => ?_); simp only [pvT, ints_length, w1, w2, w3, w4, w5, a1, a2, hA, eq_self, decide_true, decide_false, not_true_eq_false, Bool.not_true, go_sem]) | (first | (refine callK_pure (fun hc => hra) rfl ?_; simp only [upds, eq_self, true_or, true_and]) | (refine callK_pure (fun hc => htg) rfl ?_; simp only [upds, eq_self, true_or, true_and]) | (refine callK_pure (fun hc => hhg) rfl ?_; simp only [upds, eq_self, true_or, true_and]) | (refine callK_pure (fun hc => hcg) rfl ?_; simp only [upds, eq_self, true_or, true_and])) | refine v_end ?_ | refine v_endD (by kernel_rfl) ?_ | (refine hK _ _ ?_; clear hK K) | refine ⟨by (first | trivial | assumption | omega | (intros; first | assumption | omega)), ?_⟩ | (apply v_condb; (focus (simp only [pvT, ints_length, w1, w2, w3, w4, w5, a1, a2, hA, eq_self, decide_true, decide_false, not_true_eq_false, Bool.not_true, go_sem]; first | exact pvt | exact pvf)); simp only [cond_true, cond_false]) | fail))
        refine v_round (k + 1) hc (by omega) (fits_sto _ id (by simp [Env.get, PV.renL, PV.ren , pvT, e1, e2, renL_ints, refsL_ints]) (by simp [PV.refsL, PV.refs , pvT, e1, e2, renL_ints, refsL_ints]) (by simp [SC.live, SC.ren, SC.refs, PV.renL, PV.ren, PV.refsL, PV.refs, sto_cons, sto_nil , pvT, e1, e2, renL_ints, refsL_ints]) (by simp []))
      · have w5 : (0 : Int) < k := by omega
        rw [hov (by omega)] at hog
        (repeat (first | refine Stp.go ?_ | refine v_region ?_ | refine v_regionD ?_ | refine v_blocky (by decide) ?_ | ((first | refine v_o rfl ?_ ?_ | refine v_oD rfl ?_ ?_); (focus (simp only [pvT, ints_length, w1, w2, w3, w4, w5, a1, a2, hA, eq_self, decide_true, decide_false, not_true_eq_false, Bool.not_true, go_sem]; done)); simp only [Env.put]) | ((first | refine v_u rfl fun K hK => ?_ | refine v_g rfl fun K hK => ?_ | refine v_uD rfl fun K hK => ?_ | refine v_gD rfl fun K hK => ?_); simp only [pvT, ints_length, w1, w2, w3, w4, w5, a1, a2, hA, eq_self, decide_true, decide_false, not_true_eq_false, Bool.not_true, go_sem]) | (first | (refine callK_pure (fun hc => hra) rfl ?_; simp only [upds, eq_self, true_or, true_and]) | (refine callK_pure (fun hc => htg) rfl ?_; simp only [upds, eq_self, true_or, true_and]) | (refine callK_pure (fun hc => hhg) rfl ?_; simp only [upds, eq_self, true_or, true_and]) | (refine callK_pure (fun hc => hcg) rfl ?_; simp only [upds, eq_self, true_or, true_and]) | (refine callK_pure (fun hc => hog) rfl ?_; simp only [upds, eq_self, true_or, true_and])) | refine v_end ?_ | refine v_endD (by kernel_rfl) ?_ | (refine hK _ _ ?_; clear hK K) | refine ⟨by (first | trivial | assumption | omega | (intros; first | assumption | omega)), ?_⟩ | (apply v_condb; (focus (simp only [pvT, ints_length, w1, w2, w3, w4, w5, a1, a2, hA, eq_self, decide_true, decide_false, not_true_eq_false, Bool.not_true, go_sem]; first | exact pvt | exact pvf)); simp only [cond_true, cond_false]) | fail))
        refine v_round (k + 1) hc (by omega) (fits_sto _ id (by simp [Env.get, PV.renL, PV.ren , pvT, e1, e2, renL_ints, refsL_ints]) (by simp [PV.refsL, PV.refs , pvT, e1, e2, renL_ints, refsL_ints]) (by simp [SC.live, SC.ren, SC.refs, PV.renL, PV.ren, PV.refsL, PV.refs, sto_cons, sto_nil , pvT, e1, e2, renL_ints, refsL_ints]) (by simp []))
    · have w1 : ¬ (k : Int) < p.length := by omega
      rw [List.take_of_length_le (by omega)]
      (repeat (first | refine Stp.go ?_ | refine v_region ?_ | refine v_regionD ?_ | refine v_blocky (by decide) ?_ | ((first | refine v_o rfl ?_ ?_ | refine v_oD rfl ?_ ?_); (focus (simp only [pvT, ints_length, w1, go_sem]; done)); simp only [Env.put]) | ((first | refine v_u rfl fun K hK => ?_ | refine v_g rfl fun K hK => ?_ | refine v_uD rfl fun K hK => ?_ | refine v_gD rfl fun K hK => ?_); simp only [pvT, ints_length, w1, go_sem]) | (refine v_loopx ?_) | refine v_end ?_ | refine v_endD (by kernel_rfl) ?_ | (refine hK _ _ ?_; clear hK K) | refine ⟨by (first | trivial | assumption | omega | (intros; first | assumption | omega)), ?_⟩ | (apply v_condb; (focus (simp only [pvT, ints_length, w1, go_sem]; first | exact pvt | exact pvf)); simp only [cond_true, cond_false]) | fail))
      (first | refine v_fin_n ?_ | refine v_fin_r ?_); simp only [ resK, one, PV.snap, go_sem]
      exact .refl _
end Go.V
/- The statement DagFollowed, as a contract. -/
set_option linter.unusedVariables false
set_option linter.unusedSimpArgs false
namespace Go.V
open Go.RowKit Go.Proofs
attribute [local irreducible] wp seqK lexK opK callK upd sto Good GoodR

/-- How many nodes are nearer. -/
def rankN (dist : List Int) (x : Int) : Nat := ((reachK dist dist.length).filter fun w => decide (dist.getD w.toNat (-1) < dist.getD x.toNat (-1))).length
theorem rankN_lt {dist : List Int} {x y : Int} (hy0 : 0 ≤ y) (hy : y < dist.length) (h0 : 0 ≤ dist.getD y.toNat (-1)) (h : dist.getD y.toNat (-1) < dist.getD x.toNat (-1)) : rankN dist y < rankN dist x :=
  filter_lt (x := y) (fun w hw => by simp only [decide_eq_true_eq] at hw ⊢; omega) (reachK_mem.2 ⟨y.toNat, by omega, by omega, h0⟩) (by simpa using h) (by simp)
theorem rankN_all {dist : List Int} {x : Int} (hx0 : 0 ≤ x) (hx : x < dist.length) (h0 : 0 ≤ dist.getD x.toNat (-1)) : rankN dist x < dist.length := by
  have h1 := filter_lt (l := reachK dist dist.length) (p := fun _ => true) (q := fun w => decide (dist.getD w.toNat (-1) < dist.getD x.toNat (-1))) (x := x) (fun _ _ => rfl) (reachK_mem.2 ⟨x.toNat, by omega, by omega, h0⟩) rfl (by simp)
  have h2 := List.length_filter_le (fun _ => true) (reachK dist dist.length)
  have h3 := reachK_length dist dist.length
  unfold rankN
  omega

/-- Where a follower stands. -/
structure FolI (t : Topo) (down : List Bool) (dist : List Int) (d s n : Int) (p : List Int) : Prop where
  n0 : 0 ≤ n
  n1 : n < t.n
  r : 0 ≤ dist.getD n.toNat (-1)
  cost : pCost t p + dist.getD n.toNat (-1) = dist.getD s.toNat (-1)
  rank : p.length + rankN dist n ≤ rankN dist s
  path : PathOk t s p
  end_ : pEnd t s p = n
  over : p ≠ [] → n = d ∨ t.over n = false
theorem FolI.step {t : Topo} {down : List Bool} {dist : List Int} {d s n a : Int} {p : List Int} (ht : t.ok = true) (hI : SP.IsDist (t.gr down d false) dist) (h : FolI t down dist d s n p) (hne : n ≠ d) (ha : a ∈ nextL t down dist n d) :
    FolI t down dist d s (t.head a) (p ++ [a]) := by
  obtain ⟨h1, h2, h3, h4, h5, h6, h7, h8, h9, h10⟩ := next_down ht hI ha
  have hl := gr_n ht hI
  have hon := on_iff.1 ((mem_next ht).1 ha).2.2
  have hr := rankN_lt (dist := dist) (x := n) h6 (by omega) h8 (by omega)
  refine ⟨h6, h7, h8, ?_, ?_, h.path.snoc h1 (by rw [h2, h.end_]) (fun hp => by rw [h.end_]; exact (h.over hp).resolve_left hne), pEnd_snoc .., fun _ => hon.2.2.2.1⟩
  · rw [pCost_snoc]; have := h.cost; omega
  · rw [List.length_append, List.length_singleton]; have := h.rank; omega

theorem arcs_next_good (t : Topo) (down : List Bool) (dist : List Int) (n d : Int) (he : distE t down d = 0) (hn0 : 0 ≤ n) (hn1 : n < t.n) (hd : distL t down d false = dist) :
    Good Try.prog 13 [pvT t, .slc 1 (bools down), .int .i64 n, .int .i64 d] (.tup [.slc 1 (ints (nextL t down dist n d)), .int .i64 0]) := by
  have h := next_good t down n d
  unfold nextR at h
  rw [if_pos he, if_pos ⟨hn0, hn1⟩, hd] at h
  exact h

def u8s (l : List Int) : List PV := l.map (.int .u8)
theorem u8s_length (l : List Int) : (u8s l).length = l.length := List.length_map ..
theorem u8s_get {l : List Int} {j : Nat} (h : j < l.length) : (u8s l).getD j .undef = .int .u8 (l.getD j 0) := by
  simp [u8s, List.getD, h]
theorem refsL_u8s (l : List Int) : PV.refsL (u8s l) = [] := by
  induction l with
  | nil => rfl
  | cons x l ih => simpa [u8s, PV.refsL, PV.refs] using ih
theorem renL_u8s (f : Nat → Nat) (l : List Int) : PV.renL f (u8s l) = u8s l := PV.renL_none f _ (refsL_u8s l)

set_option maxHeartbeats 8000000 in
theorem dagfollowed_good (t : Topo) (down : List Bool) (a b : Int) (pk : List Int) (hpk : ∀ x ∈ pk, 0 ≤ x ∧ x < 256) :
    Good Try.prog 5 [pvT t, .slc 1 (bools down), .agg [.int .i64 a, .int .i64 b], .slc 1 (u8s pk)] (.bool true) := by
  have hw := awake_good
  have hl := large_good t down
  have hf := rfits_good t down
  have hd := rdist_good t down b
  refine v_enter ttok mixed Try.func5 (by kernel_rfl) rfl Try.ntmps5 Try.results5 (by simp) ?_; rw [fresh_sto]; simp only [argEnv, List.range, List.range.loop, List.length_cons, List.length_nil, List.zip_cons_cons, List.zip_nil_left]
  cases c : largeB t down with
  | true =>
    rw [c] at hl
    (repeat (first | refine Stp.go ?_ | refine v_region ?_ | refine v_regionD ?_ | refine v_blocky (by decide) ?_ | ((first | refine v_o rfl ?_ ?_ | refine v_oD rfl ?_ ?_); (focus (simp only [pvT, ints_length, eq_self, decide_true, not_true_eq_false, decide_false, Bool.not_true, Bool.not_false,  go_sem]; done)); simp only [Env.put]) | ((first | refine v_u rfl fun K hK => ?_ | refine v_g rfl fun K hK => ?_ | refine v_uD rfl fun K hK => ?_ | refine v_gD rfl fun K hK => ?_); simp only [pvT, ints_length, eq_self, decide_true, not_true_eq_false, decide_false, Bool.not_true, Bool.not_false,  go_sem]) | (first | (refine callK_pure (fun hc => hw) rfl ?_; simp only [upds, eq_self, true_or, true_and]) | (refine callK_pure (fun hc => hl) rfl ?_; simp only [upds, eq_self, true_or, true_and]) | (refine callK_pure (fun hc => hf) rfl ?_; simp only [upds, eq_self, true_or, true_and]) | (refine callK_pure (fun hc => hd) rfl ?_; simp only [upds, eq_self, true_or, true_and])) | refine v_end ?_ | refine v_endD (by kernel_rfl) ?_ | (refine hK _ _ ?_; clear hK K) | refine ⟨by (first | trivial | assumption | omega | (intros; first | assumption | omega)), ?_⟩ | (apply v_condb; (focus (simp only [pvT, ints_length, eq_self, decide_true, not_true_eq_false, decide_false, Bool.not_true, Bool.not_false,  go_sem]; first | exact pvt | exact pvf)); simp only [cond_true, cond_false]) | fail))
    (first | refine v_fin_n ?_ | refine v_fin_r ?_); simp only [ resK, one, PV.snap, go_sem]
    exact .refl _
  | false =>
    rw [c] at hl
    have hn := (large_no c).1
    by_cases hm : maskOk t down = true
    · rw [hm] at hf
      by_cases c16 : (pk.length : Int) < 16
      · (repeat (first | refine Stp.go ?_ | refine v_region ?_ | refine v_regionD ?_ | refine v_blocky (by decide) ?_ | ((first | refine v_o rfl ?_ ?_ | refine v_oD rfl ?_ ?_); (focus (simp only [pvT, ints_length, eq_self, decide_true, not_true_eq_false, decide_false, Bool.not_true, Bool.not_false, c16, u8s_length, go_sem]; done)); simp only [Env.put]) | ((first | refine v_u rfl fun K hK => ?_ | refine v_g rfl fun K hK => ?_ | refine v_uD rfl fun K hK => ?_ | refine v_gD rfl fun K hK => ?_); simp only [pvT, ints_length, eq_self, decide_true, not_true_eq_false, decide_false, Bool.not_true, Bool.not_false, c16, u8s_length, go_sem]) | (first | (refine callK_pure (fun hc => hw) rfl ?_; simp only [upds, eq_self, true_or, true_and]) | (refine callK_pure (fun hc => hl) rfl ?_; simp only [upds, eq_self, true_or, true_and]) | (refine callK_pure (fun hc => hf) rfl ?_; simp only [upds, eq_self, true_or, true_and]) | (refine callK_pure (fun hc => hd) rfl ?_; simp only [upds, eq_self, true_or, true_and])) | refine v_end ?_ | refine v_endD (by kernel_rfl) ?_ | (refine hK _ _ ?_; clear hK K) | refine ⟨by (first | trivial | assumption | omega | (intros; first | assumption | omega)), ?_⟩ | (apply v_condb; (focus (simp only [pvT, ints_length, eq_self, decide_true, not_true_eq_false, decide_false, Bool.not_true, Bool.not_false, c16, u8s_length, go_sem]; first | exact pvt | exact pvf)); simp only [cond_true, cond_false]) | fail))
        (first | refine v_fin_n ?_ | refine v_fin_r ?_); simp only [ resK, one, PV.snap, go_sem]
        exact .refl _
      · rcases distR_cases t down b false with ⟨h1, h2, h3, h4, h5⟩ | ⟨e, h1, h2, h5⟩
        · rw [h5] at hd
          have ht := maskOk_ok h1
          have hml := maskOk_len h1
          have hI := distL_is ht down h2 h3 false
          have hln := gr_n ht hI
          have hDok := isDist_ok ht hI
          by_cases c1 : a < 0
          · generalize distL t down b false = dist at *
            (repeat (first | refine Stp.go ?_ | refine v_region ?_ | refine v_regionD ?_ | refine v_blocky (by decide) ?_ | ((first | refine v_o rfl ?_ ?_ | refine v_oD rfl ?_ ?_); (focus (simp only [pvT, ints_length, eq_self, decide_true, not_true_eq_false, decide_false, Bool.not_true, Bool.not_false, c16, c1, u8s_length, go_sem]; done)); simp only [Env.put]) | ((first | refine v_u rfl fun K hK => ?_ | refine v_g rfl fun K hK => ?_ | refine v_uD rfl fun K hK => ?_ | refine v_gD rfl fun K hK => ?_); simp only [pvT, ints_length, eq_self, decide_true, not_true_eq_false, decide_false, Bool.not_true, Bool.not_false, c16, c1, u8s_length, go_sem]) | (first | (refine callK_pure (fun hc => hw) rfl ?_; simp only [upds, eq_self, true_or, true_and]) | (refine callK_pure (fun hc => hl) rfl ?_; simp only [upds, eq_self, true_or, true_and]) | (refine callK_pure (fun hc => hf) rfl ?_; simp only [upds, eq_self, true_or, true_and]) | (refine callK_pure (fun hc => hd) rfl ?_; simp only [upds, eq_self, true_or, true_and])) | refine v_end ?_ | refine v_endD (by kernel_rfl) ?_ | (refine hK _ _ ?_; clear hK K) | refine ⟨by (first | trivial | assumption | omega | (intros; first | assumption | omega)), ?_⟩ | (apply v_condb; (focus (simp only [pvT, ints_length, eq_self, decide_true, not_true_eq_false, decide_false, Bool.not_true, Bool.not_false, c16, c1, u8s_length, go_sem]; first | exact pvt | exact pvf)); simp only [cond_true, cond_false]) | fail))
            (first | refine v_fin_n ?_ | refine v_fin_r ?_); simp only [ resK, one, PV.snap, go_sem]
            exact .refl _
          · by_cases c2 : t.n ≤ a
            · generalize distL t down b false = dist at *
              (repeat (first | refine Stp.go ?_ | refine v_region ?_ | refine v_regionD ?_ | refine v_blocky (by decide) ?_ | ((first | refine v_o rfl ?_ ?_ | refine v_oD rfl ?_ ?_); (focus (simp only [pvT, ints_length, eq_self, decide_true, not_true_eq_false, decide_false, Bool.not_true, Bool.not_false, c16, c1, c2, u8s_length, go_sem]; done)); simp only [Env.put]) | ((first | refine v_u rfl fun K hK => ?_ | refine v_g rfl fun K hK => ?_ | refine v_uD rfl fun K hK => ?_ | refine v_gD rfl fun K hK => ?_); simp only [pvT, ints_length, eq_self, decide_true, not_true_eq_false, decide_false, Bool.not_true, Bool.not_false, c16, c1, c2, u8s_length, go_sem]) | (first | (refine callK_pure (fun hc => hw) rfl ?_; simp only [upds, eq_self, true_or, true_and]) | (refine callK_pure (fun hc => hl) rfl ?_; simp only [upds, eq_self, true_or, true_and]) | (refine callK_pure (fun hc => hf) rfl ?_; simp only [upds, eq_self, true_or, true_and]) | (refine callK_pure (fun hc => hd) rfl ?_; simp only [upds, eq_self, true_or, true_and])) | refine v_end ?_ | refine v_endD (by kernel_rfl) ?_ | (refine hK _ _ ?_; clear hK K) | refine ⟨by (first | trivial | assumption | omega | (intros; first | assumption | omega)), ?_⟩ | (apply v_condb; (focus (simp only [pvT, ints_length, eq_self, decide_true, not_true_eq_false, decide_false, Bool.not_true, Bool.not_false, c16, c1, c2, u8s_length, go_sem]; first | exact pvt | exact pvf)); simp only [cond_true, cond_false]) | fail))
              (first | refine v_fin_n ?_ | refine v_fin_r ?_); simp only [ resK, one, PV.snap, go_sem]
              exact .refl _
            · have hD : (ints (distL t down b false)).getD a.toNat .undef = .int .i64 ((distL t down b false).getD a.toNat (-1)) := ints_get' (by omega)
              have c4 : a < (distL t down b false).length := by omega
              have c5 : 0 ≤ a := by omega
              by_cases c3 : (distL t down b false).getD a.toNat (-1) < 0
              · generalize distL t down b false = dist at *
                generalize dist.getD a.toNat (-1) = x at *
                (repeat (first | refine Stp.go ?_ | refine v_region ?_ | refine v_regionD ?_ | refine v_blocky (by decide) ?_ | ((first | refine v_o rfl ?_ ?_ | refine v_oD rfl ?_ ?_); (focus (simp only [pvT, ints_length, eq_self, decide_true, not_true_eq_false, decide_false, Bool.not_true, Bool.not_false, c16, c1, c2, c3, c4, c5, hD, u8s_length, go_sem]; done)); simp only [Env.put]) | ((first | refine v_u rfl fun K hK => ?_ | refine v_g rfl fun K hK => ?_ | refine v_uD rfl fun K hK => ?_ | refine v_gD rfl fun K hK => ?_); simp only [pvT, ints_length, eq_self, decide_true, not_true_eq_false, decide_false, Bool.not_true, Bool.not_false, c16, c1, c2, c3, c4, c5, hD, u8s_length, go_sem]) | (first | (refine callK_pure (fun hc => hw) rfl ?_; simp only [upds, eq_self, true_or, true_and]) | (refine callK_pure (fun hc => hl) rfl ?_; simp only [upds, eq_self, true_or, true_and]) | (refine callK_pure (fun hc => hf) rfl ?_; simp only [upds, eq_self, true_or, true_and]) | (refine callK_pure (fun hc => hd) rfl ?_; simp only [upds, eq_self, true_or, true_and])) | refine v_end ?_ | refine v_endD (by kernel_rfl) ?_ | (refine hK _ _ ?_; clear hK K) | refine ⟨by (first | trivial | assumption | omega | (intros; first | assumption | omega)), ?_⟩ | (apply v_condb; (focus (simp only [pvT, ints_length, eq_self, decide_true, not_true_eq_false, decide_false, Bool.not_true, Bool.not_false, c16, c1, c2, c3, c4, c5, hD, u8s_length, go_sem]; first | exact pvt | exact pvf)); simp only [cond_true, cond_false]) | fail))
                (first | refine v_fin_n ?_ | refine v_fin_r ?_); simp only [ resK, one, PV.snap, go_sem]
                exact .refl _
              · have hnext := fun n => arcs_next_good t down (distL t down b false) n b h4
                have h00 : FolI t down (distL t down b false) b a a [] := ⟨c5, by omega, by omega, by simp [pCost], by simp, fun k hk => by simp at hk, rfl, fun h => absurd rfl h⟩
                generalize distL t down b false = dist at *
                have hnext := fun n h0 h1 => hnext n h0 h1 rfl
                have hra := rankN_all (dist := dist) c5 c4 (by omega)
                generalize hdx : dist.getD a.toNat (-1) = dx at *
                (repeat (first | refine Stp.go ?_ | refine v_region ?_ | refine v_regionD ?_ | refine v_blocky (by decide) ?_ | ((first | refine v_o rfl ?_ ?_ | refine v_oD rfl ?_ ?_); (focus (simp only [pvT, ints_length, eq_self, decide_true, not_true_eq_false, decide_false, Bool.not_true, Bool.not_false, c16, c1, c2, c3, c4, c5, hD, u8s_length, go_sem]; done)); simp only [Env.put]) | ((first | refine v_u rfl fun K hK => ?_ | refine v_g rfl fun K hK => ?_ | refine v_uD rfl fun K hK => ?_ | refine v_gD rfl fun K hK => ?_); simp only [pvT, ints_length, eq_self, decide_true, not_true_eq_false, decide_false, Bool.not_true, Bool.not_false, c16, c1, c2, c3, c4, c5, hD, u8s_length, go_sem]) | (first | (refine callK_pure (fun hc => hw) rfl ?_; simp only [upds, eq_self, true_or, true_and]) | (refine callK_pure (fun hc => hl) rfl ?_; simp only [upds, eq_self, true_or, true_and]) | (refine callK_pure (fun hc => hf) rfl ?_; simp only [upds, eq_self, true_or, true_and]) | (refine callK_pure (fun hc => hd) rfl ?_; simp only [upds, eq_self, true_or, true_and])) | refine v_end ?_ | refine v_endD (by kernel_rfl) ?_ | (refine hK _ _ ?_; clear hK K) | refine ⟨by (first | trivial | assumption | omega | (intros; first | assumption | omega)), ?_⟩ | (apply v_condb; (focus (simp only [pvT, ints_length, eq_self, decide_true, not_true_eq_false, decide_false, Bool.not_true, Bool.not_false, c16, c1, c2, c3, c4, c5, hD, u8s_length, go_sem]; first | exact pvt | exact pvf)); simp only [cond_true, cond_false]) | fail))
                refine v_loop [1, 3, 4, 6, 9, 10, 11, 13, 14] (fun s : Int × List Int => FolI t down dist b a s.1 s.2) (fun s => rankN dist s.1)
                  (fun s => [.slc 1 (bools down), .slc 1 (u8s pk), .ptr 102 3 0 0, .ptr 103 2 0 0, .int .i64 s.1, .int .i64 b, .slc 1 (ints dist), osl 101 s.2, .int .i64 s.2.length])
                  (fun s => (102, .row 25 3 [pvT t]) :: (103, .row 26 2 [.agg [.int .i64 a, .int .i64 b]]) :: oslG 101 3 s.2) (a, []) h00 ?_ ?_
                · exact (fits_sto _ (fun x => if x = 102 then 1000 else if x = 103 then 1001 else x) (by simp [Env.get, PV.renL, PV.ren , pvT, osl_nil, oslG_nil, renL_u8s, refsL_u8s]) (by simp [PV.refsL, PV.refs , pvT, osl_nil, oslG_nil, renL_u8s, refsL_u8s]) (by simp [SC.live, SC.ren, SC.refs, PV.renL, PV.ren, PV.refsL, PV.refs, sto_cons, sto_nil , pvT, osl_nil, oslG_nil, renL_u8s, refsL_u8s]) (by simp [oslG_nil]))
                · rintro ⟨n, p⟩ hfo
                  simp only at hfo
                  simp only [List.zip_cons_cons, List.zip_nil_left]
                  have f1 : (p.length + 1) * 8 ≤ 140737488355328 := by have := hfo.rank; omega
                  have f2 : p.length + 1 ≤ 140737488355328 := by omega
                  have f3 := ints_take_all p
                  have f4 := no_room p.length
                  have f5 : p.length ≤ p.length := Nat.le_refl _
                  by_cases hnb : n = b
                  · have hp9 := path09_good t a p ht c5 (by omega) hfo.path (by have := hfo.rank; omega)
                    have hcost := hfo.cost
                    have hzero : dist.getD n.toNat (-1) = 0 := by rw [hnb]; exact hI.zero
                    have hpc : pCost t p = dx := by omega
                    rw [hfo.end_, hnb, hpc] at hp9
                    clear hfo
                    subst hnb
                    by_cases hnil : p = []
                    · subst hnil
                      rw [osl_nil, oslG_nil]
                      have hp9' : Good Try.prog 25 [pvT t, .int .i64 a, .nilS] (.tup [.int .i64 n, .int .i64 dx, .int .i64 0]) := Good.pre hp9 rfl fun j p q hp hq => by
                        match j with
                        | 0 => simp at hp hq; subst hp hq; exact .refl _
                        | 1 => simp at hp hq; subst hp hq; exact .refl _
                        | 2 => simp at hp hq; subst hp hq; exact Wk.nil 1
                        | j + 3 => simp at hp
                      (repeat (first | refine Stp.go ?_ | refine v_region ?_ | refine v_regionD ?_ | refine v_blocky (by decide) ?_ | ((first | refine v_o rfl ?_ ?_ | refine v_oD rfl ?_ ?_); (focus (simp only [pvT, ints_length, eq_self, decide_true, not_true_eq_false, decide_false, Bool.not_true, c4, c5, hD, go_sem]; done)); simp only [Env.put]) | ((first | refine v_u rfl fun K hK => ?_ | refine v_g rfl fun K hK => ?_ | refine v_uD rfl fun K hK => ?_ | refine v_gD rfl fun K hK => ?_); simp only [pvT, ints_length, eq_self, decide_true, not_true_eq_false, decide_false, Bool.not_true, c4, c5, hD, go_sem]) | (first | refine v_loopx ?_ | (refine callK_pure (fun hc => hp9') rfl ?_; simp only [upds, eq_self, true_or, true_and])) | refine v_end ?_ | refine v_endD (by kernel_rfl) ?_ | (refine hK _ _ ?_; clear hK K) | refine ⟨by (first | trivial | assumption | omega | (intros; first | assumption | omega)), ?_⟩ | (apply v_condb; (focus (simp only [pvT, ints_length, eq_self, decide_true, not_true_eq_false, decide_false, Bool.not_true, c4, c5, hD, go_sem]; first | exact pvt | exact pvf)); simp only [cond_true, cond_false]) | fail))
                      (first | refine v_fin_n ?_ | refine v_fin_r ?_); simp only [ resK, one, PV.snap, go_sem]
                      exact .refl _
                    · rw [osl_some hnil, oslG_some hnil]
                      (repeat (first | refine Stp.go ?_ | refine v_region ?_ | refine v_regionD ?_ | refine v_blocky (by decide) ?_ | ((first | refine v_o rfl ?_ ?_ | refine v_oD rfl ?_ ?_); (focus (simp only [pvT, ints_length, eq_self, decide_true, not_true_eq_false, decide_false, Bool.not_true, c4, c5, hD, go_sem]; done)); simp only [Env.put]) | ((first | refine v_u rfl fun K hK => ?_ | refine v_g rfl fun K hK => ?_ | refine v_uD rfl fun K hK => ?_ | refine v_gD rfl fun K hK => ?_); simp only [pvT, ints_length, eq_self, decide_true, not_true_eq_false, decide_false, Bool.not_true, c4, c5, hD, go_sem]) | (first | refine v_loopx ?_ | (refine callK_lent (fun hc => hp9) (by simp [PV.snap, pvT, sto_cons, ints_length, ints_take_all, snap_ints]) rfl ?_; simp only [upds, eq_self, true_or, true_and])) | refine v_end ?_ | refine v_endD (by kernel_rfl) ?_ | (refine hK _ _ ?_; clear hK K) | refine ⟨by (first | trivial | assumption | omega | (intros; first | assumption | omega)), ?_⟩ | (apply v_condb; (focus (simp only [pvT, ints_length, eq_self, decide_true, not_true_eq_false, decide_false, Bool.not_true, c4, c5, hD, go_sem]; first | exact pvt | exact pvf)); simp only [cond_true, cond_false]) | fail))
                      (first | refine v_fin_n ?_ | refine v_fin_r ?_); simp only [ resK, one, PV.snap, go_sem]
                      exact .refl _
                  · have hstep := fun x => FolI.step (a := x) ht hI hfo hnb
                    have hnx := hnext n hfo.n0 hfo.n1
                    have hne : nextL t down dist n b ≠ [] := by
                      have := next_some ht hI (n := n.toNat) (by have := hfo.n0; have := hfo.n1; omega) h2 (by have := hfo.n0; omega) hfo.r
                      have e : ((n.toNat : Nat) : Int) = n := by have := hfo.n0; omega
                      rw [e] at this; exact this
                    have hrk := fun x (hx : x ∈ nextL t down dist n b) => by
                      obtain ⟨_, _, _, _, _, h6, h7, h8, h9, h10⟩ := next_down ht hI hx
                      exact rankN_lt (dist := dist) (x := n) (y := t.head x) h6 (by omega) h8 (by omega)
                    have hmem : ∀ j, j < (nextL t down dist n b).length → (nextL t down dist n b).getD j 0 ∈ nextL t down dist n b := fun j hj => by simp [List.getD, hj]
                    have harc : ∀ x, x ∈ nextL t down dist n b → t.arc x ∧ t.tail x = n ∧ upB down x = true := fun x hx => by
                      obtain ⟨q1, q2, q3⟩ := (mem_next ht).1 hx
                      exact ⟨q1, q2, (on_iff.1 q3).1⟩
                    have hll := nextL_len ht down dist n b
                    have hrank := hfo.rank
                    have hpos : 0 < rankN dist n := by
                      obtain ⟨x, hx⟩ := List.exists_mem_of_ne_nil _ hne
                      exact Nat.lt_of_le_of_lt (Nat.zero_le _) (hrk x hx)
                    generalize nextL t down dist n b = l at *
                    have hlp : 0 < l.length := List.length_pos_iff.2 hne
                    have g1 : ¬ ((l.length : Nat) : Int) = 0 := by omega
                    have g2 : ¬ (16 : Int) ≤ p.length := by omega
                    have i1 : (p.length : Int) < pk.length := by omega
                    have i2 : (0 : Int) ≤ p.length := by omega
                    have i3 := u8s_get (l := pk) (j := p.length) (by omega)
                    have hpb := hpk (pk.getD p.length 0) (by rw [show pk.getD p.length 0 = pk[p.length]'(by omega) by simp [List.getD, show p.length < pk.length by omega]]; exact List.getElem_mem _)
                    generalize pk.getD p.length 0 = pv at *
                    have i4 : IntKind.i64.wrap pv = pv := wrap_i64 (by omega) (by omega)
                    obtain ⟨j, hj⟩ : ∃ j : Nat, pv.tmod l.length = j := ⟨(pv.tmod l.length).toNat, by
                      have := Int.tmod_nonneg (a := pv) (l.length : Int) hpb.1; omega⟩
                    have hjl : j < l.length := by
                      have := Int.tmod_lt_of_pos pv (b := (l.length : Int)) (by omega)
                      omega
                    have g4 : ((l.length : Nat) : Int) ≠ 0 := g1
                    have g5 : ¬ (((l.length : Nat) : Int) = -1) := by omega
                    have x1 : (j : Int) < l.length := by omega
                    have x2 : (0 : Int) ≤ j := by omega
                    have x3 := ints_get hjl
                    have hm := hmem j hjl
                    generalize l.getD j 0 = x at *
                    obtain ⟨ha1, ha2, ha3⟩ := harc x hm
                    have htl := rtail_good t x ht ha1
                    have hup := rup_good down x ha1.1 (by rcases hml with h | h; exact .inl h; exact .inr (by have := ha1.2; omega))
                    have hhd := rhead_good t x ht ha1
                    rw [ha2] at htl
                    rw [ha3] at hup
                    have hs2 := hstep x hm
                    have hr2 := hrk x hm
                    have x4 : pv.tmod l.length = j := hj
                    have x5 : IntKind.i64.wrap ((p.length : Int) + 1) = ((p.length + 1 : Nat) : Int) := by rw [wrap_i64 (by omega) (by omega)]; omega
                    have x6 : ¬ n = b := hnb
                    have x7 : (0 : Int) ≤ (j : Int) := x2
                    by_cases hnil : p = []
                    · subst hnil
                      rw [osl_nil, oslG_nil]
                      simp only [List.length_nil] at i1 i2 i3 g2 x5
                      (repeat (first | refine Stp.go ?_ | refine v_region ?_ | refine v_regionD ?_ | refine v_blocky (by decide) ?_ | ((first | refine v_o rfl ?_ ?_ | refine v_oD rfl ?_ ?_); (focus (simp only [pvT, ints_length, u8s_length, eq_self, decide_true, not_true_eq_false, not_false_eq_true, decide_false, Bool.not_true, Bool.not_false, i1, i2, i3, i4, g1, g2, g4, g5, x1, x2, x3, x4, x5, x6, x7, rep1', go_sem]; done)); simp only [Env.put]) | ((first | refine v_u rfl fun K hK => ?_ | refine v_g rfl fun K hK => ?_ | refine v_uD rfl fun K hK => ?_ | refine v_gD rfl fun K hK => ?_); simp only [pvT, ints_length, u8s_length, eq_self, decide_true, not_true_eq_false, not_false_eq_true, decide_false, Bool.not_true, Bool.not_false, i1, i2, i3, i4, g1, g2, g4, g5, x1, x2, x3, x4, x5, x6, x7, rep1', go_sem]) | (first | (refine callK_pure (fun hc => hnx) rfl ?_; simp only [upds, eq_self, true_or, true_and]) | (refine callK_pure (fun hc => htl) rfl ?_; simp only [upds, eq_self, true_or, true_and]) | (refine callK_pure (fun hc => hup) rfl ?_; simp only [upds, eq_self, true_or, true_and]) | (refine callK_pure (fun hc => hhd) rfl ?_; simp only [upds, eq_self, true_or, true_and])) | refine v_end ?_ | refine v_endD (by kernel_rfl) ?_ | (refine hK _ _ ?_; clear hK K) | refine ⟨by (first | trivial | assumption | omega | (intros; first | assumption | omega)), ?_⟩ | (apply v_condb; (focus (simp only [pvT, ints_length, u8s_length, eq_self, decide_true, not_true_eq_false, not_false_eq_true, decide_false, Bool.not_true, Bool.not_false, i1, i2, i3, i4, g1, g2, g4, g5, x1, x2, x3, x4, x5, x6, x7, rep1', go_sem]; first | exact pvt | exact pvf)); simp only [cond_true, cond_false]) | fail))
                      refine v_round (t.head x, [x]) hs2 hr2 (fits_sto _ (fun x => if x = 101 then 20003 else x) (by simp [Env.get, PV.renL, PV.ren , pvT, osl_cons, oslG_cons, ints, renL_u8s, refsL_u8s, x5]) (by simp [PV.refsL, PV.refs , pvT, osl_cons, oslG_cons, ints, renL_u8s, refsL_u8s, x5]) (by simp [SC.live, SC.ren, SC.refs, PV.renL, PV.ren, PV.refsL, PV.refs, sto_cons, sto_nil , pvT, osl_cons, oslG_cons, ints, renL_u8s, refsL_u8s, x5]) (by simp [oslG_cons]))
                    · rw [osl_some hnil, oslG_some hnil]
                      (repeat (first | refine Stp.go ?_ | refine v_region ?_ | refine v_regionD ?_ | refine v_blocky (by decide) ?_ | ((first | refine v_o rfl ?_ ?_ | refine v_oD rfl ?_ ?_); (focus (simp only [pvT, ints_length, u8s_length, eq_self, decide_true, not_true_eq_false, not_false_eq_true, decide_false, Bool.not_true, Bool.not_false, i1, i2, i3, i4, g1, g2, g4, g5, x1, x2, x3, x4, x5, x6, x7, rep1', f1, f2, f3, f4, f5, go_sem]; done)); simp only [Env.put]) | ((first | refine v_u rfl fun K hK => ?_ | refine v_g rfl fun K hK => ?_ | refine v_uD rfl fun K hK => ?_ | refine v_gD rfl fun K hK => ?_); simp only [pvT, ints_length, u8s_length, eq_self, decide_true, not_true_eq_false, not_false_eq_true, decide_false, Bool.not_true, Bool.not_false, i1, i2, i3, i4, g1, g2, g4, g5, x1, x2, x3, x4, x5, x6, x7, rep1', f1, f2, f3, f4, f5, go_sem]) | (first | (refine callK_pure (fun hc => hnx) rfl ?_; simp only [upds, eq_self, true_or, true_and]) | (refine callK_pure (fun hc => htl) rfl ?_; simp only [upds, eq_self, true_or, true_and]) | (refine callK_pure (fun hc => hup) rfl ?_; simp only [upds, eq_self, true_or, true_and]) | (refine callK_pure (fun hc => hhd) rfl ?_; simp only [upds, eq_self, true_or, true_and])) | refine v_end ?_ | refine v_endD (by kernel_rfl) ?_ | (refine hK _ _ ?_; clear hK K) | refine ⟨by (first | trivial | assumption | omega | (intros; first | assumption | omega)), ?_⟩ | (apply v_condb; (focus (simp only [pvT, ints_length, u8s_length, eq_self, decide_true, not_true_eq_false, not_false_eq_true, decide_false, Bool.not_true, Bool.not_false, i1, i2, i3, i4, g1, g2, g4, g5, x1, x2, x3, x4, x5, x6, x7, rep1', f1, f2, f3, f4, f5, go_sem]; first | exact pvt | exact pvf)); simp only [cond_true, cond_false]) | fail))
                      refine v_round (t.head x, p ++ [x]) hs2 hr2 (fits_sto _ (fun x => if x = 101 then 20003 else x) (by simp [Env.get, PV.renL, PV.ren , pvT, osl_snoc, oslG_snoc, ints_snoc, renL_ints, refsL_ints, renL_u8s, refsL_u8s, x5]) (by simp [PV.refsL, PV.refs , pvT, osl_snoc, oslG_snoc, ints_snoc, renL_ints, refsL_ints, renL_u8s, refsL_u8s, x5]) (by simp [SC.live, SC.ren, SC.refs, PV.renL, PV.ren, PV.refsL, PV.refs, sto_cons, sto_nil , pvT, osl_snoc, oslG_snoc, ints_snoc, renL_ints, refsL_ints, renL_u8s, refsL_u8s, x5]) (by simp [oslG_snoc]))
        · rw [h5] at hd
          have c0 : ¬ e = 0 := by omega
          (repeat (first | refine Stp.go ?_ | refine v_region ?_ | refine v_regionD ?_ | refine v_blocky (by decide) ?_ | ((first | refine v_o rfl ?_ ?_ | refine v_oD rfl ?_ ?_); (focus (simp only [pvT, ints_length, eq_self, decide_true, not_true_eq_false, decide_false, Bool.not_true, Bool.not_false, c16, c0, u8s_length, go_sem]; done)); simp only [Env.put]) | ((first | refine v_u rfl fun K hK => ?_ | refine v_g rfl fun K hK => ?_ | refine v_uD rfl fun K hK => ?_ | refine v_gD rfl fun K hK => ?_); simp only [pvT, ints_length, eq_self, decide_true, not_true_eq_false, decide_false, Bool.not_true, Bool.not_false, c16, c0, u8s_length, go_sem]) | (first | (refine callK_pure (fun hc => hw) rfl ?_; simp only [upds, eq_self, true_or, true_and]) | (refine callK_pure (fun hc => hl) rfl ?_; simp only [upds, eq_self, true_or, true_and]) | (refine callK_pure (fun hc => hf) rfl ?_; simp only [upds, eq_self, true_or, true_and]) | (refine callK_pure (fun hc => hd) rfl ?_; simp only [upds, eq_self, true_or, true_and])) | refine v_end ?_ | refine v_endD (by kernel_rfl) ?_ | (refine hK _ _ ?_; clear hK K) | refine ⟨by (first | trivial | assumption | omega | (intros; first | assumption | omega)), ?_⟩ | (apply v_condb; (focus (simp only [pvT, ints_length, eq_self, decide_true, not_true_eq_false, decide_false, Bool.not_true, Bool.not_false, c16, c0, u8s_length, go_sem]; first | exact pvt | exact pvf)); simp only [cond_true, cond_false]) | fail))
          (first | refine v_fin_n ?_ | refine v_fin_r ?_); simp only [ resK, one, PV.snap, go_sem]
          exact .refl _
    · have hm : maskOk t down = false := by simpa using hm
      rw [hm] at hf
      (repeat (first | refine Stp.go ?_ | refine v_region ?_ | refine v_regionD ?_ | refine v_blocky (by decide) ?_ | ((first | refine v_o rfl ?_ ?_ | refine v_oD rfl ?_ ?_); (focus (simp only [pvT, ints_length, eq_self, decide_true, not_true_eq_false, decide_false, Bool.not_true, Bool.not_false,  go_sem]; done)); simp only [Env.put]) | ((first | refine v_u rfl fun K hK => ?_ | refine v_g rfl fun K hK => ?_ | refine v_uD rfl fun K hK => ?_ | refine v_gD rfl fun K hK => ?_); simp only [pvT, ints_length, eq_self, decide_true, not_true_eq_false, decide_false, Bool.not_true, Bool.not_false,  go_sem]) | (first | (refine callK_pure (fun hc => hw) rfl ?_; simp only [upds, eq_self, true_or, true_and]) | (refine callK_pure (fun hc => hl) rfl ?_; simp only [upds, eq_self, true_or, true_and]) | (refine callK_pure (fun hc => hf) rfl ?_; simp only [upds, eq_self, true_or, true_and]) | (refine callK_pure (fun hc => hd) rfl ?_; simp only [upds, eq_self, true_or, true_and])) | refine v_end ?_ | refine v_endD (by kernel_rfl) ?_ | (refine hK _ _ ?_; clear hK K) | refine ⟨by (first | trivial | assumption | omega | (intros; first | assumption | omega)), ?_⟩ | (apply v_condb; (focus (simp only [pvT, ints_length, eq_self, decide_true, not_true_eq_false, decide_false, Bool.not_true, Bool.not_false,  go_sem]; first | exact pvt | exact pvf)); simp only [cond_true, cond_false]) | fail))
      (first | refine v_fin_n ?_ | refine v_fin_r ?_); simp only [ resK, one, PV.snap, go_sem]
      exact .refl _
end Go.V
