import Derived.Test.YtjadcdikckmooaaMQ
import Derived.Test.YtjadcdikckmooaaMR
/- Layer 12: what is too large to be checked; the statement DagNext, as a contract. -/
set_option linter.unusedVariables false
set_option linter.unusedSimpArgs false
namespace Go.V
open Go.RowKit Go.Proofs
attribute [local irreducible] wp seqK lexK opK callK upd sto Good GoodR

def largeB (t : Topo) (down : List Bool) : Bool := decide ((100 : Int) < t.ov.length) || decide ((24 : Int) < t.ls.length) || decide ((100 : Int) < down.length) || decide (16 < t.n)
theorem large_no {t : Topo} {down : List Bool} (h : largeB t down = false) : t.n ≤ 16 ∧ t.ls.length ≤ 24 ∧ down.length ≤ 100 := by
  simp only [largeB, Bool.or_eq_false_iff, decide_eq_false_iff_not] at h
  omega
set_option maxHeartbeats 2000000 in
theorem large_good (t : Topo) (down : List Bool) : Good Try.prog 12 [pvT t, .slc 1 (bools down)] (.bool (largeB t down)) := by
  refine v_enter ttok mixed Try.func12 (by kernel_rfl) rfl Try.ntmps12 Try.results12 (by simp) ?_; rw [fresh_sto]; simp only [argEnv, List.range, List.range.loop, List.length_cons, List.length_nil, List.zip_cons_cons, List.zip_nil_left]
  by_cases c1 : (100 : Int) < t.ov.length
  · (repeat (first | refine Stp.go ?_ | refine v_region ?_ | refine v_regionD ?_ | refine v_blocky (by decide) ?_ | ((first | refine v_o rfl ?_ ?_ | refine v_oD rfl ?_ ?_); (focus (simp only [pvT, bools_length, List.length_map, c1, decide_true, go_sem]; done)); simp only [Env.put]) | ((first | refine v_u rfl fun K hK => ?_ | refine v_g rfl fun K hK => ?_ | refine v_uD rfl fun K hK => ?_ | refine v_gD rfl fun K hK => ?_); simp only [pvT, bools_length, List.length_map, c1, decide_true, go_sem]) | (fail) | refine v_end ?_ | refine v_endD (by kernel_rfl) ?_ | (refine hK _ _ ?_; clear hK K) | refine ⟨by (first | trivial | assumption | omega | (intros; first | assumption | omega)), ?_⟩ | (apply v_condb; (focus (simp only [pvT, bools_length, List.length_map, c1, decide_true, go_sem]; first | exact pvt | exact pvf)); simp only [cond_true, cond_false]) | fail))
    (first | refine v_fin_n ?_ | refine v_fin_r ?_); simp only [ resK, one, PV.snap, go_sem]
    exact wk_bool (by simp [largeB, c1])
  · by_cases c2 : (24 : Int) < t.ls.length
    · (repeat (first | refine Stp.go ?_ | refine v_region ?_ | refine v_regionD ?_ | refine v_blocky (by decide) ?_ | ((first | refine v_o rfl ?_ ?_ | refine v_oD rfl ?_ ?_); (focus (simp only [pvT, bools_length, List.length_map, c1, c2, decide_true, decide_false, go_sem]; done)); simp only [Env.put]) | ((first | refine v_u rfl fun K hK => ?_ | refine v_g rfl fun K hK => ?_ | refine v_uD rfl fun K hK => ?_ | refine v_gD rfl fun K hK => ?_); simp only [pvT, bools_length, List.length_map, c1, c2, decide_true, decide_false, go_sem]) | (fail) | refine v_end ?_ | refine v_endD (by kernel_rfl) ?_ | (refine hK _ _ ?_; clear hK K) | refine ⟨by (first | trivial | assumption | omega | (intros; first | assumption | omega)), ?_⟩ | (apply v_condb; (focus (simp only [pvT, bools_length, List.length_map, c1, c2, decide_true, decide_false, go_sem]; first | exact pvt | exact pvf)); simp only [cond_true, cond_false]) | fail))
      (first | refine v_fin_n ?_ | refine v_fin_r ?_); simp only [ resK, one, PV.snap, go_sem]
      exact wk_bool (by simp [largeB, c2])
    · by_cases c3 : (100 : Int) < down.length
      · (repeat (first | refine Stp.go ?_ | refine v_region ?_ | refine v_regionD ?_ | refine v_blocky (by decide) ?_ | ((first | refine v_o rfl ?_ ?_ | refine v_oD rfl ?_ ?_); (focus (simp only [pvT, bools_length, List.length_map, c1, c2, c3, decide_true, decide_false, go_sem]; done)); simp only [Env.put]) | ((first | refine v_u rfl fun K hK => ?_ | refine v_g rfl fun K hK => ?_ | refine v_uD rfl fun K hK => ?_ | refine v_gD rfl fun K hK => ?_); simp only [pvT, bools_length, List.length_map, c1, c2, c3, decide_true, decide_false, go_sem]) | (fail) | refine v_end ?_ | refine v_endD (by kernel_rfl) ?_ | (refine hK _ _ ?_; clear hK K) | refine ⟨by (first | trivial | assumption | omega | (intros; first | assumption | omega)), ?_⟩ | (apply v_condb; (focus (simp only [pvT, bools_length, List.length_map, c1, c2, c3, decide_true, decide_false, go_sem]; first | exact pvt | exact pvf)); simp only [cond_true, cond_false]) | fail))
        (first | refine v_fin_n ?_ | refine v_fin_r ?_); simp only [ resK, one, PV.snap, go_sem]
        exact wk_bool (by simp [largeB, c3])
      · by_cases c4 : 16 < t.n
        · (repeat (first | refine Stp.go ?_ | refine v_region ?_ | refine v_regionD ?_ | refine v_blocky (by decide) ?_ | ((first | refine v_o rfl ?_ ?_ | refine v_oD rfl ?_ ?_); (focus (simp only [pvT, bools_length, List.length_map, c1, c2, c3, c4, decide_true, decide_false, go_sem]; done)); simp only [Env.put]) | ((first | refine v_u rfl fun K hK => ?_ | refine v_g rfl fun K hK => ?_ | refine v_uD rfl fun K hK => ?_ | refine v_gD rfl fun K hK => ?_); simp only [pvT, bools_length, List.length_map, c1, c2, c3, c4, decide_true, decide_false, go_sem]) | (fail) | refine v_end ?_ | refine v_endD (by kernel_rfl) ?_ | (refine hK _ _ ?_; clear hK K) | refine ⟨by (first | trivial | assumption | omega | (intros; first | assumption | omega)), ?_⟩ | (apply v_condb; (focus (simp only [pvT, bools_length, List.length_map, c1, c2, c3, c4, decide_true, decide_false, go_sem]; first | exact pvt | exact pvf)); simp only [cond_true, cond_false]) | fail))
          (first | refine v_fin_n ?_ | refine v_fin_r ?_); simp only [ resK, one, PV.snap, go_sem]
          exact wk_bool (by simp [largeB, c4])
        · (repeat (first | refine Stp.go ?_ | refine v_region ?_ | refine v_regionD ?_ | refine v_blocky (by decide) ?_ | ((first | refine v_o rfl ?_ ?_ | refine v_oD rfl ?_ ?_); (focus (simp only [pvT, bools_length, List.length_map, c1, c2, c3, c4, decide_true, decide_false, go_sem]; done)); simp only [Env.put]) | ((first | refine v_u rfl fun K hK => ?_ | refine v_g rfl fun K hK => ?_ | refine v_uD rfl fun K hK => ?_ | refine v_gD rfl fun K hK => ?_); simp only [pvT, bools_length, List.length_map, c1, c2, c3, c4, decide_true, decide_false, go_sem]) | (fail) | refine v_end ?_ | refine v_endD (by kernel_rfl) ?_ | (refine hK _ _ ?_; clear hK K) | refine ⟨by (first | trivial | assumption | omega | (intros; first | assumption | omega)), ?_⟩ | (apply v_condb; (focus (simp only [pvT, bools_length, List.length_map, c1, c2, c3, c4, decide_true, decide_false, go_sem]; first | exact pvt | exact pvf)); simp only [cond_true, cond_false]) | fail))
          (first | refine v_fin_n ?_ | refine v_fin_r ?_); simp only [ resK, one, PV.snap, go_sem]
          exact wk_bool (by simp [largeB, c1, c2, c3, c4])

/-- The next arcs and the error that Next gives back. -/
noncomputable def nxV (t : Topo) (down : List Bool) (n d : Int) : List Int := if distE t down d = 0 then if 0 ≤ n ∧ n < t.n then nextL t down (distL t down d false) n d else [] else []
def nxE (t : Topo) (down : List Bool) (n d : Int) : Int := if distE t down d = 0 then if 0 ≤ n ∧ n < t.n then 0 else 2 else distE t down d
theorem nextR_eq (t : Topo) (down : List Bool) (n d : Int) : nextR t down n d = .tup [.slc 1 (ints (nxV t down n d)), .int .i64 (nxE t down n d)] := by
  unfold nextR nxV nxE
  split
  · split <;> rfl
  · rfl
theorem distE_ok {t : Topo} {down : List Bool} {d : Int} (h : distE t down d = 0) : maskOk t down = true ∧ 0 ≤ d ∧ d < t.n := by
  unfold distE at h
  split at h
  · split at h
    · rename_i h1 h2; exact ⟨h1, h2⟩
    · omega
  · omega
theorem nxV_len (t : Topo) (down : List Bool) (n d : Int) : (nxV t down n d).length ≤ 1000000 := by
  unfold nxV
  split
  · rename_i h
    split
    · have := nextL_len (maskOk_ok (distE_ok h).1) down (distL t down d false) n d
      omega
    · simp
  · simp
noncomputable def orV (t : Topo) (down : List Bool) (d : Int) : List Int := if distE t down d = 0 then orderL (distL t down d false) else []
theorem orderR_eq (t : Topo) (down : List Bool) (d : Int) : orderR t down d = .tup [.slc 1 (ints (orV t down d)), .int .i64 (distE t down d)] := by
  unfold orderR orV
  split
  · rename_i h; rw [h]
  · rfl

set_option maxHeartbeats 2000000 in
theorem dagnext_good (t : Topo) (down : List Bool) (a b : Int) : Good Try.prog 3 [pvT t, .slc 1 (bools down), .agg [.int .i64 a, .int .i64 b]] (.bool true) := by
  have hw := awake_good
  have hl := large_good t down
  have h1 := next_good t down a b
  have h2 := rNext_good t down a b
  rw [nextR_eq] at h1 h2
  have h3 := same_sq (nxV t down a b) (nxV_len ..)
  generalize nxV t down a b = l at *
  generalize nxE t down a b = e at *
  refine v_enter ttok mixed Try.func3 (by kernel_rfl) rfl Try.ntmps3 Try.results3 (by simp) ?_; rw [fresh_sto]; simp only [argEnv, List.range, List.range.loop, List.length_cons, List.length_nil, List.zip_cons_cons, List.zip_nil_left]
  cases c : largeB t down with
  | true =>
    rw [c] at hl
    (repeat (first | refine Stp.go ?_ | refine v_region ?_ | refine v_regionD ?_ | refine v_blocky (by decide) ?_ | ((first | refine v_o rfl ?_ ?_ | refine v_oD rfl ?_ ?_); (focus (simp only [pvT, go_sem]; done)); simp only [Env.put]) | ((first | refine v_u rfl fun K hK => ?_ | refine v_g rfl fun K hK => ?_ | refine v_uD rfl fun K hK => ?_ | refine v_gD rfl fun K hK => ?_); simp only [pvT, go_sem]) | (first | (refine callK_pure (fun hc => hw) rfl ?_; simp only [upds, eq_self, true_or, true_and]) | (refine callK_pure (fun hc => hl) rfl ?_; simp only [upds, eq_self, true_or, true_and])) | refine v_end ?_ | refine v_endD (by kernel_rfl) ?_ | (refine hK _ _ ?_; clear hK K) | refine ⟨by (first | trivial | assumption | omega | (intros; first | assumption | omega)), ?_⟩ | (apply v_condb; (focus (simp only [pvT, go_sem]; first | exact pvt | exact pvf)); simp only [cond_true, cond_false]) | fail))
    (first | refine v_fin_n ?_ | refine v_fin_r ?_); simp only [ resK, one, PV.snap, go_sem]
    exact .refl _
  | false =>
    rw [c] at hl
    (repeat (first | refine Stp.go ?_ | refine v_region ?_ | refine v_regionD ?_ | refine v_blocky (by decide) ?_ | ((first | refine v_o rfl ?_ ?_ | refine v_oD rfl ?_ ?_); (focus (simp only [pvT, eq_self, decide_true, go_sem]; done)); simp only [Env.put]) | ((first | refine v_u rfl fun K hK => ?_ | refine v_g rfl fun K hK => ?_ | refine v_uD rfl fun K hK => ?_ | refine v_gD rfl fun K hK => ?_); simp only [pvT, eq_self, decide_true, go_sem]) | (first | (refine callK_pure (fun hc => hw) rfl ?_; simp only [upds, eq_self, true_or, true_and]) | (refine callK_pure (fun hc => hl) rfl ?_; simp only [upds, eq_self, true_or, true_and]) | (refine callK_pure (fun hc => h1) rfl ?_; simp only [upds, eq_self, true_or, true_and]) | (refine callK_pure (fun hc => h2) rfl ?_; simp only [upds, eq_self, true_or, true_and]) | (refine callK_pure (fun hc => h3) rfl ?_; simp only [upds, eq_self, true_or, true_and])) | refine v_end ?_ | refine v_endD (by kernel_rfl) ?_ | (refine hK _ _ ?_; clear hK K) | refine ⟨by (first | trivial | assumption | omega | (intros; first | assumption | omega)), ?_⟩ | (apply v_condb; (focus (simp only [pvT, eq_self, decide_true, go_sem]; first | exact pvt | exact pvf)); simp only [cond_true, cond_false]) | fail))
    (first | refine v_fin_n ?_ | refine v_fin_r ?_); simp only [ resK, one, PV.snap, go_sem]
    exact .refl _

set_option maxHeartbeats 2000000 in
theorem dagcount_good (t : Topo) (down : List Bool) (a b c : Int) (hc : c ≤ 9223372036854775807) : Good Try.prog 8 [pvT t, .slc 1 (bools down), .agg [.int .i64 a, .int .i64 b, .int .i64 c]] (.bool true) := by
  have hw := awake_good
  have hl := large_good t down
  have h2 := rcount_good t down a b c hc
  have h4 := runique_good t down a b
  rw [countR_eq] at h2
  refine v_enter ttok mixed Try.func8 (by kernel_rfl) rfl Try.ntmps8 Try.results8 (by simp) ?_; rw [fresh_sto]; simp only [argEnv, List.range, List.range.loop, List.length_cons, List.length_nil, List.zip_cons_cons, List.zip_nil_left]
  cases cl : largeB t down with
  | true =>
    rw [cl] at hl
    (repeat (first | refine Stp.go ?_ | refine v_region ?_ | refine v_regionD ?_ | refine v_blocky (by decide) ?_ | ((first | refine v_o rfl ?_ ?_ | refine v_oD rfl ?_ ?_); (focus (simp only [pvT, go_sem]; done)); simp only [Env.put]) | ((first | refine v_u rfl fun K hK => ?_ | refine v_g rfl fun K hK => ?_ | refine v_uD rfl fun K hK => ?_ | refine v_gD rfl fun K hK => ?_); simp only [pvT, go_sem]) | (first | (refine callK_pure (fun hc => hw) rfl ?_; simp only [upds, eq_self, true_or, true_and]) | (refine callK_pure (fun hc => hl) rfl ?_; simp only [upds, eq_self, true_or, true_and])) | refine v_end ?_ | refine v_endD (by kernel_rfl) ?_ | (refine hK _ _ ?_; clear hK K) | refine ⟨by (first | trivial | assumption | omega | (intros; first | assumption | omega)), ?_⟩ | (apply v_condb; (focus (simp only [pvT, go_sem]; first | exact pvt | exact pvf)); simp only [cond_true, cond_false]) | fail))
    (first | refine v_fin_n ?_ | refine v_fin_r ?_); simp only [ resK, one, PV.snap, go_sem]
    exact .refl _
  | false =>
    rw [cl] at hl
    have hn := (large_no cl).1
    have h1 := count_good t down a b c hc (by omega)
    have h3 := unique_good t down a b (by omega)
    rw [countR_eq] at h1
    generalize cntV t down a b c = v at *
    generalize cntE t down a b c = e at *
    generalize uniqB t down a b = u at *
    (repeat (first | refine Stp.go ?_ | refine v_region ?_ | refine v_regionD ?_ | refine v_blocky (by decide) ?_ | ((first | refine v_o rfl ?_ ?_ | refine v_oD rfl ?_ ?_); (focus (simp only [pvT, eq_self, decide_true, beq_self_eq_true, go_sem]; done)); simp only [Env.put]) | ((first | refine v_u rfl fun K hK => ?_ | refine v_g rfl fun K hK => ?_ | refine v_uD rfl fun K hK => ?_ | refine v_gD rfl fun K hK => ?_); simp only [pvT, eq_self, decide_true, beq_self_eq_true, go_sem]) | (first | (refine callK_pure (fun hc => hw) rfl ?_; simp only [upds, eq_self, true_or, true_and]) | (refine callK_pure (fun hc => hl) rfl ?_; simp only [upds, eq_self, true_or, true_and]) | (refine callK_pure (fun hc => h1) rfl ?_; simp only [upds, eq_self, true_or, true_and]) | (refine callK_pure (fun hc => h2) rfl ?_; simp only [upds, eq_self, true_or, true_and]) | (refine callK_pure (fun hc => h3) rfl ?_; simp only [upds, eq_self, true_or, true_and]) | (refine callK_pure (fun hc => h4) rfl ?_; simp only [upds, eq_self, true_or, true_and])) | refine v_end ?_ | refine v_endD (by kernel_rfl) ?_ | (refine hK _ _ ?_; clear hK K) | refine ⟨by (first | trivial | assumption | omega | (intros; first | assumption | omega)), ?_⟩ | (apply v_condb; (focus (simp only [pvT, eq_self, decide_true, beq_self_eq_true, go_sem]; first | exact pvt | exact pvf)); simp only [cond_true, cond_false]) | fail))
    (first | refine v_fin_n ?_ | refine v_fin_r ?_); simp only [ resK, one, PV.snap, go_sem]
    exact .refl _
end Go.V
