import Derived.Test.YtjadcdikckmooaaMR
/- The rows' arguments, read: one number; two masks. -/
set_option linter.unusedVariables false
set_option linter.unusedSimpArgs false
namespace Go.V
open Go.RowKit Go.WideShapes Go.ChangeShapes Go.Proofs

set_option maxRecDepth 100000 in
theorem ok_int {W : World} {base : Nat} {v : Value} (h : Value.okWide Try.prog W .any base 3 v) : v.oneCell' = true := by
  unfold Value.okWide at h
  rw [Try.underlying3] at h
  simp only at h
  cases v <;> first | rfl | exact h.elim | (simp at h; done)
set_option maxRecDepth 100000 in
/-- A topology, a mask and a number. -/
theorem open_tm1 {H : Type} {enc : TypeId × Value → H} {W : World} {base : Nat} {vs : List Value} {ds : List (DataW H)} {ps : List MemPlace}
    (hval : ∀ (j : Nat) t v, [25, 22, 3][j]? = some t → vs[j]? = some v → Value.okWide Try.prog W .any base t v)
    (hA : DataW.TrodAll enc Try.prog W 0 (fun _ => true) true [25, 22, 3] vs ds ps) :
    ∃ (t : Topo) (down : List Bool) (a : Int), t.wf ∧ down.length ≤ maxLen ∧ (Lit.int .i64 a).wf = true ∧ vs.length = 3 ∧
      ∀ (j : Nat) (p : PV) (v : Value), [pvT t, .slc 1 (bools down), .int .i64 a][j]? = some p → vs[j]? = some v → Rep W (fun b => b < W.heap.size) noMu p v := by
  obtain ⟨v0, vs0, d0, ds0, p0, q0, rfl, rfl, rfl, h0, r0⟩ := trodAll_cons hA
  obtain ⟨v1, vs1, d1, ds1, p1, q1, rfl, rfl, rfl, h1, r1⟩ := trodAll_cons r0
  obtain ⟨v2, vs2, d2, ds2, p2, q2, rfl, rfl, rfl, h2, r2⟩ := trodAll_cons r1
  obtain ⟨rfl, rfl, rfl⟩ := trodAll_nil r2
  obtain ⟨c0, rfl⟩ := ok_agg Try.underlying25 (.inl ⟨_, rfl⟩) (hval 0 25 v0 (by simp) (by simp))
  obtain ⟨a1, l1, k1, rfl⟩ := okWide_slice Try.underlying22 (hval 1 22 v1 (by simp) (by simp))
  have o2 := ok_int (hval 2 3 v2 (by simp) (by simp))
  obtain ⟨qs0, ⟨t, wt, et⟩, R0⟩ := open_agg rd_topo h0
  obtain ⟨qd, ⟨down, wd, ed⟩, R1⟩ := open_one rd_bools rfl h1
  obtain ⟨qi, ⟨a, wa, ea⟩, R2⟩ := open_one rd_int o2 h2
  obtain rfl : qd = .slc 1 (bools down) := by simpa using ed
  obtain rfl : qi = .int .i64 a := by simpa using ea
  rw [← et] at R0
  refine ⟨t, down, a, wt, wd, wa, rfl, fun j p v hp hv => ?_⟩
  match j with
  | 0 => simp at hp hv; subst hp hv; exact R0
  | 1 => simp at hp hv; subst hp hv; exact R1
  | 2 => simp at hp hv; subst hp hv; exact R2
  | j + 3 => simp at hp
set_option maxRecDepth 100000 in
/-- A topology, two masks and two numbers. -/
theorem open_tmm2 {H : Type} {enc : TypeId × Value → H} {W : World} {base : Nat} {vs : List Value} {ds : List (DataW H)} {ps : List MemPlace}
    (hval : ∀ (j : Nat) t v, [25, 22, 22, 26][j]? = some t → vs[j]? = some v → Value.okWide Try.prog W .any base t v)
    (hA : DataW.TrodAll enc Try.prog W 0 (fun _ => true) true [25, 22, 22, 26] vs ds ps) :
    ∃ (t : Topo) (down more : List Bool) (a b : Int), t.wf ∧ down.length ≤ maxLen ∧ more.length ≤ maxLen ∧ (Lit.int .i64 a).wf = true ∧ (Lit.int .i64 b).wf = true ∧ vs.length = 4 ∧
      ∀ (j : Nat) (p : PV) (v : Value), [pvT t, .slc 1 (bools down), .slc 1 (bools more), .agg [.int .i64 a, .int .i64 b]][j]? = some p → vs[j]? = some v → Rep W (fun b => b < W.heap.size) noMu p v := by
  obtain ⟨v0, vs0, d0, ds0, p0, q0, rfl, rfl, rfl, h0, r0⟩ := trodAll_cons hA
  obtain ⟨v1, vs1, d1, ds1, p1, q1, rfl, rfl, rfl, h1, r1⟩ := trodAll_cons r0
  obtain ⟨v2, vs2, d2, ds2, p2, q2, rfl, rfl, rfl, h2, r2⟩ := trodAll_cons r1
  obtain ⟨v3, vs3, d3, ds3, p3, q3, rfl, rfl, rfl, h3, r3⟩ := trodAll_cons r2
  obtain ⟨rfl, rfl, rfl⟩ := trodAll_nil r3
  obtain ⟨c0, rfl⟩ := ok_agg Try.underlying25 (.inl ⟨_, rfl⟩) (hval 0 25 v0 (by simp) (by simp))
  obtain ⟨a1, l1, k1, rfl⟩ := okWide_slice Try.underlying22 (hval 1 22 v1 (by simp) (by simp))
  obtain ⟨a2, l2, k2, rfl⟩ := okWide_slice Try.underlying22 (hval 2 22 v2 (by simp) (by simp))
  obtain ⟨c3, rfl⟩ := ok_agg Try.underlying26 (.inr ⟨_, _, rfl⟩) (hval 3 26 v3 (by simp) (by simp))
  obtain ⟨qs0, ⟨t, wt, et⟩, R0⟩ := open_agg rd_topo h0
  obtain ⟨qd, ⟨down, wd, ed⟩, R1⟩ := open_one rd_bools rfl h1
  obtain ⟨qm, ⟨more, wm, em⟩, R2⟩ := open_one rd_bools rfl h2
  obtain ⟨qs3, ⟨a, b, wa, wb, rfl⟩, R3⟩ := open_agg rd_int2 h3
  obtain rfl : qd = .slc 1 (bools down) := by simpa using ed
  obtain rfl : qm = .slc 1 (bools more) := by simpa using em
  rw [← et] at R0
  refine ⟨t, down, more, a, b, wt, wd, wm, wa, wb, rfl, fun j p v hp hv => ?_⟩
  match j with
  | 0 => simp at hp hv; subst hp hv; exact R0
  | 1 => simp at hp hv; subst hp hv; exact R1
  | 2 => simp at hp hv; subst hp hv; exact R2
  | 3 => simp at hp hv; subst hp hv; exact R3
  | j + 4 => simp at hp
end Go.V
