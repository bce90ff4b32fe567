import Derived.Test.YtjadcdikckmooaaMR
import Derived.Test.YtjadcdikckmooaaMW
/- The rows' arguments, read: numbers, small numbers, two masks. -/
set_option linter.unusedVariables false
set_option linter.unusedSimpArgs false
namespace Go.V
open Go.RowKit Go.WideShapes Go.ChangeShapes Go.Proofs

theorem rd_u8s : Reads Try.prog 39 fun qs => ∃ l : List Int, (∀ x ∈ l, 0 ≤ x ∧ x < 256) ∧ l.length ≤ maxLen ∧ qs = [.slc 1 (u8s l)] := by
  intro H enc w spare held fuel cs x h
  obtain ⟨qs, ⟨es, h1, h2, rfl⟩, h3⟩ := reads_slice (S := fun qs => ∃ n, (Lit.int .u8 n).wf = true ∧ qs = [.int .u8 n]) (fun qs => qs.headD .undef) (fun qs ⟨n, _, hq⟩ => by subst hq; rfl) Try.underlying39 (reads_int Try.underlying5) (by kernel_rfl) (by decide : 0 < 1) H enc w spare held fuel cs x h
  have key : ∀ es : List (List PV), (∀ q ∈ es, (∃ n, (Lit.int .u8 n).wf = true ∧ q = [.int .u8 n]) ∧ q.length = 1) → ∃ l : List Int, (∀ x ∈ l, 0 ≤ x ∧ x < 256) ∧ l.length = es.length ∧ es.map (fun qs => qs.headD PV.undef) = u8s l := by
    intro es
    induction es with
    | nil => intro _; exact ⟨[], by simp, rfl, rfl⟩
    | cons q es ih =>
      intro hq
      obtain ⟨⟨n, wn, e⟩, _⟩ := hq q (by simp)
      obtain ⟨ls, a1, a2, a3⟩ := ih fun q hq' => hq q (by simp [hq'])
      have hn : 0 ≤ n ∧ n < 256 := by
        have e1 : IntKind.u8.min = 0 := by decide +kernel
        have e2 : IntKind.u8.max = 255 := by decide +kernel
        simp [Lit.wf, e1, e2] at wn
        omega
      refine ⟨n :: ls, fun x hx => ?_, by simp [a2], by rw [List.map_cons, a3, e]; rfl⟩
      rcases List.mem_cons.1 hx with rfl | hx
      · exact hn
      · exact a1 x hx
  obtain ⟨l, a1, a2, a3⟩ := key es h1
  exact ⟨_, ⟨l, a1, by omega, by rw [a3]⟩, h3⟩
set_option maxRecDepth 100000 in
/-- A topology, a mask, two numbers and small numbers. -/
theorem open_tm2p {H : Type} {enc : TypeId × Value → H} {W : World} {base : Nat} {vs : List Value} {ds : List (DataW H)} {ps : List MemPlace}
    (hval : ∀ (j : Nat) t v, [25, 22, 26, 39][j]? = some t → vs[j]? = some v → Value.okWide Try.prog W .any base t v)
    (hA : DataW.TrodAll enc Try.prog W 0 (fun _ => true) true [25, 22, 26, 39] vs ds ps) :
    ∃ (t : Topo) (down : List Bool) (a b : Int) (pk : List Int), t.wf ∧ down.length ≤ maxLen ∧ (Lit.int .i64 a).wf = true ∧ (Lit.int .i64 b).wf = true ∧ (∀ x ∈ pk, 0 ≤ x ∧ x < 256) ∧ vs.length = 4 ∧
      ∀ (j : Nat) (p : PV) (v : Value), [pvT t, .slc 1 (bools down), .agg [.int .i64 a, .int .i64 b], .slc 1 (u8s pk)][j]? = some p → vs[j]? = some v → Rep W (fun b => b < W.heap.size) noMu p v := by
  obtain ⟨v0, vs0, d0, ds0, p0, q0, rfl, rfl, rfl, h0, r0⟩ := trodAll_cons hA
  obtain ⟨v1, vs1, d1, ds1, p1, q1, rfl, rfl, rfl, h1, r1⟩ := trodAll_cons r0
  obtain ⟨v2, vs2, d2, ds2, p2, q2, rfl, rfl, rfl, h2, r2⟩ := trodAll_cons r1
  obtain ⟨v3, vs3, d3, ds3, p3, q3, rfl, rfl, rfl, h3, r3⟩ := trodAll_cons r2
  obtain ⟨rfl, rfl, rfl⟩ := trodAll_nil r3
  obtain ⟨c0, rfl⟩ := ok_agg Try.underlying25 (.inl ⟨_, rfl⟩) (hval 0 25 v0 (by simp) (by simp))
  obtain ⟨a1, l1, k1, rfl⟩ := okWide_slice Try.underlying22 (hval 1 22 v1 (by simp) (by simp))
  obtain ⟨c2, rfl⟩ := ok_agg Try.underlying26 (.inr ⟨_, _, rfl⟩) (hval 2 26 v2 (by simp) (by simp))
  obtain ⟨a3, l3, k3, rfl⟩ := okWide_slice Try.underlying39 (hval 3 39 v3 (by simp) (by simp))
  obtain ⟨qs0, ⟨t, wt, et⟩, R0⟩ := open_agg rd_topo h0
  obtain ⟨qd, ⟨down, wd, ed⟩, R1⟩ := open_one rd_bools rfl h1
  obtain ⟨qs2, ⟨a, b, wa, wb, rfl⟩, R2⟩ := open_agg rd_int2 h2
  obtain ⟨qp, ⟨pk, wp1, wp2, ep⟩, R3⟩ := open_one rd_u8s rfl h3
  obtain rfl : qd = .slc 1 (bools down) := by simpa using ed
  obtain rfl : qp = .slc 1 (u8s pk) := by simpa using ep
  rw [← et] at R0
  refine ⟨t, down, a, b, pk, wt, wd, wa, wb, wp1, rfl, fun j p v hp hv => ?_⟩
  match j with
  | 0 => simp at hp hv; subst hp hv; exact R0
  | 1 => simp at hp hv; subst hp hv; exact R1
  | 2 => simp at hp hv; subst hp hv; exact R2
  | 3 => simp at hp hv; subst hp hv; exact R3
  | j + 4 => simp at hp
end Go.V
