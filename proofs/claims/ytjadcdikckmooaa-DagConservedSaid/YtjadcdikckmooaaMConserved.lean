import Derived.Test.YtjadcdikckmooaaMCb
import Derived.Test.YtjadcdikckmooaaMR
/- Proved: for every topology, mask and pair of nodes, DagConserved returns true (what leaves the source and what arrives at the destination is 1, and at every other node as much leaves as arrives). No condition. -/
set_option linter.unusedVariables false
set_option linter.unusedSimpArgs false
namespace Go.Proofs.Ytjadcdikckmooaa.dagConserved
open Go.ChangeShapes Go.WideShapes Go.ChangeAt Go.RowKit Go.V
theorem own : ownKnob Try.prog.godebug = none := by kernel_rfl

set_option maxRecDepth 100000 in
theorem lifted (os : Os) (started : os.Started) (H : Type) (enc : TypeId × Value → H) :
    ReturnsInHanded {} Try.checked os 6 .any (Rows.dagConservedSpec.pre6 enc Try.prog Try.f6 Rows.dagConservedRow.domain false) (Rows.dagConservedSpec.post enc Try.prog Try.f6 false true false false) := by
  refine returnsInHanded_of_change (C := Try.checked) own started (by kernel_rfl) Try.func6
    (ChangeSpec.witness6 (enc := enc) (C := Try.checked) false ⟨#[], #[.agg #[.int .i64 0, .slice none 0 0, .slice none 0 0], .slice none 0 0, .agg #[.int .i64 0, .int .i64 0]], []⟩ 8 (by kernel_rfl) (by kernel_rfl) (by kernel_rfl) (by kernel_rfl)) ?_
  intro W base args ds gs before hval hW hcnd _
  refine law_contract (tb := 4) (by kernel_rfl) (fun t ht => ?_) (by kernel_rfl) Try.underlying4 rfl (fun ds hds => ?_) (fun W base vs ds ps hval hA => ?_) W base args ds gs before hval hW
  · have e : Try.f6.params.toList = [25, 22, 26] := by kernel_rfl
    rw [e] at ht
    simp only [List.mem_cons, List.not_mem_nil, or_false] at ht
    rcases ht with rfl | rfl | rfl <;> exact ⟨by kernel_rfl, of_decide_eq_true (by kernel_rfl)⟩
  · have hn : Try.f6.params.size = 3 := by kernel_rfl
    rw [hn] at hds
    match ds, hds with
    | [d1, d2, d3], _ => exact ⟨rfl, rfl, rfl⟩
  · have e : Try.f6.params.toList = [25, 22, 26] := by kernel_rfl
    have hval' : ∀ (j : Nat) t v, [25, 22, 26][j]? = some t → vs[j]? = some v → Value.okWide Try.prog W .any base t v := fun j t v ht hv => hval j t v (by rw [← Array.getElem?_toList]; exact (congrArg (·[j]?) e).trans ht) hv
    have hA' : DataW.TrodAll enc Try.prog W 0 (fun _ => true) true [25, 22, 26] vs ds ps := by rw [← e]; exact hA
    obtain ⟨t, down, a, b, wt, wd, wa, wb, hl, hR⟩ := open_tm2 hval' hA'
    exact ⟨_, by rw [hl]; rfl, hR, dagconserved_good t down a b⟩

theorem over : Rows.dagConservedRow.holds Try.pinned (OpenSpec.ofChange Rows.dagConservedSpec) :=
  OpenClaim.holds_of_wide 6 Try.f6 rfl rfl rfl rfl rfl rfl rfl ⟨rfl, rfl, rfl, rfl, rfl⟩ rfl rfl rfl rfl rfl (by kernel_rfl) Try.func6 (by kernel_rfl)
    (of_decide_eq_true (by kernel_rfl)) (by unfold Func.isWrapper; first | (rw [if_pos (by decide +kernel)]; kernel_rfl) | (rw [if_neg (by decide +kernel)]; exact ⟨rfl, rfl⟩))
    (fun os started H enc _ => lifted os started H enc)

theorem proved : Rows.DagConservedSaid := over
end Go.Proofs.Ytjadcdikckmooaa.dagConserved
