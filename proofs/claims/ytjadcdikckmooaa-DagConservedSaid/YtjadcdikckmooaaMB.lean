import Derived.Test.YtjadcdikckmooaaM4
import Derived.RangeFuncBox
import Derived.RangeFuncLeaves
import Derived.Shelf.Abstract
import Derived.WalkKit
import Derived.OwnWalkIn
import Derived.TacticsInMore
import Derived.LoopNIn
import Derived.LoopIn
/- slices.Backward: what its closure does. -/
set_option linter.unusedVariables false
set_option linter.unusedSimpArgs false
namespace Go.V
open Go.RowKit Go.Proofs Go.Shelf
attribute [local go_sem] Oper.semAt_some

set_option maxRecDepth 100000 in
set_option maxHeartbeats 2000000 in
theorem back_seq : BackSeq Try.prog 79 := by
  refine ⟨⟨_, _, Try.func79, by kernel_rfl, rfl⟩, fun l B zs J W hlen hbox hY h0 => ?_⟩
  obtain ⟨a, c, hc, _⟩ := hbox _ _ h0
  refine callsIn_of_wp Try.func79 rfl trivial ?_ rfl
  simp only [Try.ntmps79, List.size_toArray, List.length_cons, List.length_nil, Nat.reduceAdd, Nat.reduceSub, Array.replicate_succ, Array.replicate_zero, List.push_toArray, List.append_toArray, List.nil_append, List.cons_append]
  gi_wp2
  gi_loopw [3] (fun i wr => ∃ m : Nat, m ≤ zs.length ∧ i = .int .i64 ((m : Int) - 1) ∧ J m wr) (fun i _ => (intOf i + 1).toNat)
  case atStart => exact ⟨zs.length, Nat.le_refl _, by simp, h0⟩
  case round =>
    obtain ⟨m, hm, rfl, hJ⟩ := hrel
    cases m with
    | zero =>
      gi_wp2
      go_end0
      exact ⟨⟨_, rfl⟩, hJ⟩
    | succ m =>
      obtain ⟨a2, c2, hc2, hat⟩ := hbox _ _ hJ
      obtain ⟨b, off, rfl, hcell⟩ := hat m (by omega)
      obtain ⟨fn, tmps, assign, body, hy, hR⟩ := hY m wr (by omega) hJ
      have e1 : ((m + 1 : Nat) : Int) - 1 = (m : Int) := by omega
      rw [e1]
      simp only [List.getD_eq_getElem?_getD] at hy hcell
      gi_wp2
      refine ⟨rfl, hR.mono ?_⟩
      rintro e W3 ⟨rfl, hJ3⟩
      gi_wp2
      go_roundw
      case rel => exact ⟨m, by omega, by simp, hJ3⟩
      case measure => simp [intOf]
end Go.V
