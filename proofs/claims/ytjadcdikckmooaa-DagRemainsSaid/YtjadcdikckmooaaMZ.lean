import Derived.Test.YtjadcdikckmooaaM5
import Derived.Test.YtjadcdikckmooaaMY
/- A part of a proof, with no condition of its own. Merged texts: VFR L9. -/
/- The value logic, part 27: own objects that are given up, behind statements that may end the function. -/
set_option linter.unusedVariables false
set_option linter.unusedSimpArgs false
namespace Go.V
open Go.RowKit
section
variable {P : Program} {tt : TT} {N : Nat}
/-- Statements; behind the z-th all own objects are given up. -/
def wpY (P : Program) (tt : TT) (N : Nat) : Nat → Code → (VX → Env → Store → Prop) → Env → Store → Prop
  | 0, c, Q, env, g => ∃ L, wp P tt N c Q (frzE env g L) (frzS g)
  | z + 1, .seq a b, Q, env, g => wp P tt N a (fun x env' g' => match x with
    | .normal => wpY P tt N z b Q env' g'
    | x => Q x env' g') env g
  | _, _, _, _, _ => False

theorem wpY_sound (htt : TTOk P tt) (hm : P.follows .mixedOrders = true) : ∀ (z : Nat) (c : Code) {m : Nat} {w0 : World} {K : KA} {B0 : Nat → Prop} (Q : VX → Env → Store → Prop) (env : Env) (g : Store) (a : Act) (w : World), (∀ b, b < w0.heap.size → K b) → wpY P tt N z c Q env g → StRel w0 K B0 N (env.get, g) a w → c.wpIn (FR none) m P (XQ w0 K B0 N Q) a w
  | 0, c, m, w0, K, B0, Q, env, g, a, w, hK, h, hs => by
    obtain ⟨L, h⟩ := h
    exact wp_sound htt hm c _ _ _ _ _ (.inl rfl) h (strel_frz L hK hs)
  | z + 1, c, m, w0, K, B0, Q, env, g, a, w, hK, h, hs => by
    cases c with
    | seq x y =>
      refine wpIn_seq (wpIn_mono (wp_sound htt hm x _ env g a w (.inl rfl) h hs) ?_)
      intro e a' w' hq
      cases e with
      | normal => obtain ⟨env', g', h1, h2⟩ := hq; exact wpY_sound htt hm z y Q env' g' a' w' hK h1 h2
      | exit id => exact hq
      | ret => exact hq
      | goto l => exact hq.elim
      | panic ch => exact hq.elim
      | outgrown => exact hq.elim
    | _ => exact h.elim

theorem good_of_wpY (z : Nat) (htt : TTOk P tt) (hm : P.follows .mixedOrders = true) {k : FuncId} {fn : Func} {c : Code} (hf : P.funcs[k]? = some fn) (hname : (fn.name == "runtime.NumGoroutine") = false) (hb : fn.body = some c) (hN : fn.ntmps = N)
    {args : List PV} {r : PV} (hlen : args.length ≤ N)
    (h : wpY P tt N z c (fun x env g => match x with
      | .exit _ => False
      | _ => resK tt fn.results.toList env g fun ps => Wk (PV.snap g 6 (one ps)) r) (argEnv args) (fun _ => .fresh)) : Good P k args r := by
  refine ⟨⟨fn, c, hf, hname, hb⟩, fun w B vs hB hl hr => ?_⟩
  refine callsIn_wide.1 (callsIn_of_wp_marks (n := 0) hf hb trivial ?_)
  have hsim : Sim w ⟨fun _ => True, noMu, fun _ => False⟩ B (fun _ => SC.fresh) noMu w := by
    refine ⟨fun id id' b base base' hl => by simp [SC.live] at hl, fun id => ⟨fun _ => rfl, fun _ => rfl⟩, fun id b base hl => by simp [SC.live] at hl, fun id b base hl => by simp [SC.live] at hl, fun b hb => ⟨trivial, hB b hb⟩, rfl, rfl, rfl, Nat.le_refl _, fun _ _ _ => rfl, fun b => .refl w b, fun id _ hl => by simp [SC.live] at hl, fun _ h => h.elim⟩
  have hstab : ∀ b, B b → Stab w B (fun _ => SC.fresh) noMu w b := fun b hb => ⟨.inl hb, hB b hb, fun ⟨id, base, hl, _⟩ => by simp [SC.live] at hl⟩
  have hst : StRel w ⟨fun _ => True, noMu, fun _ => False⟩ B N ((argEnv args).get, fun _ => SC.fresh) { tmps := vs.toArray ++ Array.replicate (fn.ntmps - vs.toArray.size) Go.undef, defers := [] } w := by
    refine ⟨fun _ => False, noMu, hsim, fun t => ?_, by simp; omega, .nil _ _⟩
    simp only
    rcases zip_get (List.range args.length) args t with h1 | ⟨j, p, h1, h2, h3⟩
    · unfold argEnv; rw [h1]; exact .undef _ _
    · unfold argEnv
      rw [h3]
      have hjl : j < args.length := (List.getElem?_eq_some_iff.1 h2).1
      rw [List.getElem?_range hjl] at h1
      obtain rfl := Option.some.inj h1
      have hjv : j < vs.length := by omega
      have : (vs.toArray ++ Array.replicate (fn.ntmps - vs.toArray.size) Go.undef).getD j Go.undef = vs[j] := by
        rw [Array.getD_eq_getD_getElem?, Array.getElem?_append_left (by simpa using hjv)]
        simp [hjv]
      rw [this]
      exact (hr j p _ h2 (List.getElem?_eq_getElem hjv)).step hstab (fun _ _ => rfl) (fun _ _ _ h => by cases h)
  refine wpIn_mono (F := Fence.wide) (wpY_sound htt hm z c (m := 0) _ _ _ _ _ (fun _ _ => trivial) h hst) ?_
  have fin : ∀ (a' : Act) (w' : World) (env : Env) (g : Store), (resK tt fn.results.toList env g fun ps => Wk (PV.snap g 6 (one ps)) r) → StRel w ⟨fun _ => True, noMu, fun _ => False⟩ B N (env.get, g) a' w' →
      LeavesInM Fence.wide 0 P fn a'.tmps (fun e w' => ∃ v', e = .returned v' ∧ Below w.heap.size w w' ∧ Rep w' (fun b => b < w'.heap.size ∧ (B b ∨ w.heap.size ≤ b)) noMu r v') a'.defers .returning w' := by
    intro a' w1 env g hres hst1
    refine hst1.leaves ?_
    rintro m0 w' ⟨mm, μ, hS, hE, hN', hD⟩
    obtain ⟨us, ps, h1, h2, h3, h4⟩ := resK_run htt hS hE _ _ hres
    have hbelow : Below w.heap.size w w' := ⟨hS.os, hS.tape, hS.output, hS.size, fun k hk => hS.kept k hk trivial⟩
    have hone : Rep w' (Stab w B g μ w') μ (one ps) (if h : us.toArray.size = 1 then us.toArray[0] else .tuple us.toArray) := by
      by_cases hl1 : us.length = 1
      · obtain ⟨u, rfl⟩ := List.length_eq_one_iff.1 hl1
        obtain ⟨p, rfl⟩ := List.length_eq_one_iff.1 (h2.symm.trans hl1)
        simpa [one] using h3 0 p u rfl rfl
      · rw [dif_neg (by simpa using hl1)]
        have : one ps = .tup ps := by
          unfold one
          split
          · simp at h2; exact absurd h2 hl1
          · rfl
        rw [this]
        exact .tup _ _ _ (by simp [h2]) fun j p u hp hu => h3 j p u hp (by simpa using hu)
    refine ⟨(if h : us.toArray.size = 1 then us.toArray[0] else .tuple us.toArray), ?_, _, rfl, hbelow, ?_⟩
    · unfold results
      rw [Array.mapM_eq_mapM_toList]
      rw [Sem.run_bind, Sem.run_map]
      exact (congrArg (fun q : Result (List Value) => (q.andThen fun a w' => Result.ok a.toArray w').andThen fun a w' => Result.ok (if h : a.size = 1 then a[0] else Value.tuple a) w') h1).trans rfl
    · refine h4 _ _ _ ((snap_rep hS 6 _ _ hone).step (fun b hb => ?_) (fun _ _ => rfl) (fun _ _ _ h => by cases h))
      rcases hb with ⟨a1, a2, a3⟩ | ⟨id, base, hl, hm'⟩
      · exact ⟨a2, a1⟩
      · obtain ⟨q1, q2⟩ := hS.blk id b base hl hm'
        exact ⟨q1, .inr (Nat.le_of_not_lt fun hlt => q2 hlt trivial)⟩
  intro e a' w' hq
  cases e with
  | normal => obtain ⟨env, g, h1, h2⟩ := hq; exact fin a' w' env g h1 h2
  | ret => obtain ⟨env, g, h1, h2⟩ := hq; exact fin a' w' env g h1 h2
  | exit id => obtain ⟨env, g, h1, h2⟩ := hq; exact h1.elim
  | goto l => exact hq.elim
  | panic ch => exact hq.elim
  | outgrown => exact hq.elim


def yQ (P : Program) (tt : TT) (N z : Nat) (b : Code) (Q : VX → Env → Store → Prop) : VX → Env → Store → Prop := fun x env g =>
  match x with
  | .normal => wpY P tt N z b Q env g
  | x => Q x env g
section
variable {Q : VX → Env → Store → Prop} {env : Env} {g : Store}
theorem v_yseq {z : Nat} {a b : Code} (h : wp P tt N a (yQ P tt N z b Q) env g) : wpY P tt N (z + 1) (.seq a b) Q env g := h
theorem v_yn {z : Nat} {b : Code} (h : wpY P tt N z b Q env g) : yQ P tt N z b Q .normal env g := h
theorem v_yr {z : Nat} {b : Code} (h : Q .ret env g) : yQ P tt N z b Q .ret env g := h
theorem v_frzY {c : Code} (L : List Nat) (h : wp P tt N c Q (frzE env g L) (frzS g)) : wpY P tt N 0 c Q env g := ⟨L, h⟩
theorem v_enterY (z : Nat) (htt : TTOk P tt) (hm : P.follows .mixedOrders = true) {k : FuncId} {fn : Func} {c : Code} {rs : Array ResultVar} (hf : P.funcs[k]? = some fn) (hname : (fn.name == "runtime.NumGoroutine") = false) (hb : fn.body = some c) (hN : fn.ntmps = N) (hrs : fn.results = rs)
    {args : List PV} {r : PV} (hlen : args.length ≤ N) (h : wpY P tt N z c (finQ tt rs.toList r) (argEnv args) (fun _ => .fresh)) : Good P k args r :=
  good_of_wpY z htt hm hf hname hb hN hlen (by rw [hrs]; unfold finQ at h; exact h)
end
end
attribute [irreducible] yQ wpY
end Go.V
/- The statement DagRemains, as a contract. -/
set_option linter.unusedVariables false
set_option linter.unusedSimpArgs false
namespace Go.V
open Go.RowKit Go.Proofs
attribute [local irreducible] wp seqK lexK opK callK upd sto Good GoodR

theorem Only.end_ {t : Topo} {down : List Bool} {dist : List Int} {d : Int} : ∀ {p : List Int} {n : Int}, Only t down dist d n p → pEnd t n p = d
  | [], n, h => h
  | a :: p, n, ⟨_, _, h⟩ => by
    have := Only.end_ h
    simpa [pEnd] using this
/-- The arcs that are down in all. -/
def allF (down more : List Bool) (k : Nat) : Bool := more.getD k false || !upB down k
def allK (down more : List Bool) (M k : Nat) : List Bool := (List.range k).map (allF down more) ++ List.replicate (M - k) false
theorem allK_length (down more : List Bool) {M k : Nat} (hk : k ≤ M) : (allK down more M k).length = M := by simp [allK]; omega
theorem allK_succ (down more : List Bool) {M k : Nat} (hk : k < M) : allK down more M (k + 1) = (allK down more M k).set k (allF down more k) := by
  have : M - k = (M - (k + 1)) + 1 := by omega
  unfold allK
  rw [this, List.replicate_succ, List.range_succ, List.map_append, List.set_append_right _ _ (by simp)]
  simp
theorem allK_get (down more : List Bool) {M k : Nat} (hk : k < M) : (allK down more M M).getD k false = allF down more k := by
  simp [allK, List.getD, hk]
theorem bools_set (l : List Bool) (j : Nat) (x : Bool) : (bools l).set j (.bool x) = bools (l.set j x) := by simp [bools, List.map_set]
theorem bools_replicate (n : Nat) (x : Bool) : List.replicate n (PV.bool x) = bools (List.replicate n x) := by simp [bools, List.map_replicate]
theorem renL_bools (f : Nat → Nat) (l : List Bool) : PV.renL f (bools l) = bools l := PV.renL_none f _ (refsL_bools l)
theorem bools_take_all (l : List Bool) : (bools l).take l.length = bools l := List.take_of_length_le (by rw [bools_length]; exact Nat.le_refl _)
/-- A unique shortest path remains. -/
theorem remains_law {t : Topo} {down more : List Bool} {a b : Int} (h : uniqB t down a b = true) (hm : more.length = 2 * t.ls.length) (hno : ∀ k, k < 2 * t.ls.length → more.getD k false = true → (k : Int) ∉ ptV t down a b) :
    uniqB t (allK down more (2 * t.ls.length) (2 * t.ls.length)) a b = true ∧ ptE t (allK down more (2 * t.ls.length) (2 * t.ls.length)) a b = 0 ∧ ptV t (allK down more (2 * t.ls.length) (2 * t.ls.length)) a b = ptV t down a b := by
  obtain ⟨he, h0, h1, hr, hc⟩ := uniq_elim h
  obtain ⟨hmk, hd0, hd1⟩ := distE_ok he
  have ht := maskOk_ok hmk
  have hI := distL_is ht down hd0 hd1 false
  have ho := (uniq_path h).2
  have hal := allK_length down more (Nat.le_refl (2 * t.ls.length))
  have hget := fun k => allK_get down more (M := 2 * t.ls.length) (k := k)
  generalize ptV t down a b = P at *
  generalize allK down more (2 * t.ls.length) (2 * t.ls.length) = A at *
  have hmA : maskOk t A = true := by simp [maskOk, ht, hal]
  have he' : distE t A b = 0 := by unfold distE; rw [if_pos hmA, if_pos ⟨hd0, hd1⟩]
  have hI' := distL_is ht A hd0 hd1 false
  have hupA : ∀ x, t.arc x → upB A x = !allF down more x.toNat := fun x hx => by
    have hx1 := hx.1
    have hx2 := hx.2
    have hne : ¬ A.length = 0 := by omega
    unfold upB
    rw [decide_eq_false hne, Bool.false_or, hget _ (by omega)]
  have hup : ∀ x, t.arc x → upB A x = true → upB down x = true := fun x hx hu => by
    rw [hupA x hx] at hu
    have e : ((x.toNat : Nat) : Int) = x := by have := hx.1; omega
    simp only [allF, e, Bool.not_eq_true', Bool.or_eq_false_iff, Bool.not_eq_false'] at hu
    exact hu.2
  have harc : ∀ x ∈ P, t.arc x ∧ upB down x = true := fun x hx => by
    obtain ⟨j, hj, rfl⟩ := List.getElem_of_mem hx
    have := (Only.arc ht hI (i := j) hj ho).1
    rw [show P.getD j 0 = P[j] by simp [List.getD, hj]] at this
    obtain ⟨q1, q2, q3⟩ := (mem_next ht).1 this
    exact ⟨q1, (on_iff.1 q3).1⟩
  have hz : (distL t down b false).getD b.toNat (-1) = 0 := hI.zero
  obtain ⟨o1, o2, o3⟩ := two_only ht hI hI' hd0 hd0 hd1 hup (.inl rfl) (by omega) P [] a h0 h1 (by rw [List.append_nil]; exact ho) ho.end_ (fun x hx => by
    obtain ⟨q1, q2⟩ := harc x hx
    rw [hupA x q1]
    have e : ((x.toNat : Nat) : Int) = x := by have := q1.1; omega
    have hnm : more.getD x.toNat false = false := by
      cases hmx : more.getD x.toNat false with
      | false => rfl
      | true => exact absurd (by rw [e]; exact hx) (hno x.toNat (by have := q1.1; have := q1.2; omega) hmx)
    simp only [allF, hnm, e, q2]
    rfl)
  obtain ⟨p1, p2⟩ := pt_ok he' h0 h1 o2
  exact ⟨uniq_intro he' h0 h1 (only_uniq ht hI' hd0 hd1 _ _ h0 h1 o1), p1, by rw [p2, Only.fpath_eq ht hI' h0 h1 o2 o1]⟩

set_option maxHeartbeats 8000000 in
theorem dagremains_good (t : Topo) (down more : List Bool) (a b : Int) : Good Try.prog 10 [pvT t, .slc 1 (bools down), .slc 1 (bools more), .agg [.int .i64 a, .int .i64 b]] (.bool true) := by
  have hw := awake_good
  have hl := large_good t down
  have hf := rfits_good t down
  have hp := path11_good t down a b
  refine v_enterY 6 ttok mixed Try.func10 (by kernel_rfl) rfl Try.ntmps10 Try.results10 (by simp) ?_; rw [fresh_sto]; simp only [argEnv, List.range, List.range.loop, List.length_cons, List.length_nil, List.zip_cons_cons, List.zip_nil_left]
  refine v_yseq ?_
  cases c : largeB t down with
  | true =>
    rw [c] at hl
    have hu := hl
    (repeat (first | refine Stp.go ?_ | refine v_region ?_ | refine v_regionD ?_ | refine v_blocky (by decide) ?_ | ((first | refine v_o rfl ?_ ?_ | refine v_oD rfl ?_ ?_); (focus (simp only [pvT, bools_length, List.length_map, eq_self, decide_true, not_true_eq_false, not_false_eq_true, decide_false, Bool.not_true, Bool.not_false,  go_sem]; done)); simp only [Env.put]) | ((first | refine v_u rfl fun K hK => ?_ | refine v_g rfl fun K hK => ?_ | refine v_uD rfl fun K hK => ?_ | refine v_gD rfl fun K hK => ?_); simp only [pvT, bools_length, List.length_map, eq_self, decide_true, not_true_eq_false, not_false_eq_true, decide_false, Bool.not_true, Bool.not_false,  go_sem]) | (first | (refine callK_pure (fun hc => hw) rfl ?_; simp only [upds, eq_self, true_or, true_and]) | (refine callK_pure (fun hc => hl) rfl ?_; simp only [upds, eq_self, true_or, true_and]) | (refine callK_pure (fun hc => hf) rfl ?_; simp only [upds, eq_self, true_or, true_and]) | (refine callK_pure (fun hc => hu) rfl ?_; simp only [upds, eq_self, true_or, true_and]) | refine v_yn ?_ | refine v_yseq ?_ | refine v_yr ?_) | refine v_end ?_ | refine v_endD (by kernel_rfl) ?_ | (refine hK _ _ ?_; clear hK K) | refine ⟨by (first | trivial | assumption | omega | (intros; first | assumption | omega)), ?_⟩ | (apply v_condb; (focus (simp only [pvT, bools_length, List.length_map, eq_self, decide_true, not_true_eq_false, not_false_eq_true, decide_false, Bool.not_true, Bool.not_false,  go_sem]; first | exact pvt | exact pvf)); simp only [cond_true, cond_false]) | fail))
    (first | refine v_fin_n ?_ | refine v_fin_r ?_); simp only [ resK, one, PV.snap, go_sem]
    exact .refl _
  | false =>
    rw [c] at hl
    have hn := large_no c
    have hu := unique_good t down a b (by omega)
    have v1 : IntKind.i64.wrap (2 * (t.ls.length : Int)) = 2 * (t.ls.length : Int) := wrap_i64 (by omega) (by omega)
    cases cm : maskOk t down with
    | false =>
      rw [cm] at hf
      (repeat (first | refine Stp.go ?_ | refine v_region ?_ | refine v_regionD ?_ | refine v_blocky (by decide) ?_ | ((first | refine v_o rfl ?_ ?_ | refine v_oD rfl ?_ ?_); (focus (simp only [pvT, bools_length, List.length_map, eq_self, decide_true, not_true_eq_false, not_false_eq_true, decide_false, Bool.not_true, Bool.not_false,  go_sem]; done)); simp only [Env.put]) | ((first | refine v_u rfl fun K hK => ?_ | refine v_g rfl fun K hK => ?_ | refine v_uD rfl fun K hK => ?_ | refine v_gD rfl fun K hK => ?_); simp only [pvT, bools_length, List.length_map, eq_self, decide_true, not_true_eq_false, not_false_eq_true, decide_false, Bool.not_true, Bool.not_false,  go_sem]) | (first | (refine callK_pure (fun hc => hw) rfl ?_; simp only [upds, eq_self, true_or, true_and]) | (refine callK_pure (fun hc => hl) rfl ?_; simp only [upds, eq_self, true_or, true_and]) | (refine callK_pure (fun hc => hf) rfl ?_; simp only [upds, eq_self, true_or, true_and]) | (refine callK_pure (fun hc => hu) rfl ?_; simp only [upds, eq_self, true_or, true_and]) | refine v_yn ?_ | refine v_yseq ?_ | refine v_yr ?_) | refine v_end ?_ | refine v_endD (by kernel_rfl) ?_ | (refine hK _ _ ?_; clear hK K) | refine ⟨by (first | trivial | assumption | omega | (intros; first | assumption | omega)), ?_⟩ | (apply v_condb; (focus (simp only [pvT, bools_length, List.length_map, eq_self, decide_true, not_true_eq_false, not_false_eq_true, decide_false, Bool.not_true, Bool.not_false,  go_sem]; first | exact pvt | exact pvf)); simp only [cond_true, cond_false]) | fail))
      (first | refine v_fin_n ?_ | refine v_fin_r ?_); simp only [ resK, one, PV.snap, go_sem]
      exact .refl _
    | true =>
      rw [cm] at hf
      by_cases cl : (more.length : Int) = 2 * (t.ls.length : Int)
      · cases cu : uniqB t down a b with
        | false =>
          rw [cu] at hu
          (repeat (first | refine Stp.go ?_ | refine v_region ?_ | refine v_regionD ?_ | refine v_blocky (by decide) ?_ | ((first | refine v_o rfl ?_ ?_ | refine v_oD rfl ?_ ?_); (focus (simp only [pvT, bools_length, List.length_map, eq_self, decide_true, not_true_eq_false, not_false_eq_true, decide_false, Bool.not_true, Bool.not_false, v1, cl, go_sem]; done)); simp only [Env.put]) | ((first | refine v_u rfl fun K hK => ?_ | refine v_g rfl fun K hK => ?_ | refine v_uD rfl fun K hK => ?_ | refine v_gD rfl fun K hK => ?_); simp only [pvT, bools_length, List.length_map, eq_self, decide_true, not_true_eq_false, not_false_eq_true, decide_false, Bool.not_true, Bool.not_false, v1, cl, go_sem]) | (first | (refine callK_pure (fun hc => hw) rfl ?_; simp only [upds, eq_self, true_or, true_and]) | (refine callK_pure (fun hc => hl) rfl ?_; simp only [upds, eq_self, true_or, true_and]) | (refine callK_pure (fun hc => hf) rfl ?_; simp only [upds, eq_self, true_or, true_and]) | (refine callK_pure (fun hc => hu) rfl ?_; simp only [upds, eq_self, true_or, true_and]) | refine v_yn ?_ | refine v_yseq ?_ | refine v_yr ?_) | refine v_end ?_ | refine v_endD (by kernel_rfl) ?_ | (refine hK _ _ ?_; clear hK K) | refine ⟨by (first | trivial | assumption | omega | (intros; first | assumption | omega)), ?_⟩ | (apply v_condb; (focus (simp only [pvT, bools_length, List.length_map, eq_self, decide_true, not_true_eq_false, not_false_eq_true, decide_false, Bool.not_true, Bool.not_false, v1, cl, go_sem]; first | exact pvt | exact pvf)); simp only [cond_true, cond_false]) | fail))
          (first | refine v_fin_n ?_ | refine v_fin_r ?_); simp only [ resK, one, PV.snap, go_sem]
          exact .refl _
        | true =>
          rw [cu] at hu
          have ht := maskOk_ok cm
          have hml := maskOk_len cm
          rw [(uniq_path cu).1] at hp
          have hml2 : more.length = 2 * t.ls.length := by omega
          have hlaw := remains_law cu hml2
          have hpl := ptV_len t down a b
          generalize ptV t down a b = P at *
          obtain ⟨M, hM⟩ : ∃ M : Nat, 2 * t.ls.length = M := ⟨_, rfl⟩
          rw [hM] at hlaw hml hml2
          have v3 : (0 : Int) ≤ 2 * (t.ls.length : Int) := by omega
          have v4 : M * 1 ≤ 140737488355328 := by omega
          have v5 : 2 * (t.ls.length : Int) ≤ 140737488355328 := by omega
          have v6 : (2 * (t.ls.length : Int)).toNat = M := by omega
          (repeat (first | refine Stp.go ?_ | refine v_region ?_ | refine v_regionD ?_ | refine v_blocky (by decide) ?_ | ((first | refine v_o rfl ?_ ?_ | refine v_oD rfl ?_ ?_); (focus (simp only [pvT, bools_length, List.length_map, eq_self, decide_true, not_true_eq_false, not_false_eq_true, decide_false, Bool.not_true, Bool.not_false, v1, cl, v3, v4, v5, v6, bools_replicate, List.length_replicate, go_sem]; done)); simp only [Env.put]) | ((first | refine v_u rfl fun K hK => ?_ | refine v_g rfl fun K hK => ?_ | refine v_uD rfl fun K hK => ?_ | refine v_gD rfl fun K hK => ?_); simp only [pvT, bools_length, List.length_map, eq_self, decide_true, not_true_eq_false, not_false_eq_true, decide_false, Bool.not_true, Bool.not_false, v1, cl, v3, v4, v5, v6, bools_replicate, List.length_replicate, go_sem]) | (first | (refine callK_pure (fun hc => hw) rfl ?_; simp only [upds, eq_self, true_or, true_and]) | (refine callK_pure (fun hc => hl) rfl ?_; simp only [upds, eq_self, true_or, true_and]) | (refine callK_pure (fun hc => hf) rfl ?_; simp only [upds, eq_self, true_or, true_and]) | (refine callK_pure (fun hc => hu) rfl ?_; simp only [upds, eq_self, true_or, true_and]) | (refine callK_pure (fun hc => hp) rfl ?_; simp only [upds, eq_self, true_or, true_and]) | refine v_yn ?_ | refine v_yseq ?_ | refine v_yr ?_) | refine v_end ?_ | refine v_endD (by kernel_rfl) ?_ | (refine hK _ _ ?_; clear hK K) | refine ⟨by (first | trivial | assumption | omega | (intros; first | assumption | omega)), ?_⟩ | (apply v_condb; (focus (simp only [pvT, bools_length, List.length_map, eq_self, decide_true, not_true_eq_false, not_false_eq_true, decide_false, Bool.not_true, Bool.not_false, v1, cl, v3, v4, v5, v6, bools_replicate, List.length_replicate, go_sem]; first | exact pvt | exact pvf)); simp only [cond_true, cond_false]) | fail))
          refine v_loop [1, 2, 4, 7, 9, 10, 11, 59, 60] (fun k : Nat => k ≤ M ∧ ∀ j, j < k → more.getD j false = true → (j : Int) ∉ P) (fun k => M - k)
            (fun k => [.slc 1 (bools down), .slc 1 (bools more), .ptr 102 3 0 0, .ptr 103 2 0 0, .slc 1 (ints P), .int .i64 0, .sref 101 1 0 M false, .int .i64 M, .int .i64 k])
            (fun k => [(102, .row 25 3 [pvT t]), (103, .row 26 2 [.agg [.int .i64 a, .int .i64 b]]), (101, .row 4 1 (bools (allK down more M k)))]) 0 ⟨Nat.zero_le _, fun j hj => by omega⟩ ?_ ?_
          · have e : allK down more M 0 = List.replicate M false := by simp [allK]
            exact (fits_sto _ (fun x => if x = 102 then 1000 else if x = 103 then 1001 else if x = 101 then 7002 else x) (by simp [Env.get, PV.renL, PV.ren , pvT, e, renL_bools, refsL_bools]) (by simp [PV.refsL, PV.refs , pvT, e, renL_bools, refsL_bools]) (by simp [SC.live, SC.ren, SC.refs, PV.renL, PV.ren, PV.refsL, PV.refs, sto_cons, sto_nil , pvT, e, renL_bools, refsL_bools]) (by simp []))
          · rintro k ⟨hk, hno⟩
            simp only [List.zip_cons_cons, List.zip_nil_left]
            have hAl := allK_length down more hk
            by_cases hc : k < M
            · have hsucc := allK_succ down more hc
              have z1 : (k : Int) < M := by omega
              have z2 : (0 : Int) ≤ k := by omega
              have z3 : IntKind.i64.wrap ((k : Int) + 1) = ((k + 1 : Nat) : Int) := by rw [wrap_i64 (by omega) (by omega)]; omega
              have z4 : (bools more).getD k .undef = .bool (more.getD k false) := bools_get (by omega)
              have z5 : (k : Int) < 2 * (t.ls.length : Int) := by omega
              have z6 : k < (allK down more M k).length := by omega
              have z7 : (bools (allK down more M k)).getD k .undef = .bool ((allK down more M k).getD k false) := bools_get z6
              have hupg := rup_good down k (by omega) (by rcases hml with h | h; exact .inl h; exact .inr (by omega))
              have hhas := has_in_good P k (by omega)
              have hfk : allF down more k = (more.getD k false || !upB down k) := rfl
              rw [hfk] at hsucc
              generalize allK down more M k = A at *
              generalize A.getD k false = o at *
              generalize upB down k = ub at *
              cases hmk : more.getD k false with
              | false =>
                rw [hmk] at hsucc z4
                rw [Bool.false_or] at hsucc
                (repeat (first | refine Stp.go ?_ | refine v_region ?_ | refine v_regionD ?_ | refine v_blocky (by decide) ?_ | ((first | refine v_o rfl ?_ ?_ | refine v_oD rfl ?_ ?_); (focus (simp only [pvT, bools_length, bools_set, cl, z1, z2, z3, z4, z5, z6, z7, go_sem]; done)); simp only [Env.put]) | ((first | refine v_u rfl fun K hK => ?_ | refine v_g rfl fun K hK => ?_ | refine v_uD rfl fun K hK => ?_ | refine v_gD rfl fun K hK => ?_); simp only [pvT, bools_length, bools_set, cl, z1, z2, z3, z4, z5, z6, z7, go_sem]) | (first | (refine callK_pure (fun hc => hupg) rfl ?_; simp only [upds, eq_self, true_or, true_and]) | (refine callK_pure (fun hc => hhas) rfl ?_; simp only [upds, eq_self, true_or, true_and])) | refine v_end ?_ | refine v_endD (by kernel_rfl) ?_ | (refine hK _ _ ?_; clear hK K) | refine ⟨by (first | trivial | assumption | omega | (intros; first | assumption | omega)), ?_⟩ | (apply v_condb; (focus (simp only [pvT, bools_length, bools_set, cl, z1, z2, z3, z4, z5, z6, z7, go_sem]; first | exact pvt | exact pvf)); simp only [cond_true, cond_false]) | fail))
                refine v_round (k + 1) ⟨hc, fun j hj hm => by
                  by_cases e : j = k
                  · subst e; rw [hmk] at hm; cases hm
                  · exact hno j (by omega) hm⟩ (by omega) (fits_sto _ id (by simp [Env.get, PV.renL, PV.ren , pvT, hsucc, renL_bools, refsL_bools, renL_ints, refsL_ints]) (by simp [PV.refsL, PV.refs , pvT, hsucc, renL_bools, refsL_bools, renL_ints, refsL_ints]) (by simp [SC.live, SC.ren, SC.refs, PV.renL, PV.ren, PV.refsL, PV.refs, sto_cons, sto_nil , pvT, hsucc, renL_bools, refsL_bools, renL_ints, refsL_ints]) (by simp []))
              | true =>
                rw [hmk] at hsucc z4
                rw [Bool.true_or] at hsucc
                by_cases hin : (k : Int) ∈ P
                · rw [decide_eq_true hin] at hhas
                  (repeat (first | refine Stp.go ?_ | refine v_region ?_ | refine v_regionD ?_ | refine v_blocky (by decide) ?_ | ((first | refine v_o rfl ?_ ?_ | refine v_oD rfl ?_ ?_); (focus (simp only [pvT, bools_length, bools_set, cl, z1, z2, z3, z4, z5, z6, z7, go_sem]; done)); simp only [Env.put]) | ((first | refine v_u rfl fun K hK => ?_ | refine v_g rfl fun K hK => ?_ | refine v_uD rfl fun K hK => ?_ | refine v_gD rfl fun K hK => ?_); simp only [pvT, bools_length, bools_set, cl, z1, z2, z3, z4, z5, z6, z7, go_sem]) | (first | (refine callK_pure (fun hc => hhas) rfl ?_; simp only [upds, eq_self, true_or, true_and]) | refine v_loopr ?_ | refine v_yr ?_) | refine v_end ?_ | refine v_endD (by kernel_rfl) ?_ | (refine hK _ _ ?_; clear hK K) | refine ⟨by (first | trivial | assumption | omega | (intros; first | assumption | omega)), ?_⟩ | (apply v_condb; (focus (simp only [pvT, bools_length, bools_set, cl, z1, z2, z3, z4, z5, z6, z7, go_sem]; first | exact pvt | exact pvf)); simp only [cond_true, cond_false]) | fail))
                  (first | refine v_fin_n ?_ | refine v_fin_r ?_); simp only [ resK, one, PV.snap, go_sem]
                  exact .refl _
                · rw [decide_eq_false hin] at hhas
                  (repeat (first | refine Stp.go ?_ | refine v_region ?_ | refine v_regionD ?_ | refine v_blocky (by decide) ?_ | ((first | refine v_o rfl ?_ ?_ | refine v_oD rfl ?_ ?_); (focus (simp only [pvT, bools_length, bools_set, cl, z1, z2, z3, z4, z5, z6, z7, go_sem]; done)); simp only [Env.put]) | ((first | refine v_u rfl fun K hK => ?_ | refine v_g rfl fun K hK => ?_ | refine v_uD rfl fun K hK => ?_ | refine v_gD rfl fun K hK => ?_); simp only [pvT, bools_length, bools_set, cl, z1, z2, z3, z4, z5, z6, z7, go_sem]) | (first | (refine callK_pure (fun hc => hhas) rfl ?_; simp only [upds, eq_self, true_or, true_and])) | refine v_end ?_ | refine v_endD (by kernel_rfl) ?_ | (refine hK _ _ ?_; clear hK K) | refine ⟨by (first | trivial | assumption | omega | (intros; first | assumption | omega)), ?_⟩ | (apply v_condb; (focus (simp only [pvT, bools_length, bools_set, cl, z1, z2, z3, z4, z5, z6, z7, go_sem]; first | exact pvt | exact pvf)); simp only [cond_true, cond_false]) | fail))
                  refine v_round (k + 1) ⟨hc, fun j hj hm => by
                    by_cases e : j = k
                    · subst e; exact hin
                    · exact hno j (by omega) hm⟩ (by omega) (fits_sto _ id (by simp [Env.get, PV.renL, PV.ren , pvT, hsucc, renL_bools, refsL_bools, renL_ints, refsL_ints]) (by simp [PV.refsL, PV.refs , pvT, hsucc, renL_bools, refsL_bools, renL_ints, refsL_ints]) (by simp [SC.live, SC.ren, SC.refs, PV.renL, PV.ren, PV.refsL, PV.refs, sto_cons, sto_nil , pvT, hsucc, renL_bools, refsL_bools, renL_ints, refsL_ints]) (by simp []))
            · have hkM : k = M := by omega
              subst hkM
              have z1 : ¬ (k : Int) < k := by omega
              obtain ⟨r1, r2, r3⟩ := hlaw hno
              have hpA := path11_good t (allK down more k k) a b
              have huA := unique_good t (allK down more k k) a b (by omega)
              rw [r2, r3] at hpA
              rw [r1] at huA
              have hsm := same_sq P (by omega)
              generalize allK down more k k = A at *
              (repeat (first | refine Stp.go ?_ | refine v_region ?_ | refine v_regionD ?_ | refine v_blocky (by decide) ?_ | ((first | refine v_o rfl ?_ ?_ | refine v_oD rfl ?_ ?_); (focus (simp only [pvT, bools_length, z1, go_sem]; done)); simp only [Env.put]) | ((first | refine v_u rfl fun K hK => ?_ | refine v_g rfl fun K hK => ?_ | refine v_uD rfl fun K hK => ?_ | refine v_gD rfl fun K hK => ?_); simp only [pvT, bools_length, z1, go_sem]) | (first | refine v_loopx ?_ | refine v_yn ?_) | refine v_end ?_ | refine v_endD (by kernel_rfl) ?_ | (refine hK _ _ ?_; clear hK K) | refine ⟨by (first | trivial | assumption | omega | (intros; first | assumption | omega)), ?_⟩ | (apply v_condb; (focus (simp only [pvT, bools_length, z1, go_sem]; first | exact pvt | exact pvf)); simp only [cond_true, cond_false]) | fail))
              refine v_frzY [4, 7, 9, 10, 11] ?_
              have hT : PV.snap (sto [(102, .row 25 3 [.agg [.int .i64 t.n, .slc 1 (bools t.ov), .slc 7 (t.ls.map pvL)]]), (103, .row 26 2 [.agg [.int .i64 a, .int .i64 b]]), (101, .row 4 1 (bools A))]) 6 (.ptr 102 3 0 0) = .vptr [.int .i64 t.n, .slc 1 (bools t.ov), .slc 7 (t.ls.map pvL)] 0 := by
                simp [PV.snap, sto_cons, pvT, PV.cells]
              have hE : PV.snap (sto [(102, .row 25 3 [.agg [.int .i64 t.n, .slc 1 (bools t.ov), .slc 7 (t.ls.map pvL)]]), (103, .row 26 2 [.agg [.int .i64 a, .int .i64 b]]), (101, .row 4 1 (bools A))]) 6 (.ptr 103 2 0 0) = .vptr [.int .i64 a, .int .i64 b] 0 := by
                simp [PV.snap, sto_cons, PV.cells]
              have hAs : PV.snap (sto [(102, .row 25 3 [.agg [.int .i64 t.n, .slc 1 (bools t.ov), .slc 7 (t.ls.map pvL)]]), (103, .row 26 2 [.agg [.int .i64 a, .int .i64 b]]), (101, .row 4 1 (bools A))]) 6 (.sref 101 1 0 k false) = .slc 1 (bools A) := by
                simp [PV.snap, sto_cons, bools_length, hAl, List.take_of_length_le, snap_bools]
              simp only [frzE, List.map_cons, List.map_nil, Env.get, reduceIte, Nat.reduceEqDiff, hT, hE, hAs, frzS_sto, frzC, List.zip_cons_cons, List.zip_nil_left]
              simp only [PV.snap]
              (repeat (first | refine Stp.go ?_ | refine v_region ?_ | refine v_regionD ?_ | refine v_blocky (by decide) ?_ | ((first | refine v_o rfl ?_ ?_ | refine v_oD rfl ?_ ?_); (focus (simp only [pvT, eq_self, decide_true, not_true_eq_false, not_false_eq_true, decide_false, go_sem]; done)); simp only [Env.put]) | ((first | refine v_u rfl fun K hK => ?_ | refine v_g rfl fun K hK => ?_ | refine v_uD rfl fun K hK => ?_ | refine v_gD rfl fun K hK => ?_); simp only [pvT, eq_self, decide_true, not_true_eq_false, not_false_eq_true, decide_false, go_sem]) | (first | (refine callK_pure (fun hc => hpA) rfl ?_; simp only [upds, eq_self, true_or, true_and]) | (refine callK_pure (fun hc => huA) rfl ?_; simp only [upds, eq_self, true_or, true_and]) | (refine callK_pure (fun hc => hsm) rfl ?_; simp only [upds, eq_self, true_or, true_and])) | refine v_end ?_ | refine v_endD (by kernel_rfl) ?_ | (refine hK _ _ ?_; clear hK K) | refine ⟨by (first | trivial | assumption | omega | (intros; first | assumption | omega)), ?_⟩ | (apply v_condb; (focus (simp only [pvT, eq_self, decide_true, not_true_eq_false, not_false_eq_true, decide_false, go_sem]; first | exact pvt | exact pvf)); simp only [cond_true, cond_false]) | fail))
              (first | refine v_fin_n ?_ | refine v_fin_r ?_); simp only [ resK, one, PV.snap, go_sem]
              exact .refl _
      · (repeat (first | refine Stp.go ?_ | refine v_region ?_ | refine v_regionD ?_ | refine v_blocky (by decide) ?_ | ((first | refine v_o rfl ?_ ?_ | refine v_oD rfl ?_ ?_); (focus (simp only [pvT, bools_length, List.length_map, eq_self, decide_true, not_true_eq_false, not_false_eq_true, decide_false, Bool.not_true, Bool.not_false, v1, cl, go_sem]; done)); simp only [Env.put]) | ((first | refine v_u rfl fun K hK => ?_ | refine v_g rfl fun K hK => ?_ | refine v_uD rfl fun K hK => ?_ | refine v_gD rfl fun K hK => ?_); simp only [pvT, bools_length, List.length_map, eq_self, decide_true, not_true_eq_false, not_false_eq_true, decide_false, Bool.not_true, Bool.not_false, v1, cl, go_sem]) | (first | (refine callK_pure (fun hc => hw) rfl ?_; simp only [upds, eq_self, true_or, true_and]) | (refine callK_pure (fun hc => hl) rfl ?_; simp only [upds, eq_self, true_or, true_and]) | (refine callK_pure (fun hc => hf) rfl ?_; simp only [upds, eq_self, true_or, true_and]) | (refine callK_pure (fun hc => hu) rfl ?_; simp only [upds, eq_self, true_or, true_and]) | refine v_yn ?_ | refine v_yseq ?_ | refine v_yr ?_) | refine v_end ?_ | refine v_endD (by kernel_rfl) ?_ | (refine hK _ _ ?_; clear hK K) | refine ⟨by (first | trivial | assumption | omega | (intros; first | assumption | omega)), ?_⟩ | (apply v_condb; (focus (simp only [pvT, bools_length, List.length_map, eq_self, decide_true, not_true_eq_false, not_false_eq_true, decide_false, Bool.not_true, Bool.not_false, v1, cl, go_sem]; first | exact pvt | exact pvf)); simp only [cond_true, cond_false]) | fail))
        (first | refine v_fin_n ?_ | refine v_fin_r ?_); simp only [ resK, one, PV.snap, go_sem]
        exact .refl _
end Go.V
