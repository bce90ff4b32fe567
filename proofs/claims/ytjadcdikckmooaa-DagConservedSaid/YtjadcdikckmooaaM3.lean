import Derived.Test.YtjadcdikckmooaaM2
import Derived.OrdersIn
import Derived.RangeFuncFrom
import Derived.RangeFuncCalls
import Derived.RangeFuncLeaves
import Derived.Sort.LoopGhostIn
import Derived.Deep.LoopGhost
import Derived.Scope
/- A part of a proof, with no condition of its own. Merged texts: VO VP VQ VRA VRB VRW VR VS VT. -/
/- The value logic, part 15: a region in whatever order. -/
set_option linter.unusedVariables false
set_option linter.unusedSimpArgs false
namespace Go.V
open Go.RowKit

section
variable {P : Program} {tt : TT} {ops : Array Oper} {bid : Nat}

/-- Whatever order is picked from here on. -/
def vAny (P : Program) (tt : TT) (ops : Array Oper) (bid : Nat) (fps : Nat → FP) (Q : E × Store → Prop) : Nat → Array Bool → E × Store → Prop
  | 0, listed, s => Region.ready .any ops listed = [] ∧ Q s
  | fuel + 1, listed, s => (Region.ready .any ops listed = [] → Q s) ∧
    ∀ i ∈ Region.ready .any ops listed, ∃ s', VStep P tt ops bid i s s' ∧ stepFP ops bid i s = fps i ∧ vAny P tt ops bid fps Q fuel (listed.setIfInBounds i true) s'

theorem vAny_first {fps : Nat → FP} {Q : E × Store → Prop} {i : Nat} {oi : Oper} (hi : ops[i]? = some oi) (dep : Nat → Bool)
    (hdep : ∀ (j : Nat) (oj : Oper), ops[j]? = some oj → dep j = true → ∃ e ∈ oj.after, Region.binds .any e = true ∧ (e.on = i ∨ dep e.on = true)) :
    ∀ (fuel : Nat) (listed : Array Bool) (s s1 : E × Store),
      (∀ (j : Nat) (oj : Oper), ops[j]? = some oj → j ≠ i → listed.getD j true = false → dep j = false → oi.apart ops oj = true ∧ FP.apart (fps i) (fps j) = true) →
      (∀ k, dep k = true → listed.getD k true = false) →
      i ∈ Region.ready .any ops listed → VStep P tt ops bid i s s1 → stepFP ops bid i s = fps i →
      vAny P tt ops bid fps Q fuel (listed.setIfInBounds i true) s1 → vAny P tt ops bid fps Q (fuel + 1) listed s := by
  intro fuel
  induction fuel with
  | zero =>
    intro listed s s1 _ _ hr hy hf H
    refine ⟨fun h => (by rw [h] at hr; cases hr), fun j hj => ?_⟩
    by_cases hji : j = i
    · subst hji; exact ⟨s1, hy, hf, H⟩
    · have := ready_mono hj hji
      rw [H.1] at this
      cases this
  | succ fuel ih =>
    intro listed s s1 hfree hun0 hr hy hf H
    refine ⟨fun h => (by rw [h] at hr; cases hr), fun j hj => ?_⟩
    by_cases hji : j = i
    · subst hji; exact ⟨s1, hy, hf, H⟩
    · obtain ⟨s2, hs2, hf2, hrest⟩ := H.2 j (ready_mono hj hji)
      obtain ⟨hjun, oj, hoj, hall⟩ := mem_ready.1 hj
      have hnot : dep j = false := by
        cases hd : dep j with
        | false => rfl
        | true =>
          exfalso
          obtain ⟨e, he, hb, hor⟩ := hdep j oj hoj hd
          have h1 := hall e he hb
          rcases hor with heq | heq
          · have h0 := (mem_ready.1 hr).1
            rw [heq] at h1
            rcases Nat.lt_or_ge i listed.size with h' | h'
            · simp [h'] at h0 h1; rw [h0] at h1; cases h1
            · simp [Array.getElem?_eq_none h'] at h1
          · have h0 := hun0 _ heq
            rcases Nat.lt_or_ge e.on listed.size with h' | h'
            · simp [h'] at h0 h1; rw [h0] at h1; cases h1
            · simp [Array.getElem?_eq_none h'] at h1
      obtain ⟨hap, hfp⟩ := hfree j oj hoj hji hjun hnot
      obtain ⟨s1', d1, d2, d3, d4⟩ := diamond hi hoj hap hfp hy hf hs2 hf2
      have hfree' : ∀ (k : Nat) (ok : Oper), ops[k]? = some ok → k ≠ i → (listed.setIfInBounds j true).getD k true = false →
          dep k = false → oi.apart ops ok = true ∧ FP.apart (fps i) (fps k) = true := fun k ok hk hki hun hno => by
        refine hfree k ok hk hki ?_ hno
        by_cases hjk : j = k
        · subst hjk; exact hjun
        · rw [getD_set_ne true hjk] at hun; exact hun
      have hun' : ∀ k, dep k = true → (listed.setIfInBounds j true).getD k true = false := fun k hk => by
        have hjk : j ≠ k := fun e => by rw [e, hk] at hnot; cases hnot
        rw [getD_set_ne true hjk]; exact hun0 k hk
      refine ⟨s1', d1, d2, ih (listed.setIfInBounds j true) s1' s2 hfree' hun' (ready_mono hr (Ne.symm hji)) d3 d4 ?_⟩
      rw [Array.setIfInBounds_comm _ _ hji]
      exact hrest

/-- In the order of the text. -/
def vLex (P : Program) (tt : TT) (ops : Array Oper) (bid : Nat) (Q : List FP → E × Store → Prop) : List Oper → Nat → E × Store → List FP → Prop
  | [], _, s, acc => Q acc.reverse s
  | _ :: rest, k, s, acc => ∃ s', VStep P tt ops bid k s s' ∧ vLex P tt ops bid Q rest (k + 1) s' (stepFP ops bid k s :: acc)

def vLexT (P : Program) (tt : TT) (ops : Array Oper) (bid : Nat) (fps : Nat → FP) (Q : E × Store → Prop) : List Oper → Nat → E × Store → Prop
  | [], _, s => Q s
  | _ :: rest, k, s => ∃ s', VStep P tt ops bid k s s' ∧ stepFP ops bid k s = fps k ∧ vLexT P tt ops bid fps Q rest (k + 1) s'

theorem vLex_table {Q : List FP → E × Store → Prop} : ∀ (l : List Oper) (k : Nat) (s : E × Store) (acc : List FP), acc.length = k → vLex P tt ops bid Q l k s acc →
    ∃ fps : List FP, fps.take k = acc.reverse ∧ vLexT P tt ops bid (fun i => fps.getD i ⟨false, [], []⟩) (Q fps) l k s
  | [], k, s, acc, hk, h => ⟨acc.reverse, by rw [List.take_of_length_le]; simp; omega, h⟩
  | o :: l, k, s, acc, hk, ⟨s', h1, h2⟩ => by
    obtain ⟨fps, hf, hL⟩ := vLex_table l (k + 1) s' _ (by simp; omega) h2
    have hk1 : fps[k]? = some (stepFP ops bid k s) := by
      have := congrArg (fun l => l[k]?) hf
      simp only [List.getElem?_take, Nat.lt_succ_self, if_true, List.reverse_cons] at this
      rw [this, List.getElem?_append_right (by simp; omega)]
      simp [hk]
    refine ⟨fps, ?_, s', h1, by simp [List.getD_eq_getElem?_getD, hk1], hL⟩
    have := congrArg (List.take k) hf
    rw [List.take_take, Nat.min_eq_left (by omega), List.reverse_cons, List.take_append_of_le_length (by simp; omega), List.take_of_length_le (l := acc.reverse) (by simp; omega)] at this
    exact this

/-- Which operations wait for the i-th, directly or through others. -/
def depL (i : Nat) : List Oper → List Bool → List Bool
  | [], acc => acc
  | o :: l, acc => depL i l (acc ++ [o.after.any fun e => Region.binds .any e && (e.on == i || acc.getD e.on false)])
theorem depL_prefix (i : Nat) : ∀ (l : List Oper) (acc : List Bool), ∃ r, depL i l acc = acc ++ r ∧ r.length = l.length
  | [], acc => ⟨[], by simp [depL], rfl⟩
  | o :: l, acc => by
    obtain ⟨r, h, hr⟩ := depL_prefix i l (acc ++ [o.after.any fun e => Region.binds .any e && (e.on == i || acc.getD e.on false)])
    exact ⟨_ :: r, by rw [depL, h, List.append_assoc]; rfl, by simp [hr]⟩
theorem depL_spec (i : Nat) : ∀ (l : List Oper) (acc : List Bool) (j : Nat) (oj : Oper), l[j]? = some oj → (depL i l acc).getD (acc.length + j) false = true →
    ∃ e ∈ oj.after, Region.binds .any e = true ∧ (e.on = i ∨ (depL i l acc).getD e.on false = true)
  | [], acc, j, oj, h, _ => by simp at h
  | o :: l, acc, 0, oj, h, hd => by
    simp at h
    subst h
    obtain ⟨r, hp, _⟩ := depL_prefix i l (acc ++ [o.after.any fun e => Region.binds .any e && (e.on == i || acc.getD e.on false)])
    rw [depL, hp] at hd ⊢
    rw [Nat.add_zero, List.append_assoc, List.getD_eq_getElem?_getD, List.getElem?_append_right (Nat.le_refl _)] at hd
    simp only [Nat.sub_self, List.cons_append, List.nil_append, List.getElem?_cons_zero, Option.getD_some] at hd
    obtain ⟨q, hq, h2⟩ := Array.any_eq_true.1 hd
    simp only [Bool.and_eq_true, Bool.or_eq_true, beq_iff_eq] at h2
    refine ⟨_, Array.getElem_mem hq, h2.1, h2.2.imp id fun h3 => ?_⟩
    have hlt : (o.after[q]).on < acc.length := Nat.lt_of_not_le fun hle => by
      rw [List.getD_eq_getElem?_getD, List.getElem?_eq_none hle] at h3
      cases h3
    rw [List.getD_eq_getElem?_getD, List.append_assoc, List.getElem?_append_left hlt, ← List.getD_eq_getElem?_getD]
    exact h3
  | o :: l, acc, j + 1, oj, h, hd => by
    have hl : acc.length + (j + 1) = (acc ++ [o.after.any fun e => Region.binds .any e && (e.on == i || acc.getD e.on false)]).length + j := by simp; omega
    rw [depL] at hd ⊢
    rw [hl] at hd
    exact depL_spec i l _ j oj (by simpa using h) hd

def freeC (ops : Array Oper) (fps : List FP) (listed : Array Bool) (i : Nat) : Bool :=
  match ops[i]? with
  | none => false
  | some oi => (List.range ops.size).all fun j => (j == i || listed.getD j true || match ops[j]? with
      | some oj => (depL i ops.toList []).getD j false || (oi.apart ops oj && FP.apart (fps.getD i ⟨false, [], []⟩) (fps.getD j ⟨false, [], []⟩))
      | none => true) && (!(depL i ops.toList []).getD j false || !listed.getD j true)

def lexFromC (ops : Array Oper) (fps : List FP) : Nat → Nat → Array Bool → Bool
  | 0, _, listed => (Region.ready .any ops listed).isEmpty
  | fuel + 1, k, listed => (Region.ready .any ops listed).contains k && freeC ops fps listed k && lexFromC ops fps fuel (k + 1) (listed.setIfInBounds k true)

/-- Every order comes to the same. -/
def regionOk (ops : Array Oper) (fps : List FP) : Bool := lexFromC ops fps ops.size 0 (Array.replicate ops.size false)

theorem freeC_spec {fps : List FP} {i : Nat} {oi : Oper} {listed : Array Bool} (hi : ops[i]? = some oi) (h : freeC ops fps listed i = true) :
    (∀ (j : Nat) (oj : Oper), ops[j]? = some oj → j ≠ i → listed.getD j true = false → (depL i ops.toList []).getD j false = false →
      oi.apart ops oj = true ∧ FP.apart (fps.getD i ⟨false, [], []⟩) (fps.getD j ⟨false, [], []⟩) = true) ∧ ∀ k, (depL i ops.toList []).getD k false = true → listed.getD k true = false := by
  simp only [freeC, hi, List.all_eq_true, List.mem_range] at h
  refine ⟨fun j oj hj hne hun hno => ?_, fun k hk => ?_⟩
  · have h1 := h j (Array.getElem?_eq_some_iff.1 hj).1
    simp only [hj, Bool.or_eq_true, beq_iff_eq, hne, false_or, hun, hno, Bool.false_eq_true, Bool.and_eq_true] at h1
    exact h1.1
  · have hlt : k < ops.size := Nat.lt_of_not_le fun hle => by
      obtain ⟨r, hp, hr⟩ := depL_prefix i ops.toList []
      rw [List.getD_eq_getElem?_getD, List.getElem?_eq_none (by rw [hp]; simp [hr]; omega)] at hk
      cases hk
    have h1 := h k hlt
    simp only [hk, Bool.and_eq_true, Bool.or_eq_true, Bool.not_eq_true', Bool.true_eq_false, false_or] at h1
    exact h1.2

theorem vAny_lex {fps : List FP} {Q : E × Store → Prop} : ∀ (l : List Oper) (k : Nat) (listed : Array Bool) (s : E × Store), (∀ j, l[j]? = ops[k + j]?) →
    lexFromC ops fps l.length k listed = true → vLexT P tt ops bid (fun i => fps.getD i ⟨false, [], []⟩) Q l k s → vAny P tt ops bid (fun i => fps.getD i ⟨false, [], []⟩) Q l.length listed s
  | [], _, _, _, _, hB, h => ⟨by simpa [lexFromC] using hB, h⟩
  | o :: l, k, listed, s, hl, hB, ⟨s', h1, h2, h3⟩ => by
    have h0 : ops[k]? = some o := by simpa using (hl 0).symm
    simp only [List.length_cons, lexFromC, Bool.and_eq_true] at hB
    obtain ⟨⟨hr, hf⟩, hB'⟩ := hB
    exact vAny_first h0 (fun j => (depL k ops.toList []).getD j false) (fun j oj hj hd => depL_spec k ops.toList [] j oj (by simpa using hj) (by simpa using hd)) l.length listed s s' (freeC_spec h0 hf).1 (freeC_spec h0 hf).2 (by simpa using hr) h1 h2
      (vAny_lex l (k + 1) _ _ (fun j => by have := hl (j + 1); simpa [Nat.add_assoc, Nat.add_comm 1 j] using this) hB' h3)
end

/-- No fence; in a round of a range over a function, or in none. -/
def FR (r : Option Nat) : Fence := { Fence.wide with round := r }
theorem FR_none : FR none = Fence.wide := rfl
theorem FR_some (l : Nat) : Fence.wide.inRound l = FR (some l) := rfl
theorem callsIn_FR {r : Option Nat} {n : Nat} {P : Program} {f : FuncId} {args : Array Value} {w : World} {R : Ending → World → Prop} : CallsIn (FR r) n P f args w R ↔ Calls P f args w R := by
  cases r with
  | none => exact callsIn_wide
  | some l => exact ⟨fun h => callsIn_wide.1 (CallsIn.outOfRound (F := Fence.wide) (l := l) h), fun h => CallsIn.inRound (F := Fence.wide) l (callsIn_wide.2 h)⟩

theorem Rep.turn {w w' : World} {B B' : Nat → Prop} {μ : Mu} {p : PV} {v : Value} (h : Rep w B μ p v) (hB : ∀ b, B b → B' b)
    (hc : ∀ (b : Nat) (o : Obj), w.heap[b]? = some o → o.isCells = true → w'.heap[b]? = some o) : Rep w' B' μ p v := by
  have hcell : ∀ (a : Addr) (u : Value), w.cell? a = some u → w'.cell? a = some u := fun a u ha => by
    obtain ⟨o, h1, h2⟩ := cells_of_cell ha
    exact (World.cell?_of_block ((hc _ _ h1 h2).trans h1.symm)).trans ha
  induction h with
  | undef => exact .undef _ _
  | bool => exact .bool _ _
  | int => exact .int _ _ _
  | str => exact .str _ _
  | agg μ cs vs hl h1 h ih => exact .agg _ _ _ hl h1 fun j p v hp hv => ih j p v hp hv
  | tup μ cs vs hl h ih => exact .tup _ _ _ hl fun j p v hp hv => ih j p v hp hv
  | nilS => exact .nilS _
  | slc0 => exact .slc0 _ _ _ _
  | slc μ sz es b off c hn hb vs hs h1 hcs hr ih =>
    exact .slc _ _ _ _ _ _ hn (hB _ hb) vs hs h1 (fun j hj => hcell _ _ (hcs j hj)) (fun j p hp => ih j p hp)
  | sref μ id sz lo n lim a c b base hm hn hl ha hcs =>
    refine .sref _ _ _ _ _ _ _ _ b base hm hn hl ha fun h => ?_
    obtain ⟨cs, T, h1, h2⟩ := hcs h
    exact ⟨cs, T, hc _ _ h1 rfl, h2⟩
  | ptr μ id sz i off b base hm => exact .ptr _ _ _ _ _ _ _ hm
  | vptr μ cs off b o hb vs h1 hcs hr ih =>
    exact .vptr _ _ _ _ _ (hB _ hb) vs h1 (fun j hj => hcell _ _ (hcs j hj)) (fun j p hp => ih j p hp)
  | nilP => exact .nilP _
  | fn μ f fs cs xs vs hl hl' h h' ih ih' => exact .fn _ _ _ _ _ _ hl hl' (fun j p v hp hv => ih j p v hp hv) (fun j p v hp hv => ih' j p v hp hv)
  | nilF => exact .nilF _
  | nilM => exact .nilM _
  | mref μ id b base hm => exact .mref _ _ _ _ hm
  | nilI => exact .nilI _
  | ifc μ t p v h ih => exact .ifc _ _ _ _ ih
  | cnd1 μ p v h ih => exact .cnd1 _ _ _ ih
  | cnd0 => exact .cnd0 _ _

/-- A block that holds no cells, and is nobody's, is turned. -/
theorem Sim.turn {w0 : World} {K : KA} {B0 : Nat → Prop} {g : Store} {μ : Mu} {w w' : World} {row : Option Nat} (h : Sim w0 K B0 g μ w) (hg : w.grownBy w' row)
    (hr : ∀ r, row = some r → (w0.heap.size ≤ r ∧ ¬ K.mks r ∧ ∃ o : Obj, w.heap[r]? = some o ∧ o.isCells = false) ∧ ¬ Own g μ r) :
    Sim w0 K B0 g μ w' ∧ Goes w0 B0 g μ w g μ w' := by
  have hc : ∀ (b : Nat) (o : Obj), w.heap[b]? = some o → o.isCells = true → w'.heap[b]? = some o := fun b o h1 h2 => by
    rw [hg.block b (Array.getElem?_eq_some_iff.1 h1).1 (fun e => by
      obtain ⟨⟨_, _, o', h3, h4⟩, _⟩ := hr b e.symm
      rw [h1] at h3; cases h3; rw [h2] at h4; cases h4)]
    exact h1
  have hst : ∀ b, Stab w0 B0 g μ w b → Stab w0 B0 g μ w' b := fun b ⟨h1, h2, h3⟩ => ⟨h1, by have := hg.size; omega, h3⟩
  have hG : Goes w0 B0 g μ w g μ w' := fun p v hp => hp.turn hst hc
  refine ⟨⟨h.inj, h.fresh, fun id b base hl hm => ?_, fun id b base hl hm => ?_, h.b0, hg.os.trans h.os, hg.tape.trans h.tape, hg.output.trans h.output, Nat.le_trans h.size hg.size, fun b hlt hk => ?_, fun b => (h.sized b).trans fun cs T hcs => ⟨cs, hc _ _ hcs rfl, rfl⟩, h.anch, fun D hD => ?_⟩, hG⟩
  · obtain ⟨h1, h2⟩ := h.blk id b base hl hm
    exact ⟨by have := hg.size; omega, h2⟩
  · have hO := h.obj id b base hl hm
    cases hcs : g id with
    | fresh => trivial
    | dead => trivial
    | row T sz es =>
      rw [hcs] at hO
      obtain ⟨cs, cap, h1, h2, h3, h4, h5⟩ := hO
      exact ⟨cs, cap, hc _ _ h1 rfl, h2, h3, h4, fun j p hp => let ⟨v, a, b, c⟩ := h5 j p hp; ⟨v, a, b, hG _ _ c⟩⟩
    | omap T es =>
      rw [hcs] at hO
      obtain ⟨h0, ms, clock, h1, h2, h3⟩ := hO
      have hb : w'.heap[b]? = w.heap[b]? := hg.block b (Array.getElem?_eq_some_iff.1 h1).1 (fun e => (hr b e.symm).2 ⟨id, base, hl, hm⟩)
      exact ⟨h0, ms, clock, by rw [hb]; exact h1, h2, fun j m e hm he => let ⟨a, b⟩ := h3 j m e hm he; ⟨hG _ _ a, hG _ _ b⟩⟩
  · rw [hg.block b (by have := h.size; omega) (fun e => by obtain ⟨⟨h1, _⟩, _⟩ := hr b e.symm; omega)]
    exact h.kept b hlt hk
  · rw [hg.block D (Array.getElem?_eq_some_iff.1 (h.marks D hD)).1 (fun e => (hr D e.symm).1.2.1 hD)]
    exact h.marks D hD

def KA.wm (K : KA) (m : Nat → Prop) : KA := ⟨K.kp, K.an, m⟩
theorem Sim.unmark {w0 : World} {K : KA} {B0 : Nat → Prop} {g : Store} {μ : Mu} {w : World} (h : Sim w0 K B0 g μ w) {m : Nat → Prop} (hm : ∀ D, m D → K.mks D) : Sim w0 (K.wm m) B0 g μ w :=
  ⟨h.inj, h.fresh, h.blk, h.obj, h.b0, h.os, h.tape, h.output, h.size, h.kept, h.sized, h.anch, fun D hD => h.marks D (hm D hD)⟩

/-- The marks that ranges over functions have left on an activation. -/
def Marks (w0 : World) (m : Nat → Prop) (ds : List Deferred) : Prop :=
  ∃ Ds : List Nat, Ds.Nodup ∧ (∀ D ∈ Ds, m D ∧ w0.heap.size ≤ D) ∧ ds = Ds.map fun D => ({ target := .collected D, args := #[] } : Deferred)
theorem Marks.nil (w0 : World) (m : Nat → Prop) : Marks w0 m [] := ⟨[], by simp, by simp, rfl⟩

section
variable {P : Program} {tt : TT} {w0 : World} {K : KA} {B0 : Nat → Prop} {N : Nat}

/-- The values and the store stand for the frame and the world. -/
def StRel (w0 : World) (K : KA) (B0 : Nat → Prop) (N : Nat) (s : E × Store) (a : Act) (w : World) : Prop :=
  ∃ m μ, Sim w0 (K.wm m) B0 s.2 μ w ∧ (∀ t, Rep w (Stab w0 B0 s.2 μ w) μ (s.1 t) (a.tmps.getD t Go.undef)) ∧ a.tmps.size = N ∧ Marks w0 m a.defers

theorem rep_eval {w : World} {B : Nat → Prop} {μ : Mu} {e : E} {a : Act} (h : ∀ t, Rep w B μ (e t) (a.tmps.getD t Go.undef)) (x : Operand) : Rep w B μ (e.eval x) (a.eval x) := by
  cases x with
  | tmp t => exact h t
  | const v => exact ofConst_rep v
  | global g => exact .undef _ _
  | func f => exact .fn _ _ _ _ _ _ rfl rfl (fun j p v hp => by simp at hp) (fun j p v hp => by simp at hp)

theorem Uns.reps {w : World} {B : Nat → Prop} {μ : Mu} {ρ : Operand → Value} : ∀ {ps qs : List PV}, Uns ps qs → ∀ {xs : List Operand}, Reps w B μ ρ ps xs → Reps w B μ ρ qs xs
  | _, _, .nil, xs, h => h
  | _, _, .cons (p := p) (q := q) (ps := ps) (qs := qs) hu hs, xs, ⟨hl, hr⟩ => by
    cases xs with
    | nil => simp at hl
    | cons x xs =>
      obtain ⟨hl', hr'⟩ := Uns.reps hs (xs := xs) ⟨by simpa using hl, fun j p y hp hy => hr (j + 1) p y (by simpa using hp) (by simpa using hy)⟩
      refine ⟨by simp; omega, fun j p' y hp hy => ?_⟩
      cases j with
      | zero =>
        simp at hp hy
        subst hp; subst hy
        exact rep_un (hr 0 p x rfl rfl) (by cases hu <;> simp)
      | succ j => exact hr' j p' y (by simpa using hp) (by simpa using hy)

theorem wanted_of {ops : Array Oper} {w : World} {B : Nat → Prop} {μ : Mu} {e : E} {a : Act} (h : ∀ t, Rep w B μ (e t) (a.tmps.getD t Go.undef)) {o : Oper} {c : Bool} (hg : Guarded ops e o c) : Region.wanted o (yielded ops a.tmps) = c := by
  unfold Guarded at hg
  unfold Region.wanted
  cases hgd : o.guard with
  | none => rw [hgd] at hg; exact hg.symm
  | some x =>
    obtain ⟨j, want⟩ := x
    rw [hgd] at hg
    simp only at hg ⊢
    cases ht : (ops[j]?).bind (·.dst) with
    | none => rw [ht] at hg; exact hg.elim
    | some t =>
      rw [ht] at hg
      simp only at hg
      have hr := h t
      have hget : ∀ v, a.tmps.getD t Go.undef = v → v ≠ Go.undef → a.tmps[t]? = some v := fun v hv hne => by
        rw [Array.getD_eq_getD_getElem?] at hv
        cases hq : a.tmps[t]? with
        | none => rw [hq] at hv; exact absurd hv.symm hne
        | some u => rw [hq] at hv; simpa using hv
      have hyield : ∀ z, a.tmps.getD t Go.undef = .bool z → yielded ops a.tmps j = some z := fun z hz => by
        unfold yielded
        simp only [ht, Option.bind_some, hget _ hz (by intro h; cases h)]
      have hundef : a.tmps.getD t Go.undef = Go.undef → yielded ops a.tmps j = none := fun hz => by
        unfold yielded
        simp only [ht, Option.bind_some]
        cases hq : a.tmps[t]? with
        | none => rfl
        | some u =>
          rw [Array.getD_eq_getD_getElem?, hq] at hz
          simp only [Option.getD_some] at hz
          subst hz
          rfl
      generalize e t = p at hg hr
      cases p <;> simp only [GCond] at hg
      case bool z =>
        rw [hyield z (rep_bool hr), hg]
        cases z <;> cases want <;> rfl
      case cnd c' q =>
        cases q <;> simp only [GCond] at hg
        rename_i z
        cases c' with
        | true =>
          have h2 : Rep w B μ (.bool z) (a.tmps.getD t Go.undef) := rep_un hr (.inr rfl)
          rw [hyield z (rep_bool h2), hg]
          cases z <;> cases want <;> rfl
        | false =>
          have h2 : a.tmps.getD t Go.undef = Go.undef := by
            generalize a.tmps.getD t Go.undef = v at hr
            cases hr; rfl
          rw [hundef h2, hg]
          rfl

theorem strel_put {s : E × Store} {a : Act} {w w' : World} {m : Nat → Prop} {μ μ' : Mu} {g' : Store} (hE : ∀ t, Rep w (Stab w0 B0 s.2 μ w) μ (s.1 t) (a.tmps.getD t Go.undef)) (hN : a.tmps.size = N) (hD : Marks w0 m a.defers)
    (hS : Sim w0 (K.wm m) B0 g' μ' w') (hG : Goes w0 B0 s.2 μ w g' μ' w') {dst : Option Nat} (hd : ∀ d, dst = some d → d < N) {v : PV} {val : Value} (hv : Rep w' (Stab w0 B0 g' μ' w') μ' v val) :
    StRel w0 K B0 N (s.1.put dst v, g') (a.put dst val) w' := by
  refine ⟨m, μ', hS, fun t => ?_, ?_, ?_⟩
  · cases dst with
    | none => exact hG _ _ (hE t)
    | some d =>
      have hlt : d < a.tmps.size := by rw [hN]; exact hd d rfl
      simp only [E.put, Act.put]
      by_cases ht : t = d
      · subst ht
        rw [if_pos rfl]
        have : (a.tmps.setIfInBounds t val).getD t Go.undef = val := by simp [Array.getD_eq_getD_getElem?, hlt]
        rw [this]; exact hv
      · rw [if_neg ht]
        have : (a.tmps.setIfInBounds d val).getD t Go.undef = a.tmps.getD t Go.undef := by
          rw [Array.getD_eq_getD_getElem?, Array.getD_eq_getD_getElem?, Array.getElem?_setIfInBounds_ne (Ne.symm ht)]
        rw [this]
        exact hG _ _ (hE t)
  · cases dst <;> simp [Act.put, hN]
  · cases dst <;> exact hD

theorem VStep.wpOp {r : Option Nat} {m : Nat} (htt : TTOk P tt) {ops : Array Oper} {bid i : Nat} {s s' : E × Store} {a : Act} {w : World} (hdst : ∀ (o : Oper) (d : Nat), ops[i]? = some o → o.dst = some d → d < N) (hst : StRel w0 K B0 N s a w)
    (hstep : VStep P tt ops bid i s s') {Q : Exit → Act → World → Prop} {Kc : Act → World → Prop} (hK : ∀ a' w', StRel w0 K B0 N s' a' w' → Kc a' w') : Go.wpOpIn (FR r) m P ops Q i Kc a w := by
  obtain ⟨mm, μ, hS, hE, hN, hD⟩ := hst
  unfold VStep at hstep
  unfold Go.wpOpIn
  cases ho : ops[i]? with
  | none => rw [ho] at hstep; simp only at hstep; subst hstep; exact hK _ _ ⟨mm, μ, hS, hE, hN, hD⟩
  | some o =>
    rw [ho] at hstep
    simp only at hstep
    obtain ⟨c, v, u, hg, hx, hn, rfl⟩ := hstep
    simp only
    have hw := wanted_of hE hg
    have hd := fun d => hdst o d ho
    cases c with
    | true =>
      rw [if_pos hw]
      refine ⟨fun _ _ => trivial, ?_⟩
      obtain ⟨vals', hu, he⟩ := hx rfl
      have hreps : Reps w (Stab w0 B0 s.2 μ w) μ a.eval (s.1.vals o) o.op.operands.toList := by
        refine ⟨by simp [E.vals], fun j p x hp hxx => ?_⟩
        simp only [E.vals, List.getElem?_map, hxx, Option.map_some, Option.some.injEq] at hp
        subst hp
        exact rep_eval hE x
      have hreps' := hu.reps hreps
      have hwrap : ∀ {w' : World} {B : Nat → Prop} {μ' : Mu} {val : Value}, Rep w' B μ' v val → Rep w' B μ' (wrap o true v) val := fun h => by
        unfold wrap
        split
        · exact h
        · exact .cnd1 _ _ _ h
      rcases he with he | he
      · obtain ⟨val, w', μ', hr, hS', hrep, hG⟩ := VOp.sound htt hS hreps' he
        have hnd : ∀ c, o.op ≠ .defer c := fun c hc => by rw [hc] at he; cases he
        rw [Oper.semAt_eq _ _ _ hnd]
        rcases hr with hr | ⟨hr, hval⟩
        · rw [hr, Oper.uponIn_value]
          exact hK _ _ (strel_put hE hN hD hS' hG hd (hwrap hrep))
        · rw [hr, Oper.uponIn_skip, ← hval]
          exact hK _ _ (strel_put hE hN hD hS' hG hd (hwrap hrep))
      · obtain ⟨k, args, hr, hcall⟩ := VCall.sound hS hreps' he
        have hnd : ∀ c, o.op ≠ .defer c := fun c hc => by rw [hc] at he; cases he
        rw [Oper.semAt_eq _ _ _ hnd, hr, Oper.uponIn_enter]
        refine ⟨fun h => (by cases h), callsIn_FR.2 (hcall.mono fun e w' ⟨val, μ', he', hS', hG, hrep⟩ => ?_)⟩
        subst he'
        exact hK _ _ (strel_put hE hN hD hS' hG hd (hwrap hrep))
    | false =>
      rw [if_neg (by rw [hw]; simp)]
      refine ⟨fun _ _ => trivial, ?_⟩
      have hu0 := hn rfl
      subst hu0
      have hgs : o.guard.isNone = false := by
        unfold Guarded at hg
        cases hgd : o.guard with
        | none => rw [hgd] at hg; cases hg
        | some x => rfl
      have : wrap o false v = .cnd false v := by unfold wrap; rw [hgs]; rfl
      rw [this] at hK
      exact hK _ _ (strel_put hE hN hD hS .refl hd (.cnd0 _ _))

/-- A region, its operations in the order of the text; if the model draws their order: every order comes to the same. -/
theorem region_sound {r : Option Nat} {m : Nat} (htt : TTOk P tt) (hm : P.follows .mixedOrders = true) {id bid : Nat} {ops : Array Oper} {draw : Bool} (hdst : ∀ (i : Nat) (o : Oper) (d : Nat), ops[i]? = some o → o.dst = some d → d < N) {s : E × Store} {a : Act} {w : World}
    (hst : StRel w0 K B0 N s a w) {Q : Exit → Act → World → Prop} {QV : E × Store → Prop} (hQ : ∀ s' a' w', QV s' → StRel w0 K B0 N s' a' w' → Q .normal a' w')
    (h : vLex P tt ops bid (fun fps s' => (draw = true → regionOk ops fps = true) ∧ QV s') ops.toList 0 s []) : (Code.region id ops draw).wpIn (FR r) m P Q a w := by
  obtain ⟨fps, _, hT⟩ := vLex_table ops.toList 0 s [] rfl h
  cases draw with
  | false =>
    refine wpIn_region ?_
    have key : ∀ (l : List Oper) (k : Nat) (s : E × Store) (a : Act) (w : World), k + l.length = ops.size → StRel w0 K B0 N s a w → vLexT P tt ops bid (fun i => fps.getD i ⟨false, [], []⟩) (fun s' => (false = true → regionOk ops fps = true) ∧ QV s') l k s →
        wpOpsIn (FR r) m P ops Q ((List.range' k l.length)) a w := by
      intro l
      induction l with
      | nil => intro k s a w _ hs hT; exact hQ _ _ _ hT.2 hs
      | cons o l ih =>
        intro k s a w hk hs hT
        obtain ⟨s', h1, _, h3⟩ := hT
        rw [List.length_cons, List.range'_succ, wpOpsIn_cons]
        exact h1.wpOp htt (fun o d ho hd => hdst k o d ho hd) hs (fun a' w' hs' => ih (k + 1) s' a' w' (by simp at hk; omega) hs' h3)
    have := key ops.toList 0 s a w (by simp) hst hT
    rw [List.range_eq_range']
    simpa using this
  | true =>
    have hst' : StRel w0 K B0 N s a { w with drawn := w.drawn + 1 } := by
      obtain ⟨mm, μ, hS, hE, hN, hD⟩ := hst
      obtain ⟨hS', hG⟩ := hS.drew
      exact ⟨mm, μ, hS', fun t => hG _ _ (hE t), hN, hD⟩
    refine wpIn_region_any hm ?_
    have hok : regionOk ops fps = true := by
      have : ∀ (l : List Oper) (k : Nat) (s : E × Store), vLexT P tt ops bid (fun i => fps.getD i ⟨false, [], []⟩) (fun s' => (true = true → regionOk ops fps = true) ∧ QV s') l k s → regionOk ops fps = true := by
        intro l
        induction l with
        | nil => intro k s h; exact h.1 rfl
        | cons o l ih => intro k s h; obtain ⟨s', _, _, h3⟩ := h; exact ih _ _ h3
      exact this _ _ _ hT
    have hany := vAny_lex (P := P) (tt := tt) (ops := ops) (bid := bid) (fps := fps) ops.toList 0 (Array.replicate ops.size false) s (by simp) (by simpa [regionOk] using hok) hT
    have key : ∀ (fuel : Nat) (listed : Array Bool) (s : E × Store) (a : Act) (w : World), StRel w0 K B0 N s a w →
        vAny P tt ops bid (fun i => fps.getD i ⟨false, [], []⟩) (fun s' => (true = true → regionOk ops fps = true) ∧ QV s') fuel listed s → wpAnyIn (FR r) m P .any ops Q fuel listed a w := by
      intro fuel
      induction fuel with
      | zero => intro listed s a w hs h; exact ⟨h.1, hQ _ _ _ h.2.2 hs⟩
      | succ fuel ih =>
        intro listed s a w hs h
        refine ⟨fun h0 => hQ _ _ _ (h.1 h0).2 hs, fun i hi => ?_⟩
        obtain ⟨s', h1, _, h3⟩ := h.2 i hi
        exact h1.wpOp htt (fun o d ho hd => hdst i o d ho hd) hs (fun a' w' hs' => ih _ s' a' w' hs' h3)
    have := key _ _ _ _ _ hst' hany
    simpa using this
end
end Go.V
/- The value logic, part 16: weakest preconditions, computed. -/
set_option linter.unusedVariables false
set_option linter.unusedSimpArgs false
namespace Go.V
open Go.RowKit

theorem Env.get_put (env : Env) (dst : Option Nat) (p : PV) : (env.put dst p).get = E.put env.get dst p := by
  funext t
  cases dst with
  | none => rfl
  | some d =>
    simp only [Env.put, Env.get, E.put]
    by_cases h : d = t
    · subst h; simp
    · rw [if_neg h, if_neg (Ne.symm h)]

theorem Env.eval_get (env : Env) (x : Operand) : env.eval x = E.eval env.get x := by cases x <;> rfl

abbrev KV := PV → List (Nat × SC) → Prop

def uns (c : Bool) : List PV → (List PV → Prop) → Prop
  | [], K => K []
  | p :: ps, K => unc c p fun q => uns c ps fun qs => K (q :: qs)

/-- The condition of an operation, and what follows. -/
def need (c : Bool) (φ K : Prop) : Prop := (c = true → φ) ∧ K

def kMove (vals : List PV) (K : KV) : Prop := match vals with | [p] => K p [] | _ => False

def kPick (c : Bool) (vals : List PV) (K : KV) : Prop :=
  match vals with
  | [.bool β, p, q] => unc (c && β) p fun p' => unc (c && !β) q fun q' => K (PV.ite β p' q') []
  | [.cnd c' (.bool β), p, q] => need c (c' = true) (unc (c && β) p fun p' => unc (c && !β) q fun q' => K (PV.ite β p' q') [])
  | _ => False

def kAlloc (tt : TT) (c : Bool) (T : TypeId) (g : Store) (fid : Nat) (K : KV) : Prop :=
  match tt T with
  | some i => need c (Free g fid) (K (.ptr fid i.size 0 0) [(fid, .row T i.size [elemOf i i.zero])])
  | none => False

def kBox (tt : TT) (c : Bool) (T : TypeId) (vals : List PV) (g : Store) (fid : Nat) (K : KV) : Prop :=
  match tt T, vals with
  | some i, [p] => need c (Free g fid ∧ p.cells.length = i.size ∧ p.storable = true) (K (.ptr fid i.size 0 0) [(fid, .row T i.size [p])])
  | _, _ => False

def kFill (c : Bool) (place : Nat → Option (Nat × Nat)) (cs : List PV) (ps : List (Nat × PV)) (K : KV) : Prop :=
  match fillP place cs ps with
  | some cs => K (.agg cs) []
  | none => False

def kBuild (tt : TT) (c : Bool) (T : TypeId) (parts : List Nat) (vals : List PV) (K : KV) : Prop :=
  match tt T with
  | some i => need c (vals.length = parts.length) (match i.kind with
    | .agg fs => kFill c (fun f => (fs[f]?).map fun x => (x.1, x.2.2)) i.zero (parts.zip vals) K
    | .arr _ e => match tt e with
      | some ie => kFill c (fun f => some (f * ie.size, ie.size)) i.zero (parts.zip vals) K
      | none => False
    | _ => False)
  | none => False

def kBuildSlice (tt : TT) (c : Bool) (T : TypeId) (len : Nat) (parts : List Nat) (vals : List PV) (g : Store) (fid : Nat) (K : KV) : Prop :=
  match tt T with
  | some i => match i.kind with
    | .slc e => match tt e with
      | some ie => need c (vals.length = parts.length ∧ 0 < ie.size ∧ len * ie.size ≤ 16777216 ∧ Free g fid)
        (match fillE ie.size (List.replicate len (elemOf ie ie.zero)) (parts.zip vals) with
        | some es => K (.sref fid ie.size 0 len false) [(fid, .row e ie.size es)]
        | none => False)
      | none => False
    | _ => False
  | none => False

def kLoad (tt : TT) (c : Bool) (T : TypeId) (vals : List PV) (g : Store) (K : KV) : Prop :=
  match tt T, vals with
  | some ti, [.ptr id sz i off] => match g id with
    | .row _ sz' es => need c (sz' = sz ∧ i < es.length ∧ off + ti.size ≤ sz) (K (ofCells ti.kind.isAgg ti.size (es.getD i .undef).cells off) [])
    | _ => False
  | some ti, [.vptr cs off] => need c (off + ti.size ≤ cs.length) (K (ofCells ti.kind.isAgg ti.size cs off) [])
  | _, _ => False

def kStore (tt : TT) (c : Bool) (T : TypeId) (vals : List PV) (g : Store) (K : KV) : Prop :=
  match tt T, vals with
  | some ti, [.ptr id sz i off, p] => match g id with
    | .row T' sz' es => need c (sz' = sz ∧ i < es.length ∧ off + ti.size ≤ sz ∧ p.cells.length = ti.size ∧ 0 < ti.size ∧ p.storable = true) (K .undef [(id, .row T' sz' (es.set i ((es.getD i .undef).setCells off p)))])
    | _ => False
  | _, _ => False

def kNilCheck (vals : List PV) (K : KV) : Prop :=
  match vals with
  | [.ptr id sz i off] => K (.ptr id sz i off) []
  | [.vptr cs off] => K (.vptr cs off) []
  | [.fn f fs cs] => K (.fn f fs cs) []
  | _ => False

def kBin (tt : TT) (c : Bool) (op : BinOp) (T : TypeId) (vals : List PV) (K : KV) : Prop :=
  match vals with
  | [.int k a, .int k' b] => need c (intVC op k k' b) (K (intOp op k a b) [])
  | [.bool a, .bool b] => match tt T with
    | some i => match i.kind, op with
      | .bool, .eql => K (.bool (a == b)) []
      | .bool, .neq => K (.bool (!(a == b))) []
      | _, _ => False
    | none => False
  | [.str a, .str b] => match op with
    | .eql => K (.bool (a.toList == b.toList)) []
    | .neq => K (.bool !(a.toList == b.toList)) []
    | .add => need c (((a.size + b.size : Nat) : Int) ≤ IntKind.i64.max) (K (.str (a ++ b)) [])
    | _ => False
  | [.ptr _ _ _ _, .nilP] => match tt T with
    | some i => match i.kind, op with
      | .ptr _, .eql => K (.bool false) []
      | .ptr _, .neq => K (.bool true) []
      | _, _ => False
    | none => False
  | [.vptr _ _, .nilP] => match tt T with
    | some i => match i.kind, op with
      | .ptr _, .eql => K (.bool false) []
      | .ptr _, .neq => K (.bool true) []
      | _, _ => False
    | none => False
  | _ => False

def kUn (op : UnOp) (vals : List PV) (K : KV) : Prop :=
  match op, vals with
  | .not, [.bool b] => K (.bool !b) []
  | .neg, [.int k a] => K (intOp .sub k 0 a) []
  | .xor, [.int k a] => K (intOp .xor k (if k.signed then -1 else k.max) a) []
  | _, _ => False

def kConvert (tt : TT) (src dst : TypeId) (vals : List PV) (c : Bool) (K : KV) : Prop :=
  match tt src, tt dst, vals with
  | some i, some j, [.int k n] => match i.kind, j.kind with
    | .int k0, .int k' => need c (k0 = k) (K (.int k' (k'.wrap n)) [])
    | _, _ => False
  | _, _, _ => False

def kMakeFunc (c : Bool) (f : Fn) (first cap : Nat) (vals : List PV) (K : KV) : Prop :=
  match f with
  | .func f => need c (vals.length = first + cap) (K (.fn f (vals.take first) (vals.drop first)) [])
  | _ => False

def kMakeSlice (tt : TT) (c : Bool) (T : TypeId) (vals : List PV) (g : Store) (fid : Nat) (K : KV) : Prop :=
  match tt T, vals with
  | some i, [.int _ n, .int _ m] => match i.kind with
    | .slc e => match tt e with
      | some ie => need c (Free g fid ∧ 0 ≤ n ∧ n ≤ m ∧ m.toNat * ie.bytes ≤ 140737488355328 ∧ m ≤ 140737488355328) (K (.sref fid ie.size 0 n.toNat false) [(fid, .row e ie.size (List.replicate n.toNat (elemOf ie ie.zero)))])
      | none => False
    | _ => False
  | _, _ => False

def kCut (c : Bool) (sz : Nat) (x : PV) (L H M : Option PV) (K : KV) : Prop :=
  match x, M with
  | .sref id sz' o n lim, none => match bound 0 L, bound n H with
    | some l, some h => need c (sz = sz' ∧ 0 ≤ l ∧ l ≤ h ∧ h ≤ n ∧ (lim = true → h = n)) (K (.sref id sz' (o + l.toNat) (h - l).toNat lim) [])
    | _, _ => False
  | .sref id sz' o n lim, some M => match bound 0 L, bound n H, bound n (some M) with
    | some l, some h, some m => need c (sz = sz' ∧ 0 ≤ l ∧ l ≤ h ∧ h ≤ n ∧ m = h) (K (.sref id sz' (o + l.toNat) (h - l).toNat true) [])
    | _, _, _ => False
  | .slc sz' es, none => match bound 0 L, bound es.length H with
    | some l, some h => need c (sz = sz' ∧ 0 ≤ l ∧ l ≤ h ∧ h ≤ es.length) (K (.slc sz' ((es.drop l.toNat).take (h - l).toNat)) [])
    | _, _ => False
  | _, _ => False

def kSlice (tt : TT) (c : Bool) (T : TypeId) (lo hi mx : Bool) (vals : List PV) (K : KV) : Prop :=
  match tt T with
  | some i => match i.kind with
    | .slc e => match tt e with
      | some ie => match sliceArgs lo hi mx vals with
        | some (x, L, H, M) => kCut c ie.size x L H M K
        | none => False
      | none => False
    | _ => False
  | none => False

def kFieldAddr (tt : TT) (c : Bool) (T : TypeId) (f : Nat) (vals : List PV) (K : KV) : Prop :=
  match tt T with
  | some ti => match ti.kind with
    | .agg fs => match fs[f]?, vals with
      | some (o, _, fz), [.ptr id sz i off] => need c (fz ≠ 0) (K (.ptr id sz i (off + o)) [])
      | some (o, _, fz), [.vptr cs off] => need c (fz ≠ 0) (K (.vptr cs (off + o)) [])
      | _, _ => False
    | _ => False
  | none => False

def kField (tt : TT) (c : Bool) (T : TypeId) (f : Nat) (vals : List PV) (K : KV) : Prop :=
  match tt T with
  | some ti => match ti.kind with
    | .agg fs => match fs[f]?, vals with
      | some (o, ft, _), [.agg cs] => match tt ft with
        | some fi => need c (o + fi.size ≤ cs.length) (K (ofCells fi.kind.isAgg fi.size cs o) [])
        | none => False
      | _, _ => False
    | _ => False
  | none => False

def kIndexAddr (tt : TT) (c : Bool) (T : TypeId) (vals : List PV) (K : KV) : Prop :=
  match tt T with
  | some ti => match ti.kind, vals with
    | .slc e, [.slc sz es, .int _ n] => match tt e with
      | some ie => need c (ie.size = sz ∧ 0 ≤ n ∧ n < es.length) (K (.vptr (es.getD n.toNat .undef).cells 0) [])
      | none => False
    | .slc e, [.sref id sz lo m lim, .int _ n] => match tt e with
      | some ie => need c (ie.size = sz ∧ 0 ≤ n ∧ n < m) (K (.ptr id sz (lo + n.toNat) 0) [])
      | none => False
    | .arr len e, [.ptr id sz i off, .int _ n] => match tt e with
      | some ie => need c (0 ≤ n ∧ n < len) (K (.ptr id sz i (off + n.toNat * ie.size)) [])
      | none => False
    | .arr len e, [.vptr cs off, .int _ n] => match tt e with
      | some ie => need c (0 ≤ n ∧ n < len) (K (.vptr cs (off + n.toNat * ie.size)) [])
      | none => False
    | _, _ => False
  | none => False

def kIndex (tt : TT) (c : Bool) (T : TypeId) (vals : List PV) (K : KV) : Prop :=
  match tt T with
  | some ti => match ti.kind, vals with
    | .arr len e, [.agg cs, .int _ n] => match tt e with
      | some ie => need c (0 ≤ n ∧ n < len ∧ n.toNat * ie.size + ie.size ≤ cs.length) (K (ofCells ie.kind.isAgg ie.size cs (n.toNat * ie.size)) [])
      | none => False
    | .str, [.str s, .int _ n] => need c (0 ≤ n ∧ n < s.size) (K (.int .u8 ((s.data.getD n.toNat 0).toNat)) [])
    | _, _ => False
  | none => False

def kExtract (vals : List PV) (ix : Nat) (K : KV) : Prop :=
  match vals with
  | [.tup vs] => match vs[ix]? with
    | some p => K p []
    | none => False
  | _ => False

def kLen (tt : TT) (Ts : List TypeId) (vals : List PV) (K : KV) : Prop :=
  match Ts, vals with
  | [T], [p] => match tt T with
    | some ti => match ti.kind, p with
      | .slc _, .slc _ es => K (.int .i64 es.length) []
      | .slc _, .sref _ _ _ n _ => K (.int .i64 n) []
      | .slc _, .nilS => K (.int .i64 0) []
      | .str, .str s => K (.int .i64 s.size) []
      | _, _ => False
    | none => False
  | _, _ => False

def kMin (vals : List PV) (c : Bool) (K : KV) : Prop :=
  match vals with
  | [.int k x, .int k' y] => need c (k = k') (K (.int k (if y < x then y else x)) [])
  | _ => False
def kMax (vals : List PV) (c : Bool) (K : KV) : Prop :=
  match vals with
  | [.int k x, .int k' y] => need c (k = k') (K (.int k (if y > x then y else x)) [])
  | _ => False

/-- append(s, xs), xs not empty; the store's row of s as 'o'. -/
def kAppendTo (e : Nat) (ie : TI) (s : PV) (xs : List PV) (sz' : Nat) (g : Store) (fid : Nat) (K : KV) : Prop :=
  match s with
  | .nilS => need true (sz' = ie.size ∧ Free g fid ∧ xs.length * ie.bytes ≤ 140737488355328 ∧ xs.length ≤ 140737488355328) (K (.sref fid ie.size 0 xs.length false) [(fid, .row e ie.size xs)])
  | .sref id sz lo n lim => match g id with
    | .row T0 sz0 es =>
      need true (sz0 = sz ∧ ie.size = sz ∧ sz' = sz ∧ 0 < sz ∧ lo + n ≤ es.length ∧ T0 = e ∧ Free g fid ∧ fid ≠ id ∧ (n + xs.length) * ie.bytes ≤ 140737488355328 ∧ n + xs.length ≤ 140737488355328)
        (if lim = true then K (.sref fid sz 0 (n + xs.length) false) [(fid, .row e sz ((es.drop lo).take n ++ xs))]
         else if lo + n + xs.length ≤ es.length then K (.sref id sz lo (n + xs.length) false) [(id, .row T0 sz (es.take (lo + n) ++ xs ++ es.drop (lo + n + xs.length)))]
         else K (.sref fid sz 0 (n + xs.length) false) [(id, .dead), (fid, .row e sz ((es.drop lo).take n ++ xs))])
    | _ => False
  | _ => False

def kAppend (tt : TT) (Ts : List TypeId) (vals : List PV) (g : Store) (fid : Nat) (K : KV) : Prop :=
  match Ts, vals with
  | [T, T'], [s, q] => match tt T with
    | some i => match i.kind with
      | .slc e => match tt e with
        | some ie => match contents g q with
          | some (sz', xs) => T' = T ∧ xs ≠ [] ∧ kAppendTo e ie s xs sz' g fid K
          | none => False
        | none => False
      | _ => False
    | none => False
  | _, _ => False

/-- A call of a function of Go: behind a name, its contract is handed in. -/
def callK (P : Program) (c : Bool) (k : FuncId) (args : List PV) (g : Store) (fid : Nat) (ok : Bool) (K : KV) : Prop :=
  (PV.refsL args = [] ∧ ∃ r, (c = true → Good P k args r) ∧ K r []) ∨ (∃ r, r.plain = true ∧ (c = true → Good P k (args.map (PV.snap g 6)) r) ∧ K r []) ∨
    (∃ r T sz es, c = true ∧ ok = true ∧ Free g fid ∧ GoodF P k args r T sz es ∧ K (r fid) [(fid, .row T sz es)])

theorem callK_pure {P : Program} {c : Bool} {k : FuncId} {args : List PV} {g : Store} {fid : Nat} {ok : Bool} {K : KV} {r : PV} (h : c = true → Good P k args r) (hr : PV.refsL args = []) (hk : K r []) : callK P c k args g fid ok K := .inl ⟨hr, r, h, hk⟩
theorem callK_lent {P : Program} {c : Bool} {k : FuncId} {args args' : List PV} {g : Store} {fid : Nat} {ok : Bool} {K : KV} {r : PV} (h : c = true → Good P k args' r) (ha : args.map (PV.snap g 6) = args') (hr : r.plain = true) (hk : K r []) : callK P c k args g fid ok K := .inr (.inl ⟨r, hr, by rw [ha]; exact h, hk⟩)
theorem callK_made {P : Program} {k : FuncId} {args : List PV} {g : Store} {fid : Nat} {K : KV} {r : Nat → PV} {T sz : Nat} {es : List PV} (h : GoodF P k args r T sz es) (hf : Free g fid) (hk : K (r fid) [(fid, .row T sz es)]) : callK P true k args g fid true K := .inr (.inr ⟨r, T, sz, es, rfl, rfl, hf, h, hk⟩)

def kCall (P : Program) (tt : TT) (c : Bool) (cl : Call) (vals : List PV) (g : Store) (fid : Nat) (K : KV) : Prop :=
  match cl.callee with
  | .builtin .len => kLen tt cl.argTypes.toList vals K
  | .builtin .min => kMin vals c K
  | .builtin .max => kMax vals c K
  | .builtin .append => need true (c = true) (kAppend tt cl.argTypes.toList vals g fid K)
  | .value _ => match vals with
    | .fn k fs cap :: args => callK P c k (fs ++ args ++ cap) g fid (PV.refsL (.fn k fs cap :: args)).isEmpty K
    | _ => False
  | _ => False

/-- Maps with numbers as keys. -/
def mapK (tt : TT) (T : TypeId) (K : IntKind → TI → Prop) : Prop :=
  match tt T with
  | some ti => match ti.kind with
    | .map kt et => match tt kt, tt et with
      | some ki, some ei => match ki.kind with
        | .int k => K k ei
        | _ => False
      | _, _ => False
    | _ => False
  | none => False
def kMakeMap (tt : TT) (c : Bool) (T : TypeId) (g : Store) (fid : Nat) (K : KV) : Prop := mapK tt T fun _ _ => (c = true → Free g fid) ∧ K (.mref fid) [(fid, .omap T [])]
def kLookup (tt : TT) (c : Bool) (T : TypeId) (cm : Bool) (vals : List PV) (g : Store) (K : KV) : Prop :=
  match vals with
  | [.mref id, .int k n] => match g id with
    | .omap _ es => mapK tt T fun k' ei => (c = true → k = k' ∧ IntKeys k es) ∧ K (found ei cm (mapFind es n)) []
    | _ => False
  | _ => False
def kMapPut (tt : TT) (c : Bool) (T : TypeId) (vals : List PV) (g : Store) (K : KV) : Prop :=
  match vals with
  | [.mref id, .int k n, p] => match g id with
    | .omap T' es => mapK tt T fun k' _ => (c = true → k = k' ∧ IntKeys k es) ∧ K .undef [(id, .omap T' (mapPut es k n p))]
    | _ => False
  | _ => False

def execK (P : Program) (tt : TT) (c : Bool) (op : Op) (vals : List PV) (g : Store) (fid : Nat) (K : KV) : Prop :=
  match op with
  | .move _ => uns c vals fun vals => kMove vals K
  | .assign _ => uns c vals fun vals => kMove vals K
  | .pick .. => kPick c vals K
  | .alloc T => match vals with | [] => kAlloc tt c T g fid K | _ => False
  | .box T _ => uns c vals fun vals => kBox tt c T vals g fid K
  | .build T parts => uns c vals fun vals => kBuild tt c T (parts.toList.map (·.1)) vals K
  | .buildSlice T len parts => uns c vals fun vals => kBuildSlice tt c T len (parts.toList.map (·.1)) vals g fid K
  | .load T _ => uns c vals fun vals => kLoad tt c T vals g K
  | .store T _ _ => uns c vals fun vals => kStore tt c T vals g K
  | .nilCheck _ => uns c vals fun vals => kNilCheck vals K
  | .binOp op T _ _ _ => uns c vals fun vals => kBin tt c op T vals K
  | .unOp op _ _ => uns c vals fun vals => kUn op vals K
  | .convert src dst _ => uns c vals fun vals => kConvert tt src dst vals c K
  | .makeFunc f first cap => uns c vals fun vals => kMakeFunc c f first.size cap.size vals K
  | .makeSlice T _ _ => uns c vals fun vals => kMakeSlice tt c T vals g fid K
  | .slice T _ lo hi mx => uns c vals fun vals => kSlice tt c T lo.isSome hi.isSome mx.isSome vals K
  | .fieldAddr T _ f => uns c vals fun vals => kFieldAddr tt c T f vals K
  | .field T _ f => uns c vals fun vals => kField tt c T f vals K
  | .indexAddr T _ _ => uns c vals fun vals => kIndexAddr tt c T vals K
  | .index T _ _ => uns c vals fun vals => kIndex tt c T vals K
  | .extract _ ix => uns c vals fun vals => kExtract vals ix K
  | .makeMap T none => match vals with | [] => kMakeMap tt c T g fid K | _ => False
  | .lookup T _ _ cm => uns c vals fun vals => kLookup tt c T cm vals g K
  | .mapUpdate T _ _ _ => uns c vals fun vals => kMapPut tt c T vals g K
  | .insert T _ _ _ => uns c vals fun vals => kMapPut tt c T vals g K
  | .call cl => uns c vals fun vals => kCall P tt c cl vals g fid K
  | _ => False

theorem unc_sound {c : Bool} {p : PV} {K : PV → Prop} (h : unc c p K) : ∃ q, (c = true → Un p q) ∧ K q := by
  unfold unc at h
  split at h
  · rename_i c' q
    exact ⟨q, fun hc => by rw [h.1 hc]; exact .cnd q, h.2⟩
  · exact ⟨_, fun _ => .same _, h⟩

theorem uns_sound {c : Bool} : ∀ {vals : List PV} {K : List PV → Prop}, uns c vals K → ∃ vals', (c = true → Uns vals vals') ∧ K vals'
  | [], K, h => ⟨[], fun _ => .nil, h⟩
  | p :: ps, K, h => by
    obtain ⟨q, h1, h2⟩ := unc_sound h
    obtain ⟨qs, h3, h4⟩ := uns_sound h2
    exact ⟨q :: qs, fun hc => .cons (h1 hc) (h3 hc), h4⟩

end Go.V
/- The value logic, part 17: the computed conditions suffice. -/
set_option linter.unusedVariables false
set_option linter.unusedSimpArgs false
namespace Go.V
open Go.RowKit

section
variable {P : Program} {tt : TT} {c : Bool} {g : Store} {fid : Nat} {K : KV} {vals : List PV}

theorem kMove_sound (h : kMove vals K) : ∃ v, (∀ x, VOp tt g fid (.move x) vals v [] ∧ VOp tt g fid (.assign x) vals v []) ∧ K v [] := by
  unfold kMove at h
  split at h
  · exact ⟨_, fun x => ⟨.move x _, .assign x _⟩, h⟩
  · exact h.elim

theorem kPick_sound {a b d : Operand} (h : kPick c vals K) : ∃ v, (c = true → ∃ vals', Uns vals vals' ∧ VOp tt g fid (.pick a b d) vals' v []) ∧ K v [] := by
  have un : ∀ {β : Bool} {p q : PV}, (β = true → Un p q) → β = true → p = q ∨ p = .cnd true q := fun hu hb => by
    cases hu hb
    · exact .inl rfl
    · exact .inr rfl
  have uself : ∀ l : List PV, Uns l l := fun l => by
    induction l with
    | nil => exact .nil
    | cons p l ih => exact .cons (.same p) ih
  unfold kPick at h
  split at h
  · rename_i β p q
    obtain ⟨p', hp, h⟩ := unc_sound h
    obtain ⟨q', hq, h⟩ := unc_sound h
    exact ⟨_, fun hc => ⟨_, uself _, .pick _ _ _ β p q p' q' (fun hb => un (β := true) (fun _ => hp (by simp [hc, hb])) rfl) (fun hb => un (β := true) (fun _ => hq (by simp [hc, hb])) rfl)⟩, h⟩
  · rename_i c' β p q
    obtain ⟨hc', h⟩ := h
    obtain ⟨p', hp, h⟩ := unc_sound h
    obtain ⟨q', hq, h⟩ := unc_sound h
    refine ⟨_, fun hc => ⟨[.bool β, p, q], ?_, .pick _ _ _ β p q p' q' (fun hb => un (β := true) (fun _ => hp (by simp [hc, hb])) rfl) (fun hb => un (β := true) (fun _ => hq (by simp [hc, hb])) rfl)⟩, h⟩
    rw [hc' hc]
    exact .cons (.cnd _) (uself _)
  · exact h.elim

theorem kAlloc_sound {T : TypeId} (h : kAlloc tt c T g fid K) : ∃ v u, (c = true → VOp tt g fid (.alloc T) [] v u) ∧ K v u := by
  unfold kAlloc at h
  split at h
  · rename_i i hi
    exact ⟨_, _, fun hc => .alloc T i hi (h.1 hc), h.2⟩
  · exact h.elim

theorem kBox_sound {T : TypeId} {x : Operand} (h : kBox tt c T vals g fid K) : ∃ v u, (c = true → VOp tt g fid (.box T x) vals v u) ∧ K v u := by
  unfold kBox at h
  split at h
  · rename_i i p hi
    exact ⟨_, _, fun hc => let ⟨a, b, d⟩ := h.1 hc; .box T x p i hi a b d, h.2⟩
  · exact h.elim

theorem kBuild_sound {T : TypeId} {parts : Array (Nat × Operand)} (h : kBuild tt c T (parts.toList.map (·.1)) vals K) : ∃ v u, (c = true → VOp tt g fid (.build T parts) vals v u) ∧ K v u := by
  unfold kBuild at h
  split at h
  · rename_i i hi
    obtain ⟨hl, h⟩ := h
    have hl' : c = true → vals.length = parts.size := fun hc => by simpa using hl hc
    split at h
    · rename_i fs hk
      unfold kFill at h
      split at h
      · rename_i cs hcs
        exact ⟨_, _, fun hc => .build T parts vals i fs cs hi hk hcs (hl' hc), h⟩
      · exact h.elim
    · rename_i n e hk
      split at h
      · rename_i ie he
        unfold kFill at h
        split at h
        · rename_i cs hcs
          exact ⟨_, _, fun hc => .buildA T parts vals i n e ie cs hi hk he hcs (hl' hc), h⟩
        · exact h.elim
      · exact h.elim
    · exact h.elim
  · exact h.elim

theorem kBuildSlice_sound {T : TypeId} {len : Nat} {parts : Array (Nat × Operand)} (h : kBuildSlice tt c T len (parts.toList.map (·.1)) vals g fid K) : ∃ v u, (c = true → VOp tt g fid (.buildSlice T len parts) vals v u) ∧ K v u := by
  unfold kBuildSlice at h
  split at h
  · rename_i i hi
    split at h
    · rename_i e hk
      split at h
      · rename_i ie he
        obtain ⟨hn, h⟩ := h
        split at h
        · rename_i es hes
          exact ⟨_, _, fun hc => let ⟨a, b, d, f⟩ := hn hc; .buildSlice T len parts vals i e ie es hi hk he b d f hes (by simpa using a), h⟩
        · exact h.elim
      · exact h.elim
    · exact h.elim
  · exact h.elim

theorem kLoad_sound {T : TypeId} {x : Operand} (h : kLoad tt c T vals g K) : ∃ v u, (c = true → VOp tt g fid (.load T x) vals v u) ∧ K v u := by
  unfold kLoad at h
  split at h
  · rename_i ti id sz i off ht
    split at h
    · rename_i T' sz' es hg
      obtain ⟨hn, h⟩ := h
      exact ⟨_, _, fun hc => let ⟨a, b, d⟩ := hn hc; .load T x id sz i off ti T' es ht (by rw [hg, a]) b d, h⟩
    · exact h.elim
  · rename_i ti cs off ht
    exact ⟨_, _, fun hc => .loadV T x cs off ti ht (h.1 hc), h.2⟩
  · exact h.elim

theorem kStore_sound {T : TypeId} {a x : Operand} (h : kStore tt c T vals g K) : ∃ v u, (c = true → VOp tt g fid (.store T a x) vals v u) ∧ K v u := by
  unfold kStore at h
  split at h
  · rename_i ti id sz i off p ht
    split at h
    · rename_i T' sz' es hg
      obtain ⟨hn, h⟩ := h
      exact ⟨_, _, fun hc => by
        obtain ⟨q1, q2, q3, q4, q5, q6⟩ := hn hc
        subst q1
        exact .store T a x id _ i off p ti T' es ht hg q2 q3 q4 q5 q6, h⟩
    · exact h.elim
  · exact h.elim

theorem kNilCheck_sound {x : Operand} (h : kNilCheck vals K) : ∃ v u, VOp tt g fid (.nilCheck x) vals v u ∧ K v u := by
  unfold kNilCheck at h
  split at h
  · exact ⟨_, _, .nilCheck x _ _ _ _, h⟩
  · exact ⟨_, _, .nilCheckV x _ _, h⟩
  · exact ⟨_, _, .nilCheckF x _ _ _, h⟩
  · exact h.elim

theorem kBin_sound {op : BinOp} {T T' : TypeId} {x y : Operand} (h : kBin tt c op T vals K) : ∃ v u, (c = true → VOp tt g fid (.binOp op T x y T') vals v u) ∧ K v u := by
  unfold kBin at h
  split at h
  · exact ⟨_, _, fun hc => .binInt _ _ _ _ _ _ _ _ _ (h.1 hc), h.2⟩
  · split at h
    · rename_i i hi
      split at h
      · exact ⟨_, _, fun hc => .binBoolEq _ _ _ _ _ _ i hi ‹_›, h⟩
      · exact ⟨_, _, fun hc => .binBoolNe _ _ _ _ _ _ i hi ‹_›, h⟩
      · exact h.elim
    · exact h.elim
  · split at h
    · exact ⟨_, _, fun hc => .strEq _ _ _ _ _ _, h⟩
    · exact ⟨_, _, fun hc => .strNe _ _ _ _ _ _, h⟩
    · exact ⟨_, _, fun hc => .strAdd _ _ _ _ _ _ (h.1 hc), h.2⟩
    · exact h.elim
  · split at h
    · rename_i i hi
      split at h
      · exact ⟨_, _, fun hc => .ptrEqNil _ _ _ _ _ _ _ _ i _ hi ‹_›, h⟩
      · exact ⟨_, _, fun hc => .ptrNeNil _ _ _ _ _ _ _ _ i _ hi ‹_›, h⟩
      · exact h.elim
    · exact h.elim
  · split at h
    · rename_i i hi
      split at h
      · exact ⟨_, _, fun hc => .vptrEqNil _ _ _ _ _ _ i _ hi ‹_›, h⟩
      · exact ⟨_, _, fun hc => .vptrNeNil _ _ _ _ _ _ i _ hi ‹_›, h⟩
      · exact h.elim
    · exact h.elim
  · exact h.elim

theorem kUn_sound {op : UnOp} {T : TypeId} {x : Operand} (h : kUn op vals K) : ∃ v u, VOp tt g fid (.unOp op T x) vals v u ∧ K v u := by
  unfold kUn at h
  split at h
  · exact ⟨_, _, .not _ _ _, h⟩
  · exact ⟨_, _, .neg _ _ _ _, h⟩
  · exact ⟨_, _, .xor _ _ _ _, h⟩
  · exact h.elim

theorem kConvert_sound {src dst : TypeId} {x : Operand} (h : kConvert tt src dst vals c K) : ∃ v u, (c = true → VOp tt g fid (.convert src dst x) vals v u) ∧ K v u := by
  unfold kConvert at h
  split at h
  · rename_i i j k n hi hj
    split at h
    · rename_i k0 k' h1 h2
      exact ⟨_, _, fun hc => .convert _ _ _ k k' n i j hi (by rw [h1, h.1 hc]) hj h2, h.2⟩
    · exact h.elim
  · exact h.elim

theorem kMakeFunc_sound {f : Fn} {first cap : Array Operand} (h : kMakeFunc c f first.size cap.size vals K) : ∃ v u, (c = true → VOp tt g fid (.makeFunc f first cap) vals v u) ∧ K v u := by
  unfold kMakeFunc at h
  split at h
  · exact ⟨_, _, fun hc => .makeFunc _ _ _ _ (h.1 hc), h.2⟩
  · exact h.elim

theorem kMakeSlice_sound {T : TypeId} {l m : Operand} (h : kMakeSlice tt c T vals g fid K) : ∃ v u, (c = true → VOp tt g fid (.makeSlice T l m) vals v u) ∧ K v u := by
  unfold kMakeSlice at h
  split at h
  · rename_i i k n k' m' hi
    split at h
    · rename_i e hk
      split at h
      · rename_i ie he
        obtain ⟨hn, h⟩ := h
        exact ⟨_, _, fun hc => let ⟨a, b, d, f, q⟩ := hn hc; .makeSlice _ _ _ _ _ _ _ i e ie hi hk he a b d f q, h⟩
      · exact h.elim
    · exact h.elim
  · exact h.elim

theorem kSlice_sound {T : TypeId} {x : Operand} {lo hi mx : Option Operand} (h : kSlice tt c T lo.isSome hi.isSome mx.isSome vals K) : ∃ v u, (c = true → VOp tt g fid (.slice T x lo hi mx) vals v u) ∧ K v u := by
  unfold kSlice at h
  split at h
  · rename_i i hti
    split at h
    · rename_i e hk
      split at h
      · rename_i ie he
        split at h
        · rename_i X L H M hargs
          unfold kCut at h
          split at h
          · rename_i id sz' o n lim
            split at h
            · rename_i l hh hl hhh
              obtain ⟨hn, h⟩ := h
              exact ⟨_, _, fun hc => let ⟨a, b, d, f, q⟩ := hn hc; .sliceR _ _ _ _ _ _ _ _ _ _ _ l hh L H none hargs hl hhh b d f i e ie hti hk he a rfl q, h⟩
            · exact h.elim
          · rename_i id sz' o n lim M'
            split at h
            · rename_i l hh m hl hhh hm
              obtain ⟨hn, h⟩ := h
              exact ⟨_, _, fun hc => let ⟨a, b, d, f, q⟩ := hn hc; .sliceR3 _ _ _ _ _ _ _ _ _ _ _ l hh L H M' m hargs hl hhh hm b d f i e ie hti hk he a q, h⟩
            · exact h.elim
          · rename_i sz' es
            split at h
            · rename_i l hh hl hhh
              obtain ⟨hn, h⟩ := h
              exact ⟨_, _, fun hc => let ⟨a, b, d, f⟩ := hn hc; .sliceV _ _ _ _ _ _ _ _ l hh L H hargs hl hhh b d f i e ie hti hk he a, h⟩
            · exact h.elim
          · exact h.elim
        · exact h.elim
      · exact h.elim
    · exact h.elim
  · exact h.elim

theorem kFieldAddr_sound {T : TypeId} {x : Operand} {f : Nat} (h : kFieldAddr tt c T f vals K) : ∃ v u, (c = true → VOp tt g fid (.fieldAddr T x f) vals v u) ∧ K v u := by
  unfold kFieldAddr at h
  split at h
  · rename_i ti hti
    split at h
    · rename_i fs hk
      split at h
      · exact ⟨_, _, fun hc => .fieldAddr _ _ _ _ _ _ _ ti fs _ _ _ hti hk ‹_› (h.1 hc), h.2⟩
      · exact ⟨_, _, fun hc => .fieldAddrV _ _ _ _ _ ti fs _ _ _ hti hk ‹_› (h.1 hc), h.2⟩
      · exact h.elim
    · exact h.elim
  · exact h.elim

theorem kField_sound {T : TypeId} {x : Operand} {f : Nat} (h : kField tt c T f vals K) : ∃ v u, (c = true → VOp tt g fid (.field T x f) vals v u) ∧ K v u := by
  unfold kField at h
  split at h
  · rename_i ti hti
    split at h
    · rename_i fs hk
      split at h
      · split at h
        · exact ⟨_, _, fun hc => .field _ _ _ _ ti fs _ _ _ _ hti hk ‹_› ‹_› (h.1 hc), h.2⟩
        · exact h.elim
      · exact h.elim
    · exact h.elim
  · exact h.elim

theorem kIndexAddr_sound {T : TypeId} {x ix : Operand} (h : kIndexAddr tt c T vals K) : ∃ v u, (c = true → VOp tt g fid (.indexAddr T x ix) vals v u) ∧ K v u := by
  unfold kIndexAddr at h
  split at h
  · rename_i ti hti
    split at h
    · split at h
      · obtain ⟨hn, h⟩ := h
        exact ⟨_, _, fun hc => let ⟨a, b, d⟩ := hn hc; .indexAddr _ _ _ _ _ _ _ ti _ _ hti ‹_› ‹_› a b d, h⟩
      · exact h.elim
    · split at h
      · obtain ⟨hn, h⟩ := h
        exact ⟨_, _, fun hc => let ⟨a, b, d⟩ := hn hc; .indexAddrR _ _ _ _ _ _ _ _ _ _ ti _ _ hti ‹_› ‹_› a b d, h⟩
      · exact h.elim
    · split at h
      · obtain ⟨hn, h⟩ := h
        exact ⟨_, _, fun hc => let ⟨a, b⟩ := hn hc; .indexAddrA _ _ _ _ _ _ _ _ _ ti _ _ _ hti ‹_› ‹_› a b, h⟩
      · exact h.elim
    · split at h
      · obtain ⟨hn, h⟩ := h
        exact ⟨_, _, fun hc => let ⟨a, b⟩ := hn hc; .indexAddrAV _ _ _ _ _ _ _ ti _ _ _ hti ‹_› ‹_› a b, h⟩
      · exact h.elim
    · exact h.elim
  · exact h.elim

theorem kIndex_sound {T : TypeId} {x ix : Operand} (h : kIndex tt c T vals K) : ∃ v u, (c = true → VOp tt g fid (.index T x ix) vals v u) ∧ K v u := by
  unfold kIndex at h
  split at h
  · rename_i ti hti
    split at h
    · split at h
      · obtain ⟨hn, h⟩ := h
        exact ⟨_, _, fun hc => let ⟨a, b, d⟩ := hn hc; .indexA _ _ _ _ _ _ ti _ _ _ hti ‹_› ‹_› a b d, h⟩
      · exact h.elim
    · obtain ⟨hn, h⟩ := h
      exact ⟨_, _, fun hc => let ⟨a, b⟩ := hn hc; .indexS _ _ _ _ _ _ ti hti ‹_› a b, h⟩
    · exact h.elim
  · exact h.elim

theorem kExtract_sound {x : Operand} {ix : Nat} (h : kExtract vals ix K) : ∃ v u, VOp tt g fid (.extract x ix) vals v u ∧ K v u := by
  unfold kExtract at h
  split at h
  · split at h
    · exact ⟨_, _, .extract _ _ _ _ ‹_›, h⟩
    · exact h.elim
  · exact h.elim

theorem len1 {α : Type} {a : Array α} {x : α} (h : a.toList = [x]) : a = #[x] := by
  apply Array.ext'
  simpa using h
theorem len2 {α : Type} {a : Array α} {x y : α} (h : a.toList = [x, y]) : a = #[x, y] := by
  apply Array.ext'
  simpa using h

theorem kLen_sound {cl : Call} (hc : cl.callee = .builtin .len) (hl : vals.length = cl.args.size) (h : kLen tt cl.argTypes.toList vals K) : ∃ v u, VOp tt g fid (.call cl) vals v u ∧ K v u := by
  unfold kLen at h
  split at h
  · rename_i T p hT
    have ha : ∃ a, cl.args = #[a] := by
      have : cl.args.toList.length = 1 := by simpa using hl.symm
      match hq : cl.args.toList, this with
      | [a], _ => exact ⟨a, len1 hq⟩
    obtain ⟨a, ha⟩ := ha
    split at h
    · rename_i ti hti
      split at h
      · exact ⟨_, _, .len _ a T _ _ ti _ hc ha (len1 hT) hti ‹_›, h⟩
      · exact ⟨_, _, .lenR _ a T _ _ _ _ _ ti _ hc ha (len1 hT) hti ‹_›, h⟩
      · exact ⟨_, _, .lenN _ a T ti _ hc ha (len1 hT) hti ‹_›, h⟩
      · exact ⟨_, _, .lenS _ a T ti _ hc ha (len1 hT) hti ‹_›, h⟩
      · exact h.elim
    · exact h.elim
  · exact h.elim

theorem args2 {cl : Call} {p q : PV} (hl : [p, q].length = cl.args.size) : ∃ a b, cl.args = #[a, b] := by
  have : cl.args.toList.length = 2 := by simpa using hl.symm
  match hq : cl.args.toList, this with
  | [a, b], _ => exact ⟨a, b, len2 hq⟩

theorem kMin_sound {cl : Call} (hc : cl.callee = .builtin .min) (hl : vals.length = cl.args.size) (h : kMin vals c K) : ∃ v u, (c = true → VOp tt g fid (.call cl) vals v u) ∧ K v u := by
  unfold kMin at h
  split at h
  · rename_i k x k' y
    obtain ⟨a, b, ha⟩ := args2 hl
    refine ⟨_, _, fun hcc => ?_, h.2⟩
    obtain rfl := h.1 hcc
    exact .min _ a b _ _ _ hc ha
  · exact h.elim

theorem kMax_sound {cl : Call} (hc : cl.callee = .builtin .max) (hl : vals.length = cl.args.size) (h : kMax vals c K) : ∃ v u, (c = true → VOp tt g fid (.call cl) vals v u) ∧ K v u := by
  unfold kMax at h
  split at h
  · rename_i k x k' y
    obtain ⟨a, b, ha⟩ := args2 hl
    refine ⟨_, _, fun hcc => ?_, h.2⟩
    obtain rfl := h.1 hcc
    exact .max _ a b _ _ _ hc ha
  · exact h.elim

theorem kAppend_sound {cl : Call} (hc : cl.callee = .builtin .append) (hl : vals.length = cl.args.size) (h : kAppend tt cl.argTypes.toList vals g fid K) : ∃ v u, VOp tt g fid (.call cl) vals v u ∧ K v u := by
  unfold kAppend at h
  split at h
  · rename_i T T' s q hT
    obtain ⟨a, b, ha⟩ := args2 hl
    split at h
    · rename_i i hti
      split at h
      · rename_i e hk
        split at h
        · rename_i ie he
          split at h
          · rename_i sz' xs hx
            obtain ⟨rfl, hne, h⟩ := h
            have hT' := len2 hT
            unfold kAppendTo at h
            split at h
            · obtain ⟨hn, h⟩ := h
              obtain ⟨q1, q2, q3, q4⟩ := hn rfl
              exact ⟨_, _, .appendN _ a b _ _ _ xs i e ie hc ha hT' hti hk he hx (fun _ => q1) q2 q3 q4 hne, h⟩
            · rename_i id sz lo n lim
              split at h
              · rename_i T0 sz0 es hg
                obtain ⟨hn, h⟩ := h
                obtain ⟨q1, q2, q3, q4, q5, q6, q7, q8, q9, q10⟩ := hn rfl
                subst q1
                subst q6
                cases lim with
                | true =>
                  rw [if_pos rfl] at h
                  exact ⟨_, _, .appendLim _ a b _ _ _ _ _ _ _ xs i _ ie es hc ha hT' hti hk he hx q2 (fun _ => q3) hg q5 hne q7 q9 q10, h⟩
                | false =>
                  rw [if_neg (by simp)] at h
                  split at h
                  · exact ⟨_, _, .appendRoom _ a b _ _ _ _ _ _ _ xs i _ ie _ es hc ha hT' hti hk he hx q2 (fun _ => q3) hg ‹_› q4, h⟩
                  · exact ⟨_, _, .appendGrow _ a b _ _ _ _ _ _ _ xs i _ ie es hc ha hT' hti hk he hx q2 (fun _ => q3) hg q5 (by omega) q7 q8 q9 q10, h⟩
              · exact h.elim
            · exact h.elim
          · exact h.elim
        · exact h.elim
      · exact h.elim
    · exact h.elim
  · exact h.elim

theorem mapK_sound {T : TypeId} {KK : IntKind → TI → Prop} (h : mapK tt T KK) : ∃ ti kt et ki ei k, tt T = some ti ∧ ti.kind = .map kt et ∧ tt kt = some ki ∧ ki.kind = .int k ∧ tt et = some ei ∧ KK k ei := by
  unfold mapK at h
  split at h
  · rename_i ti ht
    split at h
    · rename_i kt et hk
      split at h
      · rename_i ki ei hki hei
        split at h
        · rename_i k hkk
          exact ⟨ti, kt, et, ki, ei, k, ht, hk, hki, hkk, hei, h⟩
        · exact h.elim
      · exact h.elim
    · exact h.elim
  · exact h.elim
theorem kMakeMap_sound {T : TypeId} (h : kMakeMap tt c T g fid K) : ∃ v u, (c = true → VOp tt g fid (.makeMap T none) [] v u) ∧ K v u := by
  obtain ⟨ti, kt, et, ki, ei, k, ht, hk, hki, hkk, hei, hf, h⟩ := mapK_sound h
  exact ⟨_, _, fun hc => .makeMap _ _ _ _ ht hk (hf hc), h⟩
theorem kLookup_sound {T : TypeId} {cm : Bool} {x ix : Operand} (h : kLookup tt c T cm vals g K) : ∃ v u, (c = true → VOp tt g fid (.lookup T x ix cm) vals v u) ∧ K v u := by
  unfold kLookup at h
  split at h
  · split at h
    · rename_i id k n T' es hg
      obtain ⟨ti, kt, et, ki, ei, k', ht, hk, hki, hkk, hei, hf, h⟩ := mapK_sound h
      exact ⟨_, _, fun hc => by obtain ⟨rfl, h2⟩ := hf hc; exact .lookup _ _ _ _ _ _ _ _ _ _ _ _ _ _ ht hk hki hkk hei hg h2, h⟩
    · exact h.elim
  · exact h.elim
theorem kMapPut_sound {T : TypeId} {m kx x : Operand} (h : kMapPut tt c T vals g K) : ∃ v u, (c = true → VOp tt g fid (.mapUpdate T m kx x) vals v u ∧ VOp tt g fid (.insert T m kx x) vals v u) ∧ K v u := by
  unfold kMapPut at h
  split at h
  · split at h
    · rename_i id k n p T' es hg
      obtain ⟨ti, kt, et, ki, ei, k', ht, hk, hki, hkk, hei, hf, h⟩ := mapK_sound h
      exact ⟨_, _, fun hc => by obtain ⟨rfl, h2⟩ := hf hc; exact ⟨.mapUpdate _ _ _ _ _ _ _ _ _ _ _ _ _ _ ht hk hki hkk hg h2, .insert _ _ _ _ _ _ _ _ _ _ _ _ _ _ ht hk hki hkk hg h2⟩, h⟩
    · exact h.elim
  · exact h.elim

theorem execK_sound {op : Op} (hl : vals.length = op.operands.size) (h : execK P tt c op vals g fid K) : ∃ v u, (c = true → ∃ vals', Uns vals vals' ∧ VExec P tt g fid op vals' v u) ∧ K v u := by
  have ulen : ∀ {a b : List PV}, Uns a b → b.length = a.length := fun hu => by
    induction hu with
    | nil => rfl
    | cons _ _ ih => simp [ih]
  have lift : ∀ {vals' : List PV} {op : Op}, (c = true → Uns vals vals') → (∃ v u, (c = true → VOp tt g fid op vals' v u) ∧ K v u) → ∃ v u, (c = true → ∃ vals', Uns vals vals' ∧ VExec P tt g fid op vals' v u) ∧ K v u :=
    fun hu ⟨v, u, h1, h2⟩ => ⟨v, u, fun hc => ⟨_, hu hc, .inl (h1 hc)⟩, h2⟩
  have lift' : ∀ {vals' : List PV} {op : Op}, (c = true → Uns vals vals') → (∃ v u, VOp tt g fid op vals' v u ∧ K v u) → ∃ v u, (c = true → ∃ vals', Uns vals vals' ∧ VExec P tt g fid op vals' v u) ∧ K v u :=
    fun hu ⟨v, u, h1, h2⟩ => ⟨v, u, fun hc => ⟨_, hu hc, .inl h1⟩, h2⟩
  cases op <;> simp only [execK] at h
  case move x => obtain ⟨vs, hu, h⟩ := uns_sound h; obtain ⟨v, hv, hk⟩ := kMove_sound (tt := tt) (g := g) (fid := fid) h; exact ⟨v, [], fun hc => ⟨vs, hu hc, .inl (hv x).1⟩, hk⟩
  case assign x => obtain ⟨vs, hu, h⟩ := uns_sound h; obtain ⟨v, hv, hk⟩ := kMove_sound (tt := tt) (g := g) (fid := fid) h; exact ⟨v, [], fun hc => ⟨vs, hu hc, .inl (hv x).2⟩, hk⟩
  case pick a b d => obtain ⟨v, hv, hk⟩ := kPick_sound (tt := tt) (g := g) (fid := fid) (a := a) (b := b) (d := d) h; exact ⟨v, [], fun hc => let ⟨vs, h1, h2⟩ := hv hc; ⟨vs, h1, .inl h2⟩, hk⟩
  case alloc T =>
    split at h
    · exact lift (fun _ => .nil) (kAlloc_sound h)
    · exact h.elim
  case box => obtain ⟨vs, hu, h⟩ := uns_sound h; exact lift hu (kBox_sound h)
  case build => obtain ⟨vs, hu, h⟩ := uns_sound h; exact lift hu (kBuild_sound h)
  case buildSlice => obtain ⟨vs, hu, h⟩ := uns_sound h; exact lift hu (kBuildSlice_sound h)
  case load => obtain ⟨vs, hu, h⟩ := uns_sound h; exact lift hu (kLoad_sound h)
  case store => obtain ⟨vs, hu, h⟩ := uns_sound h; exact lift hu (kStore_sound h)
  case nilCheck => obtain ⟨vs, hu, h⟩ := uns_sound h; exact lift' hu (kNilCheck_sound h)
  case binOp => obtain ⟨vs, hu, h⟩ := uns_sound h; exact lift hu (kBin_sound h)
  case unOp => obtain ⟨vs, hu, h⟩ := uns_sound h; exact lift' hu (kUn_sound h)
  case convert => obtain ⟨vs, hu, h⟩ := uns_sound h; exact lift hu (kConvert_sound h)
  case makeFunc => obtain ⟨vs, hu, h⟩ := uns_sound h; exact lift hu (kMakeFunc_sound h)
  case makeSlice => obtain ⟨vs, hu, h⟩ := uns_sound h; exact lift hu (kMakeSlice_sound h)
  case slice => obtain ⟨vs, hu, h⟩ := uns_sound h; exact lift hu (kSlice_sound h)
  case fieldAddr => obtain ⟨vs, hu, h⟩ := uns_sound h; exact lift hu (kFieldAddr_sound h)
  case field => obtain ⟨vs, hu, h⟩ := uns_sound h; exact lift hu (kField_sound h)
  case indexAddr => obtain ⟨vs, hu, h⟩ := uns_sound h; exact lift hu (kIndexAddr_sound h)
  case index => obtain ⟨vs, hu, h⟩ := uns_sound h; exact lift hu (kIndex_sound h)
  case extract => obtain ⟨vs, hu, h⟩ := uns_sound h; exact lift' hu (kExtract_sound h)
  case makeMap T r =>
    cases r with
    | some r => exact h.elim
    | none =>
      simp only at h
      split at h
      · exact lift (fun _ => .nil) (kMakeMap_sound h)
      · exact h.elim
  case lookup => obtain ⟨vs, hu, h⟩ := uns_sound h; exact lift hu (kLookup_sound h)
  case mapUpdate T m kx x =>
    obtain ⟨vs, hu, h⟩ := uns_sound h
    obtain ⟨v, u, h1, h2⟩ := kMapPut_sound (fid := fid) (m := m) (kx := kx) (x := x) h
    exact lift hu ⟨v, u, fun hc => (h1 hc).1, h2⟩
  case insert T m kx x =>
    obtain ⟨vs, hu, h⟩ := uns_sound h
    obtain ⟨v, u, h1, h2⟩ := kMapPut_sound (fid := fid) (m := m) (kx := kx) (x := x) h
    exact lift hu ⟨v, u, fun hc => (h1 hc).2, h2⟩
  case call cl =>
    obtain ⟨vs, hu, h⟩ := uns_sound h
    by_cases hc : c = true
    · have hvl := ulen (hu hc)
      unfold kCall at h
      split at h
      · rename_i hcl
        exact lift' hu (kLen_sound hcl (by rw [hvl, hl]; simp [Op.operands, Call.operands, hcl]) h)
      · rename_i hcl
        exact lift hu (kMin_sound hcl (by rw [hvl, hl]; simp [Op.operands, Call.operands, hcl]) h)
      · rename_i hcl
        exact lift hu (kMax_sound hcl (by rw [hvl, hl]; simp [Op.operands, Call.operands, hcl]) h)
      · rename_i hcl
        exact lift' hu (kAppend_sound hcl (by rw [hvl, hl]; simp [Op.operands, Call.operands, hcl]) h.2)
      · rename_i x hcl
        split at h
        · rename_i k fs cap args
          rcases h with ⟨hr, r, hg, hk⟩ | ⟨r, hp, hg, hk⟩ | ⟨r, T, sz, es, _, hok, hf, hg, hk⟩
          · exact ⟨r, [], fun hc => ⟨_, hu hc, .inr (.byValue _ x _ _ _ _ _ hcl hr (hg hc))⟩, hk⟩
          · exact ⟨r, [], fun hc => ⟨_, hu hc, .inr (.lent _ x _ _ _ _ _ hcl hp (hg hc))⟩, hk⟩
          · exact ⟨_, _, fun hc => ⟨_, hu hc, .inr (.made _ x _ _ _ _ r T sz es hcl (List.isEmpty_iff.1 hok) hf hg)⟩, hk⟩
        · exact h.elim
      · exact h.elim
    · have hno : ∀ {v u}, K v u → ∃ v u, (c = true → ∃ vals', Uns vals vals' ∧ VExec P tt g fid (.call cl) vals' v u) ∧ K v u := fun hk => ⟨_, _, fun h => absurd h hc, hk⟩
      unfold kCall at h
      split at h
      · unfold kLen at h
        repeat' (split at h)
        all_goals first | exact h.elim | exact hno h
      · unfold kMin at h
        split at h
        · exact hno h.2
        · exact h.elim
      · unfold kMax at h
        split at h
        · exact hno h.2
        · exact h.elim
      · exact absurd (h.1 rfl) hc
      · split at h
        · rcases h with ⟨hr, r, hg, hk⟩ | ⟨r, hp, hg, hk⟩ | ⟨r, T, sz, es, hct, _⟩
          · exact hno hk
          · exact hno hk
          · exact absurd hct hc
        · exact h.elim
      · exact h.elim
end
end Go.V
/- The value logic, part 15b: own objects renumbered; functions that are lent own objects. -/
set_option linter.unusedVariables false
set_option linter.unusedSimpArgs false
namespace Go.V
open Go.RowKit

mutual
/-- Numbers of own objects, replaced. -/
def PV.ren (f : Nat → Nat) : PV → PV
  | .sref id sz lo n lim => .sref (f id) sz lo n lim
  | .ptr id sz i off => .ptr (f id) sz i off
  | .mref id => .mref (f id)
  | .agg cs => .agg (PV.renL f cs)
  | .tup cs => .tup (PV.renL f cs)
  | .fn k fs cs => .fn k (PV.renL f fs) (PV.renL f cs)
  | .ifc t p => .ifc t (PV.ren f p)
  | .cnd c p => .cnd c (PV.ren f p)
  | .undef => .undef
  | .bool b => .bool b
  | .int k n => .int k n
  | .str s => .str s
  | .nilS => .nilS
  | .slc sz es => .slc sz es
  | .vptr cs off => .vptr cs off
  | .nilP => .nilP
  | .nilF => .nilF
  | .nilM => .nilM
  | .nilI => .nilI
def PV.renL (f : Nat → Nat) : List PV → List PV
  | [] => []
  | p :: ps => PV.ren f p :: PV.renL f ps
end

def SC.ren (f : Nat → Nat) : SC → SC
  | .row T sz es => .row T sz (PV.renL f es)
  | .omap T es => .omap T (es.map fun e => (PV.ren f e.1, PV.ren f e.2))
  | c => c

/-- The own objects of a store object. -/
def SC.refs : SC → List Nat
  | .row _ _ es => PV.refsL es
  | .omap _ es => PV.refsL (es.map (·.1)) ++ PV.refsL (es.map (·.2))
  | _ => []

theorem renL_eq (f : Nat → Nat) : ∀ l : List PV, PV.renL f l = l.map (PV.ren f)
  | [] => rfl
  | p :: l => by simp only [PV.renL, List.map_cons, renL_eq f l]

theorem refsL_live {g0 : Store} : ∀ {l : List PV} {j : Nat} {p : PV}, (∀ id ∈ PV.refsL l, (g0 id).live = true) → l[j]? = some p → ∀ id ∈ p.refs, (g0 id).live = true := fun {l j p} h hp id hid =>
  h id (refsL_mem (List.mem_of_getElem? hp) id hid)

theorem ren_cells (f : Nat → Nat) (p : PV) : (PV.ren f p).cells = p.cells.map (PV.ren f) := by
  cases p <;> simp only [PV.ren, PV.cells, renL_eq, List.map_cons, List.map_nil]

theorem cells_refs {p c : PV} {j : Nat} (h : p.cells[j]? = some c) : ∀ id ∈ c.refs, id ∈ p.refs := by
  intro id hid
  by_cases ha : ∃ cs, p = .agg cs
  · obtain ⟨cs, rfl⟩ := ha
    simp only [PV.refs]
    exact refsL_mem (List.mem_of_getElem? h) id hid
  · have : p.cells = [p] := by cases p <;> first | rfl | exact absurd ⟨_, rfl⟩ ha
    rw [this] at h
    cases j with
    | zero => simp at h; subst h; exact hid
    | succ j => simp at h

theorem flat_ren (f : Nat → Nat) (es : List PV) : flat (es.map (PV.ren f)) = (flat es).map (PV.ren f) := by
  induction es with
  | nil => rfl
  | cons e es ih => simp only [flat, List.map_cons, List.flatMap_cons, List.map_append, ren_cells] at *; rw [ih]

theorem flat_refs {es : List PV} {j : Nat} {c : PV} (h : (flat es)[j]? = some c) : ∀ id ∈ c.refs, id ∈ PV.refsL es := by
  intro id hid
  obtain ⟨e, he, hc⟩ := List.mem_flatMap.1 (List.mem_of_getElem? h)
  obtain ⟨k, hk⟩ := List.getElem?_of_mem hc
  exact refsL_mem he id (cells_refs hk id hid)

section
variable {w : World} {B B' : Nat → Prop}

theorem Rep.unren {μ μ0 : Mu} {f : Nat → Nat} {g0 : Store} (hB : ∀ b, B b → B' b) (hμ : ∀ id, (g0 id).live = true → μ0 id = μ (f id)) {q : PV} {v : Value} (h : Rep w B μ q v) :
    ∀ p, q = PV.ren f p → (∀ id ∈ p.refs, (g0 id).live = true) → Rep w B' μ0 p v := by
  induction h with
  | undef μ v => intro p hp _; cases p <;> simp [PV.ren] at hp; exact .undef _ _
  | bool => intro p hp _; cases p <;> simp [PV.ren] at hp; subst hp; exact .bool _ _
  | int => intro p hp _; cases p <;> simp [PV.ren] at hp; obtain ⟨rfl, rfl⟩ := hp; exact .int _ _ _
  | str => intro p hp _; cases p <;> simp [PV.ren] at hp; subst hp; exact .str _ _
  | agg μ cs vs hl h1 h ih =>
    intro p hp hr
    cases p <;> simp [PV.ren] at hp
    rename_i cs'
    rw [renL_eq] at hp
    subst hp
    refine .agg _ _ _ (by simpa using hl) h1 fun j p v hq hv => ih j (PV.ren f p) v (by simp [hq]) hv hμ p rfl (refsL_live (by simpa [PV.refs] using hr) hq)
  | tup μ cs vs hl h ih =>
    intro p hp hr
    cases p <;> simp [PV.ren] at hp
    rw [renL_eq] at hp
    subst hp
    refine .tup _ _ _ (by simpa using hl) fun j p v hq hv => ih j (PV.ren f p) v (by simp [hq]) hv hμ p rfl (refsL_live (by simpa [PV.refs] using hr) hq)
  | nilS => intro p hp _; cases p <;> simp [PV.ren] at hp; exact .nilS _
  | slc0 => intro p hp _; cases p <;> simp [PV.ren] at hp; obtain ⟨rfl, rfl⟩ := hp; exact .slc0 _ _ _ _
  | slc μ sz es b off c hn hb vs hs h1 hc hr ih =>
    intro p hp _
    cases p <;> simp [PV.ren] at hp
    obtain ⟨rfl, rfl⟩ := hp
    exact .slc _ _ _ _ _ _ hn (hB _ hb) vs hs h1 hc fun j p hq => (hr j p hq).step hB (fun _ _ => rfl) (fun _ _ _ h => by cases h)
  | sref μ id sz lo n lim a c b base hm hn hl ha hc =>
    intro p hp hr
    cases p <;> simp [PV.ren] at hp
    rename_i id' _ _ _ _
    obtain ⟨rfl, rfl, rfl, rfl, rfl⟩ := hp
    exact .sref _ _ _ _ _ _ _ _ b base (by rw [hμ id' (hr id' (by simp [PV.refs]))]; exact hm) hn hl ha hc
  | ptr μ id sz i off b base hm =>
    intro p hp hr
    cases p <;> simp [PV.ren] at hp
    rename_i id' _ _ _
    obtain ⟨rfl, rfl, rfl, rfl⟩ := hp
    exact .ptr _ _ _ _ _ _ _ (by rw [hμ id' (hr id' (by simp [PV.refs]))]; exact hm)
  | vptr μ cs off b o hb vs h1 hc hr ih =>
    intro p hp _
    cases p <;> simp [PV.ren] at hp
    obtain ⟨rfl, rfl⟩ := hp
    exact .vptr _ _ _ _ _ (hB _ hb) vs h1 hc fun j p hq => (hr j p hq).step hB (fun _ _ => rfl) (fun _ _ _ h => by cases h)
  | nilP => intro p hp _; cases p <;> simp [PV.ren] at hp; exact .nilP _
  | fn μ k fs cs xs vs hl hl' h h' ih ih' =>
    intro p hp hr
    cases p <;> simp [PV.ren] at hp
    obtain ⟨rfl, h2, h3⟩ := hp
    rw [renL_eq] at h2 h3
    subst h2; subst h3
    refine .fn _ _ _ _ _ _ (by simpa using hl) (by simpa using hl') (fun j p v hq hv => ih j (PV.ren f p) v (by simp [hq]) hv hμ p rfl (refsL_live (fun id hid => hr id (by simp [PV.refs, hid])) hq))
      (fun j p v hq hv => ih' j (PV.ren f p) v (by simp [hq]) hv hμ p rfl (refsL_live (fun id hid => hr id (by simp [PV.refs, hid])) hq))
  | nilF => intro p hp _; cases p <;> simp [PV.ren] at hp; exact .nilF _
  | nilM => intro p hp _; cases p <;> simp [PV.ren] at hp; exact .nilM _
  | mref μ id b base hm =>
    intro p hp hr
    cases p <;> simp [PV.ren] at hp
    rename_i id'
    subst hp
    exact .mref _ _ _ _ (by rw [hμ id' (hr id' (by simp [PV.refs]))]; exact hm)
  | nilI => intro p hp _; cases p <;> simp [PV.ren] at hp; exact .nilI _
  | ifc μ t p v h ih =>
    intro q hq hr
    cases q <;> simp [PV.ren] at hq
    obtain ⟨rfl, rfl⟩ := hq
    exact .ifc _ _ _ _ (ih hμ _ rfl (by simpa [PV.refs] using hr))
  | cnd1 μ p v h ih =>
    intro q hq hr
    cases q <;> simp [PV.ren] at hq
    obtain ⟨rfl, rfl⟩ := hq
    exact .cnd1 _ _ _ (ih hμ _ rfl (by simpa [PV.refs] using hr))
  | cnd0 μ p =>
    intro q hq hr
    cases q <;> simp [PV.ren] at hq
    obtain ⟨rfl, rfl⟩ := hq
    exact .cnd0 _ _
end

theorem ren_live (f : Nat → Nat) (c : SC) : (SC.ren f c).live = c.live := by cases c <;> rfl


section
variable {w : World} {B B' : Nat → Prop}
theorem Rep.ren {μ μ' : Mu} {f : Nat → Nat} {L : Nat → Prop} (hB : ∀ b, B b → B' b) (hμ : ∀ id, L id → μ' (f id) = μ id) {p : PV} {v : Value} (h : Rep w B μ p v) :
    (∀ id ∈ p.refs, L id) → Rep w B' μ' (PV.ren f p) v := by
  induction h generalizing μ' with
  | undef => exact fun _ => .undef _ _
  | bool => exact fun _ => .bool _ _
  | int => exact fun _ => .int _ _ _
  | str => exact fun _ => .str _ _
  | agg μ cs vs hl h1 h ih =>
    intro hr
    simp only [PV.ren, renL_eq]
    refine .agg _ _ _ (by simpa using hl) h1 fun j p v hq hv => ?_
    rw [List.getElem?_map] at hq
    obtain ⟨q, hq', rfl⟩ := Option.map_eq_some_iff.1 hq
    exact ih j q v hq' hv hμ fun id hid => hr id (by simpa [PV.refs] using refsL_mem (List.mem_of_getElem? hq') id hid)
  | tup μ cs vs hl h ih =>
    intro hr
    simp only [PV.ren, renL_eq]
    refine .tup _ _ _ (by simpa using hl) fun j p v hq hv => ?_
    rw [List.getElem?_map] at hq
    obtain ⟨q, hq', rfl⟩ := Option.map_eq_some_iff.1 hq
    exact ih j q v hq' hv hμ fun id hid => hr id (by simpa [PV.refs] using refsL_mem (List.mem_of_getElem? hq') id hid)
  | nilS => exact fun _ => .nilS _
  | slc0 => exact fun _ => .slc0 _ _ _ _
  | slc μ sz es b off c hn hb vs hs h1 hc hr ih =>
    intro _
    exact .slc _ _ _ _ _ _ hn (hB _ hb) vs hs h1 hc fun j p hq => (hr j p hq).step hB (fun _ _ => rfl) (fun _ _ _ h => by cases h)
  | sref μ id sz lo n lim a c b base hm hn hl ha hc =>
    intro hr
    exact .sref _ _ _ _ _ _ _ _ b base (by rw [hμ id (hr id (by simp [PV.refs]))]; exact hm) hn hl ha hc
  | ptr μ id sz i off b base hm =>
    intro hr
    exact .ptr _ _ _ _ _ _ _ (by rw [hμ id (hr id (by simp [PV.refs]))]; exact hm)
  | vptr μ cs off b o hb vs h1 hc hr ih =>
    intro _
    exact .vptr _ _ _ _ _ (hB _ hb) vs h1 hc fun j p hq => (hr j p hq).step hB (fun _ _ => rfl) (fun _ _ _ h => by cases h)
  | nilP => exact fun _ => .nilP _
  | fn μ k fs cs xs vs hl hl' h h' ih ih' =>
    intro hr
    simp only [PV.ren, renL_eq]
    refine .fn _ _ _ _ _ _ (by simpa using hl) (by simpa using hl') (fun j p v hq hv => ?_) (fun j p v hq hv => ?_)
    · rw [List.getElem?_map] at hq
      obtain ⟨q, hq', rfl⟩ := Option.map_eq_some_iff.1 hq
      exact ih j q v hq' hv hμ fun id hid => hr id (by simp only [PV.refs, List.mem_append]; exact .inl (refsL_mem (List.mem_of_getElem? hq') id hid))
    · rw [List.getElem?_map] at hq
      obtain ⟨q, hq', rfl⟩ := Option.map_eq_some_iff.1 hq
      exact ih' j q v hq' hv hμ fun id hid => hr id (by simp only [PV.refs, List.mem_append]; exact .inr (refsL_mem (List.mem_of_getElem? hq') id hid))
  | nilF => exact fun _ => .nilF _
  | nilM => exact fun _ => .nilM _
  | mref μ id b base hm =>
    intro hr
    exact .mref _ _ _ _ (by rw [hμ id (hr id (by simp [PV.refs]))]; exact hm)
  | nilI => exact fun _ => .nilI _
  | ifc μ t p v h ih =>
    intro hr
    exact .ifc _ _ _ _ (ih hμ (by simpa [PV.refs] using hr))
  | cnd1 μ p v h ih =>
    intro hr
    exact .cnd1 _ _ _ (ih hμ (by simpa [PV.refs] using hr))
  | cnd0 μ p => exact fun _ => .cnd0 _ _

theorem ObjRep.ren {μ μ' : Mu} {f : Nat → Nat} {L : Nat → Prop} (hB : ∀ b, B b → B' b) (hμ : ∀ id, L id → μ' (f id) = μ id) {b base : Nat} {c : SC} (h : ObjRep w B μ b base c) (hr : ∀ id ∈ c.refs, L id) :
    ObjRep w B' μ' b base (SC.ren f c) := by
  cases c with
  | fresh => trivial
  | dead => trivial
  | row T sz es =>
    obtain ⟨cs, cap, c1, c2, c3, c4, c5⟩ := h
    simp only [SC.ren, renL_eq]
    refine ⟨cs, cap, c1, fun e he => ?_, by simpa using c3, c4, fun j p hp => ?_⟩
    · obtain ⟨e', he', rfl⟩ := List.mem_map.1 he
      rw [ren_cells, List.length_map]; exact c2 e' he'
    · rw [flat_ren, List.getElem?_map] at hp
      obtain ⟨q, hq, rfl⟩ := Option.map_eq_some_iff.1 hp
      obtain ⟨v, a1, a2, a3⟩ := c5 j q hq
      exact ⟨v, a1, a2, a3.ren hB hμ fun id hid => hr id (by simpa [SC.refs] using flat_refs hq id hid)⟩
  | omap T es =>
    obtain ⟨h0, ms, clock, c1, c2, c3⟩ := h
    refine ⟨h0, ms, clock, c1, by simpa using c2, fun j m e hm he => ?_⟩
    rw [List.getElem?_map] at he
    obtain ⟨q, hq, rfl⟩ := Option.map_eq_some_iff.1 he
    obtain ⟨a1, a2⟩ := c3 j m q hm hq
    refine ⟨a1.ren hB hμ fun id hid => hr id ?_, a2.ren hB hμ fun id hid => hr id ?_⟩
    · simp only [SC.refs, List.mem_append]
      exact .inl (refsL_mem (List.mem_map_of_mem (List.mem_of_getElem? hq)) id hid)
    · simp only [SC.refs, List.mem_append]
      exact .inr (refsL_mem (List.mem_map_of_mem (List.mem_of_getElem? hq)) id hid)
end
end Go.V
/- The value logic, part 15c: calls of functions that are lent own objects. -/
set_option linter.unusedVariables false
set_option linter.unusedSimpArgs false
namespace Go.V
open Go.RowKit

/-- A contract of a function that is lent own objects (numbers below 1000; those below 100 keep their places). -/
def GoodR (P : Program) (k : FuncId) (args : List PV) (g0 : Store) (post : PV → Store → Prop) : Prop := Enters P k ∧
  ∀ (w : World) (K : KA) (B : Nat → Prop) (μ : Mu) (vs : List Value), Sim w (K.wm fun _ => False) B g0 μ w → vs.length = args.length → (∀ (j : Nat) (p : PV) (v : Value), args[j]? = some p → vs[j]? = some v → Rep w (Stab w B g0 μ w) μ p v) →
    Calls P k vs.toArray w fun e w' => ∃ v r g1 μ1, e = .returned v ∧ post r g1 ∧ Sim w (K.wm fun _ => False) B g1 μ1 w' ∧ Rep w' (Stab w B g1 μ1 w') μ1 r v

/-- What is lent. -/
structure Lend (args : List PV) (g : Store) (args0 : List PV) (g0 : Store) (σ : Nat → Nat) : Prop where
  args : args = PV.renL σ args0
  refs : ∀ id ∈ PV.refsL args0, (g0 id).live = true
  obj : ∀ id, g0 id = .fresh ∨ ((g0 id).live = true ∧ g (σ id) = SC.ren σ (g0 id) ∧ ∀ j ∈ (g0 id).refs, (g0 j).live = true)
  inj : ∀ a b, (g0 a).live = true → (g0 b).live = true → σ a = σ b → a = b

/-- What comes back. -/
structure Back (g g0 : Store) (σ : Nat → Nat) (g1 : Store) (r : PV) (τ : Nat → Nat) (g' : Store) : Prop where
  anch : ∀ id, id < 100 → (g1 id).live = true → τ id = σ id ∧ (g0 id).live = true
  new : ∀ id, 100 ≤ id → (g1 id).live = true → Free g (τ id)
  inj : ∀ a b, (g1 a).live = true → (g1 b).live = true → τ a = τ b → a = b
  obj : ∀ id, (g1 id).live = true → g' (τ id) = SC.ren τ (g1 id) ∧ ∀ j ∈ (g1 id).refs, (g1 j).live = true
  refs : ∀ id ∈ r.refs, (g1 id).live = true
  gone : ∀ id, (g0 id).live = true → (∀ i, (g1 i).live = true → τ i ≠ σ id) → g' (σ id) = .dead
  rest : ∀ j, (∀ i, (g1 i).live = true → τ i ≠ j) → (∀ id, (g0 id).live = true → σ id ≠ j) → g' j = g j

def callR (P : Program) (k : FuncId) (args : List PV) (g : Store) (K : PV → Store → Prop) : Prop :=
  ∃ args0 g0 post σ, GoodR P k args0 g0 post ∧ Lend args g args0 g0 σ ∧ ∀ r g1, post r g1 → ∃ τ g', Back g g0 σ g1 r τ g' ∧ K (PV.ren τ r) g'

section
variable {P : Program} {w0 w : World} {K : KA} {B0 : Nat → Prop} {g g0 : Store} {μ : Mu}

/-- The lent part of a store. -/
theorem Lend.sim {args args0 : List PV} {σ : Nat → Nat} (hL : Lend args g args0 g0 σ) (hS : Sim w0 K B0 g μ w) :
    ∃ μ0 : Mu, (∀ id, (g0 id).live = true → μ0 id = μ (σ id)) ∧ (∀ b, Own g0 μ0 b → Own g μ b) ∧ Sim w ⟨fun b => ¬ Own g0 μ0 b, μ0, fun _ => False⟩ (Stab w0 B0 g μ w) g0 μ0 w ∧
      ∀ b, Stab w0 B0 g μ w b → Stab w (Stab w0 B0 g μ w) g0 μ0 w b := by
  let μ0 : Mu := fun id => if (g0 id).live = true then μ (σ id) else none
  have hμ0 : ∀ id, (g0 id).live = true → μ0 id = μ (σ id) := fun id h => by simp [μ0, h]
  have hlv : ∀ id, (g0 id).live = true → (g (σ id)).live = true ∧ g (σ id) = SC.ren σ (g0 id) ∧ ∀ j ∈ (g0 id).refs, (g0 j).live = true := fun id h => by
    rcases hL.obj id with h1 | ⟨_, h2, h3⟩
    · rw [h1] at h; simp [SC.live] at h
    · exact ⟨by rw [h2, ren_live]; exact h, h2, h3⟩
  have hown : ∀ b, Own g0 μ0 b → Own g μ b := fun b ⟨id, base, hl, hm⟩ => ⟨σ id, base, (hlv id hl).1, by rw [hμ0 id hl] at hm; exact hm⟩
  have hst : ∀ b, Stab w0 B0 g μ w b → Stab w (Stab w0 B0 g μ w) g0 μ0 w b := fun b hb => ⟨.inl hb, hb.2.1, fun ho => hb.2.2 (hown b ho)⟩
  refine ⟨μ0, hμ0, hown, ?_, hst⟩
  refine ⟨?_, ?_, ?_, ?_, fun b hb => ⟨fun ho => hb.2.2 (hown b ho), hb.2.1⟩, rfl, rfl, rfl, Nat.le_refl _, fun _ _ _ => rfl, fun b => .refl w b, fun id _ _ => rfl, fun _ h => h.elim⟩
  · intro id id' b base base' hl hl' hm hm'
    rw [hμ0 id hl] at hm; rw [hμ0 id' hl'] at hm'
    exact hL.inj id id' hl hl' (hS.inj _ _ _ _ _ (hlv id hl).1 (hlv id' hl').1 hm hm')
  · intro id
    constructor
    · intro hfr
      simp [μ0, hfr, SC.live]
    · intro hn
      rcases hL.obj id with h1 | ⟨h1, _⟩
      · exact h1
      · rw [hμ0 id h1] at hn
        obtain ⟨b, base, hb⟩ := hS.live_mu (hlv id h1).1
        rw [hb] at hn; cases hn
  · intro id b base hl hm
    refine ⟨?_, fun _ hh => hh ⟨id, base, hl, hm⟩⟩
    rw [hμ0 id hl] at hm
    exact (hS.blk _ _ _ (hlv id hl).1 hm).1
  · intro id b base hl hm
    rw [hμ0 id hl] at hm
    obtain ⟨h1, h2, h3⟩ := hlv id hl
    have hO := hS.obj _ _ _ h1 hm
    rw [h2] at hO
    have hun : ∀ p v, Rep w (Stab w0 B0 g μ w) μ (PV.ren σ p) v → (∀ id ∈ p.refs, (g0 id).live = true) → Rep w (Stab w (Stab w0 B0 g μ w) g0 μ0 w) μ0 p v := fun p v hp hr =>
      Rep.unren (g0 := g0) (f := σ) hst hμ0 hp p rfl hr
    cases hc : g0 id with
    | fresh => trivial
    | dead => trivial
    | row T sz es =>
      rw [hc] at hO h3
      simp only [SC.ren, renL_eq] at hO
      obtain ⟨cs, cap, c1, c2, c3, c4, c5⟩ := hO
      refine ⟨cs, cap, c1, fun e he => ?_, by simpa using c3, c4, fun j p hp => ?_⟩
      · have := c2 (PV.ren σ e) (List.mem_map_of_mem he)
        rw [ren_cells, List.length_map] at this
        exact this
      · obtain ⟨v, a1, a2, a3⟩ := c5 j (PV.ren σ p) (by rw [flat_ren, List.getElem?_map, hp]; rfl)
        exact ⟨v, a1, a2, hun p v a3 fun id hid => h3 id (by simpa [SC.refs] using flat_refs hp id hid)⟩
    | omap T es =>
      rw [hc] at hO h3
      simp only [SC.ren] at hO
      obtain ⟨h0, ms, clock, c1, c2, c3⟩ := hO
      refine ⟨h0, ms, clock, c1, by simpa using c2, fun j m e hm he => ?_⟩
      obtain ⟨a1, a2⟩ := c3 j m (PV.ren σ e.1, PV.ren σ e.2) hm (by simp [he])
      refine ⟨hun _ _ a1 fun id hid => h3 id ?_, hun _ _ a2 fun id hid => h3 id ?_⟩
      · simp only [SC.refs, List.mem_append]
        exact .inl (refsL_mem (List.mem_map_of_mem (List.mem_of_getElem? he)) id hid)
      · simp only [SC.refs, List.mem_append]
        exact .inr (refsL_mem (List.mem_map_of_mem (List.mem_of_getElem? he)) id hid)

/-- After the call. -/
theorem Back.sim {args args0 : List PV} {σ τ : Nat → Nat} {g1 g' : Store} {r : PV} {μ0 μ1 : Mu} {w' : World} {v : Value} (hL : Lend args g args0 g0 σ) (hS : Sim w0 K B0 g μ w) (hB : Back g g0 σ g1 r τ g')
    (hμ0 : ∀ id, (g0 id).live = true → μ0 id = μ (σ id)) (hown : ∀ b, Own g0 μ0 b → Own g μ b)
    (hS1 : Sim w ⟨fun b => ¬ Own g0 μ0 b, μ0, fun _ => False⟩ (Stab w0 B0 g μ w) g1 μ1 w') (hr : Rep w' (Stab w (Stab w0 B0 g μ w) g1 μ1 w') μ1 r v) :
    ∃ μ', Sim w0 K B0 g' μ' w' ∧ Goes w0 B0 g μ w g' μ' w' ∧ Rep w' (Stab w0 B0 g' μ' w') μ' (PV.ren τ r) v := by
  classical
  let μ' : Mu := fun j => if h : ∃ i, (g1 i).live = true ∧ τ i = j then μ1 (Classical.choose h) else μ j
  have him : ∀ i, (g1 i).live = true → μ' (τ i) = μ1 i := fun i hl => by
    have h : ∃ i', (g1 i').live = true ∧ τ i' = τ i := ⟨i, hl, rfl⟩
    have := Classical.choose_spec h
    simp only [μ', dif_pos h]
    rw [hB.inj _ _ this.1 hl this.2]
  have hno : ∀ j, (∀ i, (g1 i).live = true → τ i ≠ j) → μ' j = μ j := fun j hn => by
    have h : ¬ ∃ i, (g1 i).live = true ∧ τ i = j := fun ⟨i, h1, h2⟩ => hn i h1 h2
    simp only [μ', dif_neg h]
  have hdec : ∀ j, (∃ i, (g1 i).live = true ∧ τ i = j) ∨ (∀ i, (g1 i).live = true → τ i ≠ j) := fun j => by
    by_cases h : ∃ i, (g1 i).live = true ∧ τ i = j
    · exact .inl h
    · exact .inr fun i h1 h2 => h ⟨i, h1, h2⟩
  have hlv : ∀ id, (g0 id).live = true → (g (σ id)).live = true := fun id h => by
    rcases hL.obj id with h1 | ⟨_, h2, _⟩
    · rw [h1] at h; simp [SC.live] at h
    · rw [h2, ren_live]; exact h
  -- the objects of the new store
  have hcase : ∀ j, (g' j).live = true → (∃ i, (g1 i).live = true ∧ τ i = j) ∨ ((∀ i, (g1 i).live = true → τ i ≠ j) ∧ (∀ id, (g0 id).live = true → σ id ≠ j) ∧ g' j = g j ∧ μ' j = μ j ∧ (g j).live = true) := fun j hl => by
    rcases hdec j with h | h
    · exact .inl h
    · refine .inr ⟨h, ?_⟩
      have hnl : ∀ id, (g0 id).live = true → σ id ≠ j := fun id hid e => by
        have := hB.gone id hid (fun i hi => by rw [e]; exact h i hi)
        rw [e] at this
        rw [this] at hl; simp [SC.live] at hl
      have := hB.rest j h hnl
      exact ⟨hnl, this, hno j h, by rw [← this]; exact hl⟩
  have hmap : ∀ j a, μ j = some a → μ' j = some a := fun j a hj => by
    rcases hdec j with ⟨i, h1, h2⟩ | h
    · subst h2
      by_cases hi : i < 100
      · obtain ⟨e, hl0⟩ := hB.anch i hi h1
        rw [him i h1, hS1.anch i hi h1]
        show μ0 i = _
        rw [hμ0 i hl0, ← e]
        exact hj
      · have := (hS.fresh _).1 (hB.new i (by omega) h1).1
        rw [this] at hj; cases hj
    · rw [hno j h]; exact hj
  have hkeep : ∀ b, b < w.heap.size → ¬ Own g0 μ0 b → w'.heap[b]? = w.heap[b]? := fun b hb ho => hS1.kept b hb ho
  have hback : ∀ i b base, (g1 i).live = true → μ1 i = some (b, base) → b < w.heap.size → Own g0 μ0 b := fun i b base hl hm hlt => by
    have := (hS1.blk i b base hl hm).2 hlt
    exact Classical.byContradiction this
  have hsz := hS.size
  have hsz1 := hS1.size
  have hstab : ∀ b, Stab w0 B0 g μ w b → Stab w0 B0 g' μ' w' b := by
    rintro b ⟨h1, h2, h3⟩
    refine ⟨h1, by omega, fun ⟨j, base, hl, hm⟩ => ?_⟩
    rcases hcase j hl with ⟨i, h4, rfl⟩ | ⟨_, _, h5, h6, h7⟩
    · rw [him i h4] at hm
      exact h3 (hown b (hback i b base h4 hm h2))
    · rw [h6] at hm
      exact h3 ⟨j, base, h7, hm⟩
  have hG : Goes w0 B0 g μ w g' μ' w' := fun p v hp =>
    hp.step hstab (fun b hb => hkeep b hb.2.1 fun ho => hb.2.2 (hown b ho)) (fun id b base hm => ⟨hmap id _ hm, hS1.sized b⟩)
  have hst1 : ∀ b, Stab w (Stab w0 B0 g μ w) g1 μ1 w' b → Stab w0 B0 g' μ' w' b := by
    rintro b ⟨h1, h2, h3⟩
    rcases h1 with h1 | h1
    · exact hstab b h1
    · refine ⟨.inr (by omega), h2, fun ⟨j, base, hl, hm⟩ => ?_⟩
      rcases hcase j hl with ⟨i, h4, rfl⟩ | ⟨_, _, h5, h6, h7⟩
      · rw [him i h4] at hm
        exact h3 ⟨i, base, h4, hm⟩
      · rw [h6] at hm
        have := (hS.blk j b base h7 hm).1
        omega
  refine ⟨μ', ⟨?_, ?_, ?_, ?_, hS.b0, hS1.os.trans hS.os, hS1.tape.trans hS.tape, hS1.output.trans hS.output, by omega, ?_, fun b => (hS.sized b).trans (hS1.sized b), ?_, fun D hD => by rw [hkeep D (Array.getElem?_eq_some_iff.1 (hS.marks D hD)).1 (fun ho => hS.mark_own hD (hown D ho))]; exact hS.marks D hD⟩, hG, hr.ren (L := fun id => (g1 id).live = true) hst1 him hB.refs⟩
  · intro j j' b base base' hl hl' hm hm'
    rcases hcase j hl with ⟨i, h4, rfl⟩ | ⟨_, k2, h5, h6, h7⟩ <;> rcases hcase j' hl' with ⟨i', h4', rfl⟩ | ⟨_, k2', h5', h6', h7'⟩
    · rw [him i h4] at hm; rw [him i' h4'] at hm'
      rw [hS1.inj i i' b base base' h4 h4' hm hm']
    · rw [him i h4] at hm; rw [h6'] at hm'
      have hlt := (hS.blk j' b base' h7' hm').1
      obtain ⟨i0, bs0, hl0, hm0⟩ := hback i b base h4 hm hlt
      rw [hμ0 i0 hl0] at hm0
      exact absurd (hS.inj _ _ _ _ _ (hlv i0 hl0) h7' hm0 hm') (k2' i0 hl0)
    · rw [him i' h4'] at hm'; rw [h6] at hm
      have hlt := (hS.blk j b base h7 hm).1
      obtain ⟨i0, bs0, hl0, hm0⟩ := hback i' b base' h4' hm' hlt
      rw [hμ0 i0 hl0] at hm0
      exact absurd (hS.inj _ _ _ _ _ (hlv i0 hl0) h7 hm0 hm) (k2 i0 hl0)
    · rw [h6] at hm; rw [h6'] at hm'
      exact hS.inj j j' b base base' h7 h7' hm hm'
  · intro j
    rcases hdec j with ⟨i, h1, rfl⟩ | h
    · rw [him i h1, (hB.obj i h1).1]
      obtain ⟨b, base, hb⟩ := hS1.live_mu h1
      rw [hb]
      exact ⟨fun x => absurd x (live_row (by rw [ren_live]; exact h1)), fun x => (by cases x)⟩
    · rw [hno j h]
      by_cases hlt : ∃ id, (g0 id).live = true ∧ σ id = j
      · obtain ⟨id, h1, rfl⟩ := hlt
        rw [hB.gone id h1 h]
        obtain ⟨b, base, hb⟩ := hS.live_mu (hlv id h1)
        rw [hb]
        exact ⟨fun x => (by cases x), fun x => (by cases x)⟩
      · rw [hB.rest j h (fun id h1 h2 => hlt ⟨id, h1, h2⟩)]
        exact hS.fresh j
  · intro j b base hl hm
    rcases hcase j hl with ⟨i, h4, rfl⟩ | ⟨_, k2, h5, h6, h7⟩
    · rw [him i h4] at hm
      refine ⟨(hS1.blk i b base h4 hm).1, fun hlt => ?_⟩
      obtain ⟨i0, bs0, hl0, hm0⟩ := hback i b base h4 hm (by omega)
      rw [hμ0 i0 hl0] at hm0
      exact (hS.blk _ b bs0 (hlv i0 hl0) hm0).2 hlt
    · rw [h6] at hm
      have := hS.blk j b base h7 hm
      exact ⟨by omega, this.2⟩
  · intro j b base hl hm
    rcases hcase j hl with ⟨i, h4, rfl⟩ | ⟨_, k2, h5, h6, h7⟩
    · rw [him i h4] at hm
      obtain ⟨e1, e2⟩ := hB.obj i h4
      rw [e1]
      exact (hS1.obj i b base h4 hm).ren (L := fun id => (g1 id).live = true) hst1 him e2
    · rw [h6] at hm
      rw [h5]
      have hlt := (hS.blk j b base h7 hm).1
      refine (hS.obj j b base h7 hm).step (hkeep b hlt fun ⟨i0, bs0, hl0, hm0⟩ => ?_) (fun p v => hG p v)
      rw [hμ0 i0 hl0] at hm0
      exact absurd (hS.inj _ _ _ _ _ (hlv i0 hl0) h7 hm0 hm) (k2 i0 hl0)
  · intro b hlt hK
    rw [hkeep b (by omega) fun ⟨i0, bs0, hl0, hm0⟩ => by
      rw [hμ0 i0 hl0] at hm0
      exact (hS.blk _ b bs0 (hlv i0 hl0) hm0).2 hlt hK]
    exact hS.kept b hlt hK
  · intro j hlt hl
    rcases hcase j hl with ⟨i, h4, rfl⟩ | ⟨_, k2, h5, h6, h7⟩
    · by_cases hi : i < 100
      · obtain ⟨e, hl0⟩ := hB.anch i hi h4
        rw [him i h4, hS1.anch i hi h4]
        show μ0 i = _
        rw [hμ0 i hl0, ← e]
        exact hS.anch _ hlt (by rw [e]; exact hlv i hl0)
      · have := (hB.new i (by omega) h4).2
        omega
    · rw [h6]; exact hS.anch j hlt h7

theorem callR_sound {k : FuncId} {args : List PV} {KK : PV → Store → Prop} (h : callR P k args g KK) (hS : Sim w0 K B0 g μ w) {vs : List Value} (hl : vs.length = args.length)
    (hv : ∀ (j : Nat) (p : PV) (v : Value), args[j]? = some p → vs[j]? = some v → Rep w (Stab w0 B0 g μ w) μ p v) :
    Enters P k ∧ Calls P k vs.toArray w fun e w' => ∃ v r g' μ', e = .returned v ∧ Sim w0 K B0 g' μ' w' ∧ Goes w0 B0 g μ w g' μ' w' ∧ Rep w' (Stab w0 B0 g' μ' w') μ' r v ∧ KK r g' := by
  obtain ⟨args0, g0, post, σ, hg, hL, hk⟩ := h
  obtain ⟨μ0, h1, h2, h3, h4⟩ := hL.sim hS
  refine ⟨hg.1, (hg.2 w ⟨fun b => ¬ Own g0 μ0 b, μ0, fun _ => False⟩ _ μ0 vs h3 (by rw [hl, hL.args, renL_eq, List.length_map]) ?_).mono ?_⟩
  · intro j p v hp hvj
    refine Rep.unren (g0 := g0) (f := σ) h4 h1 (hv j (PV.ren σ p) v ?_ hvj) p rfl (refsL_live hL.refs hp)
    rw [hL.args, renL_eq, List.getElem?_map, hp]; rfl
  · rintro e w' ⟨v, r, g1, μ1, he, hpost, hS1, hr⟩
    obtain ⟨τ, g', hB, hK⟩ := hk r g1 hpost
    obtain ⟨μ', a1, a2, a3⟩ := hB.sim hL hS h1 h2 hS1 hr
    exact ⟨v, _, g', μ', he, a1, a2, a3, hK⟩
end
end Go.V
/- The value logic, part 17b: ranges over slices.Backward, in memory. -/
set_option linter.unusedVariables false
set_option linter.unusedSimpArgs false
namespace Go.V
open Go.RowKit

/-- The cell holds a slice of numbers. -/
def BoxInts (W : World) (B : Addr) (zs : List Int) : Prop := ∃ (a : Option Addr) (c : Nat), W.cell? B = some (.slice a zs.length c) ∧
  ∀ j, j < zs.length → ∃ b off, a = some ⟨b, off, none⟩ ∧ W.cell? ⟨b, off + j, none⟩ = some (.int .i64 (zs.getD j 0))

/-- The function goes through a slice of numbers from its end. -/
def BackSeq (P : Program) (k : FuncId) : Prop := Enters P k ∧ ∀ (l : Nat) (B : Addr) (zs : List Int) (J : Nat → World → Prop) (W : World), zs.length ≤ 17592186044416 →
  (∀ m W1, J m W1 → BoxInts W1 B zs) →
  (∀ (m : Nat) W1, m < zs.length → J (m + 1) W1 → YieldAt Fence.wide 0 P l #[.int .i64 m, .int .i64 (zs.getD m 0)] W1 fun e W' => e = .returned (.bool true) ∧ J m W') →
  J zs.length W → CallsIn Fence.wide 0 P k #[.func (.yield l) #[] #[], .pointer (some B)] W fun e W' => (∃ v, e = .returned v) ∧ J 0 W'

theorem wpIn_rangeBack {m : Nat} {P : Program} {f : Operand} {p1 p2 : Tmp} {assign body : Code} {Q : Exit → Act → World → Prop} {a : Act} {w : World} {zs : List Int} {k : FuncId} {B : Addr}
    (hseq : BackSeq P k) (hlen : zs.length ≤ 17592186044416) (hg : a.eval f = .func (.func k) #[] #[.pointer (some B)]) (I : Nat → World → Prop)
    (hI : ∀ n W W' row, I n W → W.grownBy W' row → (∀ r, row = some r → w.heap.size ≤ r ∧ ∃ o : Obj, W.heap[r]? = some o ∧ o.isCells = false) → I n W')
    (hbox : ∀ n W, I n W → BoxInts W B zs) (h0 : I zs.length w) (a₁ : Nat → Act)
    (hassign : ∀ (l n : Nat) (W : World) (K : Act → World → Prop), n < zs.length → K (a₁ n) W →
      assign.wpIn (FR (some l)) 0 P (Exit.then K (fun _ _ _ => False)) { tmps := ((#[p1, p2] : Array Tmp).zip #[.int .i64 n, .int .i64 (zs.getD n 0)]).foldl (fun t (p, v) => t.setIfInBounds p v) a.tmps, defers := [] } W)
    (hbody : ∀ (l n : Nat) (W : World), n < zs.length → I (n + 1) W → body.wpIn (FR (some l)) 0 P (fun e _ W' => match e with | .normal => KeepsOthers W W' ∧ I n W' | _ => False) (a₁ n) W)
    (hdone : ∀ (D : Nat) (W : World), w.heap.size ≤ D → I 0 W → W.heap[D]? = some (.deferred (some [])) → Q .normal { a with defers := { target := .collected D, args := #[] } :: a.defers } W) :
    (Code.rangeFunc f #[p1, p2] assign body).wpIn (FR none) m P Q a w := by
  refine wpIn_rangeFunc ?_
  intro fn hfn
  rw [show (FR none).round = none from rfl]
  obtain ⟨rec, hrec⟩ : ∃ rec : LoopState → Option Code → Loop, rec = fun st pe => { state := st, pending := pe, fn, tmps := a.tmps, params := #[p1, p2], assign, body, defers := w.heap.size } := ⟨_, rfl⟩
  obtain ⟨W1, hW1⟩ : ∃ W1, (w.alloc (.deferred (some []))).alloc (.loop (rec .ready none)) = W1 := ⟨_, rfl⟩
  have hL1 : W1.heap[w.heap.size + 1]? = some (.loop (rec .ready none)) := by
    rw [← hW1]; have := World.alloc_heap_new (w.alloc (.deferred (some []))) (.loop (rec .ready none)); rwa [World.size_alloc] at this
  have hK1 : W1.heap[w.heap.size]? = some (.deferred (some [])) := by
    rw [← hW1]; exact (Below.heap_alloc _ _ _ (by simp)).trans (World.alloc_heap_new w _)
  have hIa : ∀ {n : Nat} {W : World} (o : Obj), I n W → I n (W.alloc o) := fun {n W} o h => hI n W _ none h (World.grownBy_alloc W o none) (fun r e => by cases e)
  have hIp : ∀ {n : Nat} {W : World} {r : Nat} {o : Obj} (o' : Obj), I n W → w.heap.size ≤ r → W.heap[r]? = some o → o.isCells = false → I n (W.putObj r o') := fun {n W r o} o' h hr h1 h2 =>
    hI n W _ (some r) h (grownBy_putObj' W r o') (fun r' e => by cases e; exact ⟨hr, o, h1, h2⟩)
  have hI1 : I zs.length W1 := by rw [← hW1]; exact hIa _ (hIa _ h0)
  obtain ⟨⟨fk, ck, hf1, hf2, hf3⟩, hseq⟩ := hseq
  refine ⟨w.heap.size + 1, [{ target := .collected w.heap.size, args := #[] }], W1, { target := .fn (.func k) #[.pointer (some B)], args := #[.func (.yield (w.heap.size + 1)) #[] #[]] }, W1, k,
    #[.func (.yield (w.heap.size + 1)) #[] #[]] ++ #[.pointer (some B)], W1, ?_, ?_, fun _ _ => trivial, ?_, fun h => (by cases h), ?_⟩
  · rw [← hW1, hrec]; exact run_enterLoop_outer _ _ _ _ _
  · simp only [resolve, hg]
    simp [go_sem]
  · simp only [invoke, callFunc, Sem.run_bind, run_program, Result.andThen_ok, hf1, hf2, hf3]
    simp
  · refine callsIn_wide.2 (callsIn_wide.1 ((hseq (w.heap.size + 1) B zs (fun n W => I n W ∧ W.heap[w.heap.size + 1]? = some (.loop (rec .ready none)) ∧ W.heap[w.heap.size]? = some (.deferred (some []))) W1 hlen (fun n W h => hbox n W h.1) ?_ ⟨hI1, hL1, hK1⟩).mono ?_))
    · rintro n W hn ⟨hi, hl, hk⟩
      have hlt : w.heap.size + 1 < W.heap.size := (Array.getElem?_eq_some_iff.1 hl).1
      have hy := run_yield (P := P) (args := #[.int .i64 n, .int .i64 (zs.getD n 0)]) hl (by rw [hrec]; rfl)
      rw [hrec] at hy
      refine ⟨fn, _, assign, body, hy, roundIn_of_wpIn (F := Fence.wide) hfn (hassign _ n W _ hn ⟨_, run_beginRound hl (by rw [hrec]), ?_⟩)⟩
      have hl2 : (W.putObj (w.heap.size + 1) (.loop { rec .ready none with state := .busy })).heap[w.heap.size + 1]? = some (.loop { rec .ready none with state := .busy }) := World.putObj_heap_same hlt
      have hk2 : (W.putObj (w.heap.size + 1) (.loop { rec .ready none with state := .busy })).heap[w.heap.size]? = some (.deferred (some [])) := (World.putObj_heap_other (by omega)).trans hk
      refine wpIn_mono (hbody _ n _ hn (hIp _ hi (by omega) hl rfl)) ?_
      rintro e a3 W3 hp
      cases e with
      | normal =>
        obtain ⟨hk3, hi3⟩ := hp
        have hl3 := hk3.same _ _ hl2 rfl
        have hr := run_endRound (P := P) none hl3
        rw [hrec] at hr
        refine ⟨_, _, hr, rfl, hIp _ hi3 (by omega) hl3 rfl, ?_, ?_⟩
        · rw [hrec]; exact World.putObj_heap_same (Array.getElem?_eq_some_iff.1 hl3).1
        · exact (World.putObj_heap_other (by omega)).trans (hk3.same _ _ hk2 rfl)
      | ret => exact hp.elim
      | exit id => exact hp.elim
      | goto t => exact hp.elim
      | panic ch => exact hp.elim
      | outgrown => exact hp.elim
    · rintro e W2 ⟨⟨v, rfl⟩, hi, hl, hk⟩
      exact ⟨none, _, by have := run_endLoop (P := P) hl (by rw [hrec]; simp); rw [hrec] at this; exact this, hdone _ _ (Nat.le_refl _) (hIp _ hi (by omega) hl rfl) ((World.putObj_heap_other (by omega)).trans hk)⟩
end Go.V
/- The value logic, part 18: regions, code, functions. -/
set_option linter.unusedVariables false
set_option linter.unusedSimpArgs false
namespace Go.V
open Go.RowKit

/-- Is the guard met? 'ds': the temporaries of the region's operations. -/
def guardK (ds : List (Option Nat)) (env : Env) (gd : Option (Nat × Bool)) (K : Bool → Prop) : Prop :=
  match gd with
  | none => K true
  | some (j, want) => match ds[j]? with
    | some (some t) => match env.get t with
      | .bool z => K (z == want)
      | .cnd c' (.bool z) => K (c' && (z == want))
      | _ => False
    | _ => False

def wrapK (gd : Option (Nat × Bool)) (c : Bool) (v : PV) : PV :=
  match gd with
  | none => v
  | some _ => .cnd c v

def dstOk (N : Nat) : Option Nat → Prop
  | none => True
  | some d => d < N

/-- One operation. -/
def opK (P : Program) (tt : TT) (N : Nat) (ds : List (Option Nat)) (fid : Nat) (o : Oper) (env : Env) (g : Store) (K : Env → Store → Prop) : Prop :=
  dstOk N o.dst ∧ guardK ds env o.guard fun c => (c = false ∧ K (env.put o.dst (.cnd false (.bool false))) g) ∨
    execK P tt c o.op (o.op.operands.toList.map env.eval) g fid fun v u => (u = [] ∨ c = true) ∧ K (env.put o.dst (wrapK o.guard c v)) (upds g u)

/-- A call that lends own objects. -/
def opR (P : Program) (N : Nat) (o : Oper) (env : Env) (g : Store) (K : Env → Store → Prop) : Prop :=
  o.guard = none ∧ dstOk N o.dst ∧ ∃ cl x k fs cap args, o.op = .call cl ∧ cl.callee = .value x ∧ o.op.operands.toList.map env.eval = .fn k fs cap :: args ∧
    callR P k (fs ++ args ++ cap) g fun v g' => K (env.put o.dst v) g'

/-- Operations in the order of the text. -/
def seqK (P : Program) (tt : TT) (N : Nat) (ds : List (Option Nat)) : List Oper → Nat → Env → Store → (Env → Store → Prop) → Prop
  | [], _, env, g, Q => Q env g
  | o :: rest, fid, env, g, Q => (opK P tt N ds fid o env g fun env' g' => seqK P tt N ds rest (fid + 1) env' g' Q) ∨ opR P N o env g fun env' g' => seqK P tt N ds rest (fid + 1) env' g' Q

/-- The same, with what each touches. -/
def lexK (P : Program) (tt : TT) (N : Nat) (ds : List (Option Nat)) : List Oper → Nat → Env → Store → List FP → (List FP → Env → Store → Prop) → Prop
  | [], _, env, g, acc, Q => Q acc env g
  | o :: rest, fid, env, g, acc, Q => opK P tt N ds fid o env g fun env' g' => lexK P tt N ds rest (fid + 1) env' g' (fpOf o.op (o.op.operands.toList.map env.eval) fid :: acc) Q

section
variable {P : Program} {tt : TT} {N : Nat}

def GuardedG (ops : Array Oper) (e : E) (gd : Option (Nat × Bool)) (c : Bool) : Prop :=
  match gd with
  | none => c = true
  | some (j, want) => match (ops[j]?).bind (·.dst) with
    | some t => GCond (e t) want c
    | none => False

theorem guardK_sound {ops : Array Oper} {env : Env} {gd : Option (Nat × Bool)} {K : Bool → Prop} (h : guardK (ops.toList.map (·.dst)) env gd K) :
    ∃ c, K c ∧ GuardedG ops env.get gd c := by
  unfold guardK at h
  unfold GuardedG
  cases gd with
  | none => exact ⟨true, h, rfl⟩
  | some x =>
    obtain ⟨j, want⟩ := x
    simp only [List.getElem?_map, Array.getElem?_toList] at h ⊢
    split at h
    · rename_i t ht
      have ht' : (ops[j]?).bind (·.dst) = some t := by
        cases hq : ops[j]? with
        | none => rw [hq] at ht; cases ht
        | some oj => rw [hq] at ht; simpa using ht
      rw [ht']
      split at h
      · rename_i z hz
        exact ⟨_, h, by simp only [hz, GCond]⟩
      · rename_i c' z hz
        exact ⟨_, h, by simp only [hz, GCond]⟩
      · exact h.elim
    · exact h.elim

theorem opK_sound {ops : Array Oper} {i bid : Nat} {o : Oper} (ho : ops[i]? = some o) {env : Env} {g : Store} {K : Env → Store → Prop} (h : opK P tt N (ops.toList.map (·.dst)) (bid + i) o env g K) :
    (∀ d, o.dst = some d → d < N) ∧ ∃ env' g', VStep P tt ops bid i (env.get, g) (env'.get, g') ∧ K env' g' := by
  obtain ⟨hd, h⟩ := h
  refine ⟨fun d hdd => by rw [hdd] at hd; exact hd, ?_⟩
  have key : ∀ c, Guarded ops env.get o c → (execK P tt c o.op (o.op.operands.toList.map env.eval) g (bid + i) fun v u => (u = [] ∨ c = true) ∧ K (env.put o.dst (wrapK o.guard c v)) (upds g u)) →
      ∃ env' g', VStep P tt ops bid i (env.get, g) (env'.get, g') ∧ K env' g' := by
    intro c hg hx
    obtain ⟨v, u, h1, h2, h3⟩ := execK_sound (by simp) hx
    refine ⟨_, _, ?_, h3⟩
    unfold VStep
    rw [ho]
    refine ⟨c, v, u, hg, fun hc => ?_, fun hc => ?_, ?_⟩
    · have e : o.op.operands.toList.map env.eval = E.vals env.get o := by
        unfold E.vals
        exact List.map_congr_left fun x _ => Env.eval_get env x
      rw [← e]; exact h1 hc
    · rcases h2 with h2 | h2
      · exact h2
      · rw [hc] at h2; cases h2
    · rw [Env.get_put]
      have : wrapK o.guard c v = wrap o c v := by
        unfold wrapK wrap
        cases o.guard <;> rfl
      rw [this]
  obtain ⟨c, hx, hg⟩ := guardK_sound h
  rcases hx with ⟨rfl, hx⟩ | hx
  · refine ⟨_, _, ?_, hx⟩
    unfold VStep
    rw [ho]
    refine ⟨false, .bool false, [], hg, fun hc => (by cases hc), fun _ => rfl, ?_⟩
    rw [Env.get_put]
    have : wrap o false (.bool false) = .cnd false (.bool false) := by
      unfold wrap
      unfold GuardedG at hg
      cases hgd : o.guard with
      | none => rw [hgd] at hg; cases hg
      | some x => rfl
    rw [this]
    rfl
  · exact key c hg hx

theorem call_get {w0 w : World} {B0 : Nat → Prop} {g : Store} {μ : Mu} {ρ : Operand → Value} {c : Call} {x : Operand} {k : FuncId} {fs cap args : List PV}
    (hr : Reps w (Stab w0 B0 g μ w) μ ρ (.fn k fs cap :: args) (Op.call c).operands.toList) (h2 : c.callee = .value x) :
    ∃ xs cs : Array Value, ρ x = .func (.func k) xs cs ∧ (fs ++ args ++ cap).length = (xs ++ c.args.map ρ ++ cs).size ∧
        ∀ (j : Nat) (p : PV) (u : Value), (fs ++ args ++ cap)[j]? = some p → (xs ++ c.args.map ρ ++ cs).toList[j]? = some u → Rep w (Stab w0 B0 g μ w) μ p u := by
  obtain ⟨hl, hr⟩ := hr
  have h0 := hr 0 (.fn k fs cap) x rfl (by simp [Op.operands, Call.operands, h2])
  generalize hvx : ρ x = vx at h0
  cases h0 with
  | fn _ _ _ _ xs cs hl1 hl2 q1 q2 =>
  have hla : args.length = c.args.size := by simp [Op.operands, Call.operands, h2] at hl; omega
  refine ⟨xs, cs, rfl, by simp; omega, fun j p u hp hu => ?_⟩
  simp only [Array.toList_append] at hu
  by_cases j1 : j < fs.length
  · rw [List.append_assoc, List.getElem?_append_left j1] at hp
    rw [List.append_assoc, List.getElem?_append_left (by simp; omega)] at hu
    exact q1 j p u hp (by simpa using hu)
  · by_cases j2 : j < fs.length + args.length
    · rw [List.append_assoc, List.getElem?_append_right (by omega), List.getElem?_append_left (by omega)] at hp
      rw [List.append_assoc, List.getElem?_append_right (by simp; omega), List.getElem?_append_left (by simp; omega)] at hu
      have e1 : j - xs.toList.length = j - fs.length := by simp; omega
      rw [e1] at hu
      simp at hu
      obtain ⟨y, hy, rfl⟩ := hu
      exact hr (j - fs.length + 1) p y (by simpa using hp) (by simp [Op.operands, Call.operands, h2, hy])
    · rw [List.append_assoc, List.getElem?_append_right (by omega), List.getElem?_append_right (by omega)] at hp
      rw [List.append_assoc, List.getElem?_append_right (by simp; omega), List.getElem?_append_right (by simp; omega)] at hu
      refine q2 _ p u hp ?_
      rw [← hu]
      simp
      congr 1; omega

theorem opR_sound {rr : Option Nat} {m : Nat} {w0 : World} {KA' : KA} {B0 : Nat → Prop} {ops : Array Oper} {i : Nat} {o : Oper} (ho : ops[i]? = some o) {env : Env} {g : Store} {K : Env → Store → Prop} {a : Act} {w : World}
    (h : opR P N o env g K) (hst : StRel w0 KA' B0 N (env.get, g) a w) {Q : Exit → Act → World → Prop} {Kc : Act → World → Prop}
    (hK : ∀ env' g' a' w', K env' g' → StRel w0 KA' B0 N (env'.get, g') a' w' → Kc a' w') : Go.wpOpIn (FR rr) m P ops Q i Kc a w := by
  obtain ⟨hgd, hd, cl, x, k, fs, cap, args, h1, h2, h3, h4⟩ := h
  obtain ⟨mm, μ, hS, hE, hN, hD⟩ := hst
  have hw := wanted_of (o := o) (ops := ops) hE (c := true) (by unfold Guarded; rw [hgd])
  unfold Go.wpOpIn
  rw [ho]
  simp only
  rw [if_pos hw]
  refine ⟨fun _ _ => trivial, ?_⟩
  have hreps : Reps w (Stab w0 B0 g μ w) μ a.eval (.fn k fs cap :: args) o.op.operands.toList := by
    rw [← h3]
    refine ⟨by simp, fun j p x hp hxx => ?_⟩
    simp only [List.getElem?_map, hxx, Option.map_some, Option.some.injEq] at hp
    subst hp
    rw [Env.eval_get]
    exact rep_eval hE x
  rw [h1] at hreps
  obtain ⟨xs, cs, hx, hlen, hall⟩ := call_get hreps h2
  obtain ⟨he, hcall⟩ := callR_sound h4 hS (vs := (xs ++ cl.args.map a.eval ++ cs).toList) (by rw [hlen]; simp) hall
  rw [Array.toArray_toList] at hcall
  rw [Oper.semAt_eq _ _ _ (fun c hc => by rw [h1] at hc; cases hc), exec_call h1 h2 hx he, Oper.uponIn_enter]
  refine ⟨fun h => (by cases h), callsIn_FR.2 (hcall.mono fun e w' ⟨v, r, g', μ', he', hS', hG, hrep, hk⟩ => ?_)⟩
  subst he'
  refine hK _ _ _ _ hk ?_
  rw [Env.get_put]
  exact strel_put (s := (env.get, g)) hE hN hD hS' hG (fun d hdd => by rw [hdd] at hd; exact hd) hrep

theorem seqK_sound {rr : Option Nat} {m : Nat} (htt : TTOk P tt) {w0 : World} {KA' : KA} {B0 : Nat → Prop} {ops : Array Oper} {bid : Nat} {Q : Env → Store → Prop} {QX : Exit → Act → World → Prop}
    (hQ : ∀ env' g' a' w', Q env' g' → StRel w0 KA' B0 N (env'.get, g') a' w' → QX .normal a' w') : ∀ (l : List Oper) (k : Nat) (env : Env) (g : Store) (a : Act) (w : World), k + l.length = ops.size → (∀ j, l[j]? = ops[k + j]?) → seqK P tt N (ops.toList.map (·.dst)) l (bid + k) env g Q → StRel w0 KA' B0 N (env.get, g) a w →
    wpOpsIn (FR rr) m P ops QX (List.range' k l.length) a w
  | [], k, env, g, a, w, _, _, h, hs => hQ _ _ _ _ h hs
  | o :: l, k, env, g, a, w, hk, hl, h, hs => by
    have h0 : ops[k]? = some o := by simpa using (hl 0).symm
    rw [List.length_cons, List.range'_succ, wpOpsIn_cons]
    have hrec : ∀ env' g' a' w', seqK P tt N (ops.toList.map (·.dst)) l (bid + k + 1) env' g' Q → StRel w0 KA' B0 N (env'.get, g') a' w' → wpOpsIn (FR rr) m P ops QX (List.range' (k + 1) l.length) a' w' := fun env' g' a' w' hq hs' =>
      seqK_sound htt hQ l (k + 1) env' g' a' w' (by simp at hk; omega) (fun j => by have := hl (j + 1); simpa [Nat.add_assoc, Nat.add_comm 1 j] using this) hq hs'
    rcases h with h | h
    · obtain ⟨hd, env', g', hstep, hq⟩ := opK_sound h0 h
      exact hstep.wpOp htt (fun o' d ho' hd' => by rw [h0] at ho'; cases ho'; exact hd d hd') hs (fun a' w' hs' => hrec env' g' a' w' hq hs')
    · exact opR_sound h0 h hs hrec

theorem lexK_sound {ops : Array Oper} {bid : Nat} {Q : List FP → Env → Store → Prop} : ∀ (l : List Oper) (k : Nat) (env : Env) (g : Store) (acc : List FP), (∀ j, l[j]? = ops[k + j]?) → lexK P tt N (ops.toList.map (·.dst)) l (bid + k) env g acc Q →
    (∀ o ∈ l, ∀ d, o.dst = some d → d < N) ∧ vLex P tt ops bid (fun fps s' => ∃ env' g', s' = (env'.get, g') ∧ Q fps.reverse env' g') l k (env.get, g) acc
  | [], k, env, g, acc, _, h => ⟨fun o ho => (by cases ho), env, g, rfl, by rw [List.reverse_reverse]; exact h⟩
  | o :: l, k, env, g, acc, hl, h => by
    have h0 : ops[k]? = some o := by simpa using (hl 0).symm
    obtain ⟨hd, env', g', hs, hk⟩ := opK_sound h0 h
    have hfp : fpOf o.op (o.op.operands.toList.map env.eval) (bid + k) = stepFP ops bid k (env.get, g) := by
      unfold stepFP
      rw [h0]
      simp only [E.vals]
      congr 1
    rw [hfp] at hk
    have hrec := lexK_sound l (k + 1) env' g' _ (fun j => by have := hl (j + 1); simpa [Nat.add_assoc, Nat.add_comm 1 j] using this) hk
    exact ⟨fun o' ho' => by rcases List.mem_cons.1 ho' with rfl | ho'; exact hd; exact hrec.1 o' ho', _, hs, hrec.2⟩
end

theorem guardK_mono {ds : List (Option Nat)} {env : Env} {gd : Option (Nat × Bool)} {K K' : Bool → Prop} (h : guardK ds env gd K) (hk : ∀ c, K c → K' c) : guardK ds env gd K' := by
  unfold guardK at h ⊢
  cases gd with
  | none => exact hk _ h
  | some x =>
    obtain ⟨j, want⟩ := x
    simp only at h ⊢
    split at h
    · split at h
      · exact hk _ h
      · exact hk _ h
      · exact h.elim
    · exact h.elim

/-- How a piece of code is left. -/
inductive VX where
  | normal
  | exit (id : Nat)
  | ret

/-- A state seen with some slots and objects only, the objects renumbered: 'f' leads from the new numbers to the old ones. -/
def Fits (env : Env) (g : Store) (L : List Nat) (ps : List PV) (g0 : Store) : Prop :=
  ∃ f : Nat → Nat, ps.length = L.length ∧ (∀ (j : Nat) (t : Nat) (p : PV), L[j]? = some t → ps[j]? = some p → env.get t = PV.ren f p ∧ ∀ id ∈ p.refs, (g0 id).live = true) ∧
    (∀ id, g0 id = .fresh ∨ ((g0 id).live = true ∧ g (f id) = SC.ren f (g0 id) ∧ ∀ j ∈ (g0 id).refs, (g0 j).live = true)) ∧
    (∀ a b, (g0 a).live = true → (g0 b).live = true → f a = f b → a = b) ∧ ∀ a, a < 100 → (g0 a).live = true → f a = a

/-- A loop: a relation that bears a number, which every round lowers. -/
def LoopV (body : (VX → Env → Store → Prop) → Env → Store → Prop) (Q : VX → Env → Store → Prop) (env : Env) (g : Store) : Prop :=
  ∃ (L : List Nat) (I : Nat → List PV → Store → Prop) (n : Nat), (∃ ps g0, I n ps g0 ∧ Fits env g L ps g0) ∧
    ∀ m ps g', I m ps g' → body (fun x env' g'' => match x with
      | .normal => ∃ m', m' < m ∧ ∃ ps' g1, I m' ps' g1 ∧ Fits env' g'' L ps' g1
      | x => Q x env' g'') (L.zip ps) g'

/-- Does the code go over a function? -/
def noRange : Code → Bool
  | .seq a b => noRange a && noRange b
  | .cond _ a b => noRange a && noRange b
  | .block _ b => noRange b
  | .loop b => noRange b
  | .scope b => noRange b
  | .rangeFunc .. => false
  | _ => true

/-- A store whose objects all are in D, and stay where they are. -/
def OkSt (D : List Nat) (g : Store) : Prop := ∀ id, (id ∈ D → (g id).live = true ∧ id < 100 ∧ (∀ T es, g id ≠ .omap T es) ∧ ∀ j ∈ (g id).refs, (g j).live = true) ∧ (id ∉ D → g id = .fresh)
/-- The assignments at the beginning of a round. -/
def AsgOk (N : Nat) (l : List Oper) : Prop := ∀ o ∈ l, (∃ x, o.op = .assign (.tmp x)) ∧ o.guard = none ∧ dstOk N o.dst
def asgEnv (l : List Oper) (e : Env) : Env := l.foldl (fun e o => e.put o.dst (match o.op with | .assign x => e.eval x | _ => .undef)) e

/-- The numbers of the objects of a range's rounds (below 100) are those without less 100. -/
def sh (i : Nat) : Nat := i + 100
def shiftS (g : Store) : Store := fun id => if 100 ≤ id ∧ id < 200 then SC.ren sh (g (id - 100)) else .fresh

/-- A range over slices.Backward: a relation on stores, for the number of elements that are left. -/
def RangeV (P : Program) (N : Nat) (f : Operand) (ps : Array Tmp) (asg : Code) (body : (VX → Env → Store → Prop) → Env → Store → Prop) (Q : VX → Env → Store → Prop) (env : Env) (g : Store) : Prop :=
  ∃ (k box T : Nat) (zs : List Int) (p1 p2 id : Nat) (ops : List Oper) (L : List Nat) (ps0 : List PV) (g0 : Store) (D : List Nat) (J : Nat → Store → Prop),
    ps = #[p1, p2] ∧ p1 < N ∧ p2 < N ∧ asg = .region id ops.toArray false ∧ AsgOk N ops ∧ BackSeq P k ∧ zs.length ≤ 17592186044416 ∧
    Env.eval (L.zip (PV.renL sh ps0)) f = .fn k [] [.ptr (box + 100) 1 0 0] ∧ Fits env g L (PV.renL sh ps0) (shiftS g0) ∧ J zs.length g0 ∧ box < 100 ∧
    (∀ n g', J n g' → OkSt D g' ∧ g' box = .row T 1 [.slc 1 (zs.map (PV.int .i64))]) ∧ (∀ id ∈ PV.refsL ps0, id ∈ D) ∧
    (∀ (n : Nat) g', n < zs.length → J (n + 1) g' → body (fun x _ g'' => x = .normal ∧ ∃ g1, J n g1 ∧ ∀ id ∈ D, g'' id = g1 id)
      (asgEnv ops ((Env.put (L.zip ps0) (some p1) (.int .i64 n)).put (some p2) (.int .i64 (zs.getD n 0)))) g') ∧
    ∀ g', J 0 g' → Q .normal (L.zip (PV.renL sh ps0)) (shiftS g')

/-- The weakest precondition of a piece of code. -/
def wp (P : Program) (tt : TT) (N : Nat) : Code → (VX → Env → Store → Prop) → Env → Store → Prop
  | .skip, Q, env, g => Q .normal env g
  | .region id ops false, Q, env, g => seqK P tt N (ops.toList.map (·.dst)) ops.toList (1000 * (id + 1)) env g fun env' g' => Q .normal env' g'
  | .region id ops true, Q, env, g => lexK P tt N (ops.toList.map (·.dst)) ops.toList (1000 * (id + 1)) env g [] fun acc env' g' => regionOk ops acc.reverse = true ∧ Q .normal env' g'
  | .seq a b, Q, env, g => wp P tt N a (fun x env' g' => match x with
    | .normal => wp P tt N b Q env' g'
    | x => Q x env' g') env g
  | .cond c a b, Q, env, g => ∃ t, env.eval c = .bool t ∧ (t = true → wp P tt N a Q env g) ∧ (t = false → wp P tt N b Q env g)
  | .block id body, Q, env, g => wp P tt N body (fun x env' g' => match x with
    | .exit id' => if id' = id then Q .normal env' g' else Q (.exit id') env' g'
    | x => Q x env' g') env g
  | .loop body, Q, env, g => LoopV (wp P tt N body) Q env g
  | .exit id, Q, env, g => Q (.exit id) env g
  | .scope body, Q, env, g => wp P tt N body Q env g
  | .ret, Q, env, g => Q .ret env g
  | .rangeFunc f ps asg body, Q, env, g => noRange body = true ∧ RangeV P N f ps asg (wp P tt N body) Q env g
  | _, _, _, _ => False

end Go.V
/- The value logic, part 19: soundness of the weakest precondition; contracts out of it. -/
set_option linter.unusedVariables false
set_option linter.unusedSimpArgs false
namespace Go.V
open Go.RowKit

section
variable {P : Program} {tt : TT} {w0 : World} {K : KA} {B0 : Nat → Prop} {N : Nat}

theorem zip_get : ∀ (L : List Nat) (ps : List PV) (t : Nat), Env.get (L.zip ps) t = .undef ∨ ∃ (j : Nat) (p : PV), L[j]? = some t ∧ ps[j]? = some p ∧ Env.get (L.zip ps) t = p
  | [], _, t => .inl rfl
  | _ :: _, [], t => .inl rfl
  | a :: L, p :: ps, t => by
    simp only [List.zip_cons_cons, Env.get]
    by_cases h : a = t
    · subst h; exact .inr ⟨0, p, rfl, rfl, by simp⟩
    · rw [if_neg h]
      rcases zip_get L ps t with h1 | ⟨j, q, h1, h2, h3⟩
      · exact .inl h1
      · exact .inr ⟨j + 1, q, h1, h2, h3⟩

theorem fits_sim {f : Nat → Nat} {g g0 : Store} {μ : Mu} {w : World} (hobj : ∀ id, g0 id = .fresh ∨ ((g0 id).live = true ∧ g (f id) = SC.ren f (g0 id) ∧ ∀ j ∈ (g0 id).refs, (g0 j).live = true))
    (hinj : ∀ a b, (g0 a).live = true → (g0 b).live = true → f a = f b → a = b) (hanch : ∀ a, a < 100 → (g0 a).live = true → f a = a) (hS : Sim w0 K B0 g μ w) :
    ∃ μ0, Sim w0 K B0 g0 μ0 w ∧ ∀ p v, Rep w (Stab w0 B0 g μ w) μ (PV.ren f p) v → (∀ id ∈ p.refs, (g0 id).live = true) → Rep w (Stab w0 B0 g0 μ0 w) μ0 p v := by
  let μ0 : Mu := fun id => if (g0 id).live = true then μ (f id) else none
  have hμ0 : ∀ id, (g0 id).live = true → μ0 id = μ (f id) := fun id h => by simp [μ0, h]
  have hlv : ∀ id, (g0 id).live = true → (g (f id)).live = true ∧ g (f id) = SC.ren f (g0 id) ∧ ∀ j ∈ (g0 id).refs, (g0 j).live = true := fun id h => by
    rcases hobj id with h1 | ⟨_, h2, h3⟩
    · rw [h1] at h; simp [SC.live] at h
    · exact ⟨by rw [h2, ren_live]; exact h, h2, h3⟩
  have hown : ∀ b, Own g0 μ0 b → Own g μ b := fun b ⟨id, base, hl, hm⟩ => ⟨f id, base, (hlv id hl).1, by rw [hμ0 id hl] at hm; exact hm⟩
  have hstab : ∀ b, Stab w0 B0 g μ w b → Stab w0 B0 g0 μ0 w b := fun b ⟨h1, h2, h3⟩ => ⟨h1, h2, fun h => h3 (hown b h)⟩
  have hun : ∀ p v, Rep w (Stab w0 B0 g μ w) μ (PV.ren f p) v → (∀ id ∈ p.refs, (g0 id).live = true) → Rep w (Stab w0 B0 g0 μ0 w) μ0 p v := fun p v hr hl => hr.unren hstab hμ0 p rfl hl
  have hSim : Sim w0 K B0 g0 μ0 w := by
    refine ⟨?_, ?_, ?_, ?_, hS.b0, hS.os, hS.tape, hS.output, hS.size, hS.kept, hS.sized, fun j hlt hl => by rw [hμ0 j hl, hanch j hlt hl]; exact hS.anch j hlt (by have := (hlv j hl).1; rw [hanch j hlt hl] at this; exact this), hS.marks⟩
    · intro id id' b base base' hl hl' hm hm'
      rw [hμ0 id hl] at hm; rw [hμ0 id' hl'] at hm'
      exact hinj id id' hl hl' (hS.inj _ _ _ _ _ (hlv id hl).1 (hlv id' hl').1 hm hm')
    · intro id
      constructor
      · intro hfr
        simp [μ0, hfr, SC.live]
      · intro hn
        rcases hobj id with h1 | ⟨h1, _⟩
        · exact h1
        · rw [hμ0 id h1] at hn
          obtain ⟨b, base, hb⟩ := hS.live_mu (hlv id h1).1
          rw [hb] at hn; cases hn
    · intro id b base hl hm
      rw [hμ0 id hl] at hm
      exact hS.blk _ _ _ (hlv id hl).1 hm
    · intro id b base hl hm
      rw [hμ0 id hl] at hm
      obtain ⟨h1, h2, h3⟩ := hlv id hl
      have hO := hS.obj _ _ _ h1 hm
      rw [h2] at hO
      cases hc : g0 id with
      | fresh => trivial
      | dead => trivial
      | row T sz es =>
        rw [hc] at hO h3
        simp only [SC.ren, renL_eq] at hO
        obtain ⟨cs, cap, c1, c2, c3, c4, c5⟩ := hO
        refine ⟨cs, cap, c1, fun e he => ?_, by simpa using c3, c4, fun j p hp => ?_⟩
        · have := c2 (PV.ren f e) (List.mem_map_of_mem he)
          rw [ren_cells, List.length_map] at this
          exact this
        · obtain ⟨v, a1, a2, a3⟩ := c5 j (PV.ren f p) (by rw [flat_ren, List.getElem?_map, hp]; rfl)
          exact ⟨v, a1, a2, hun p v a3 fun id hid => h3 id (by simpa [SC.refs] using flat_refs hp id hid)⟩
      | omap T es =>
        rw [hc] at hO h3
        simp only [SC.ren] at hO
        obtain ⟨h0, ms, clock, c1, c2, c3⟩ := hO
        refine ⟨h0, ms, clock, c1, by simpa using c2, fun j m e hm he => ?_⟩
        obtain ⟨a1, a2⟩ := c3 j m (PV.ren f e.1, PV.ren f e.2) hm (by simp [he])
        refine ⟨hun _ _ a1 fun id hid => h3 id ?_, hun _ _ a2 fun id hid => h3 id ?_⟩
        · simp only [SC.refs, List.mem_append]
          exact .inl (refsL_mem (List.mem_map_of_mem (List.mem_of_getElem? he)) id hid)
        · simp only [SC.refs, List.mem_append]
          exact .inr (refsL_mem (List.mem_map_of_mem (List.mem_of_getElem? he)) id hid)
  exact ⟨μ0, hSim, hun⟩

theorem Fits.strel {env : Env} {g g0 : Store} {L : List Nat} {ps : List PV} (hf : Fits env g L ps g0) {a : Act} {w : World} (h : StRel w0 K B0 N (env.get, g) a w) : StRel w0 K B0 N (Env.get (L.zip ps), g0) a w := by
  obtain ⟨f, hlen, hps, hobj, hinj, hanch⟩ := hf
  obtain ⟨mm, μ, hS, hE, hN, hD⟩ := h
  simp only at hS hE
  obtain ⟨μ0, hSim, hun⟩ := fits_sim hobj hinj hanch hS
  refine ⟨mm, μ0, hSim, fun t => ?_, hN, hD⟩
  · simp only
    rcases zip_get L ps t with h1 | ⟨j, p, h1, h2, h3⟩
    · rw [h1]; exact .undef _ _
    · rw [h3]
      obtain ⟨h4, h5⟩ := hps j t p h1 h2
      exact hun p _ (by rw [← h4]; exact hE t) h5

/-- What is asked where a piece of code is left. -/
def XQ (w0 : World) (K : KA) (B0 : Nat → Prop) (N : Nat) (Q : VX → Env → Store → Prop) : Exit → Act → World → Prop
  | .normal, a, w => ∃ env g, Q .normal env g ∧ StRel w0 K B0 N (env.get, g) a w
  | .exit id, a, w => ∃ env g, Q (.exit id) env g ∧ StRel w0 K B0 N (env.get, g) a w
  | .ret, a, w => ∃ env g, Q .ret env g ∧ StRel w0 K B0 N (env.get, g) a w
  | _, _, _ => False

theorem wpIn_scope_straight {F : Fence} {n : Nat} {c : Code} {Q : Exit → Act → World → Prop} {a : Act} {w : World} (h : c.wpIn F n P (Exit.noGoto Q) a w) : (Code.scope c).wpIn F n P Q a w := by
  intro b k cs hro hb hr
  have s1 : step P (lone (b.atR a (.code (.scope c) :: k)) cs w) = .next (lone (b.atR a (.code c :: .inScope c :: k)) cs w) := step_lone_go (by simp [stepG, stepG.exec, Frame.atR])
  have s2 : ∀ a w, step P (lone (b.atR a (.inScope c :: k)) cs w) = .next (lone (b.atR a k) cs w) := fun a w => step_lone_go (by simp [stepG, stepG.exec, Frame.atR])
  have h0 : (lone (b.atR a (.code (.scope c) :: k)) cs w).fenced P F := fenced_calm hb hr rfl
  obtain ⟨e, a₁, w₁, hq, harr⟩ := h b (.inScope c :: k) cs hro hb hr
  have hx : ∀ id, exitTo id (.inScope c :: k) = exitTo id k := fun id => by simp [exitTo]
  cases e with
  | normal => exact ⟨.normal, a₁, w₁, hq, .head h0 s1 (StepsIn.trans harr (.one (fenced_calm hb hr rfl) (s2 _ _)))⟩
  | exit id => exact ⟨.exit id, a₁, w₁, hq, fun k' hk => .head h0 s1 (harr.1 k' (by rw [hx]; exact hk)), fun hr' hk => let ⟨k₁, h1, h2⟩ := harr.2 hr' (by rw [hx]; exact hk); ⟨k₁, h1, .head h0 s1 h2⟩⟩
  | goto l => exact hq.elim
  | ret => exact ⟨_, a₁, w₁, hq, .of_steps (.one h0 s1) harr⟩
  | panic ch => exact ⟨_, a₁, w₁, hq, .of_steps (.one h0 s1) harr⟩
  | outgrown => exact ⟨_, a₁, w₁, hq, .of_steps (.one h0 s1) harr⟩

mutual
theorem PV.ren_self : ∀ p : PV, PV.ren (fun x => x) p = p
  | .sref .. => rfl
  | .ptr .. => rfl
  | .mref _ => rfl
  | .agg cs => by simp only [PV.ren, PV.renL_self cs]
  | .tup cs => by simp only [PV.ren, PV.renL_self cs]
  | .fn _ fs cs => by simp only [PV.ren, PV.renL_self fs, PV.renL_self cs]
  | .ifc _ p => by simp only [PV.ren, PV.ren_self p]
  | .cnd _ p => by simp only [PV.ren, PV.ren_self p]
  | .undef => rfl
  | .bool _ => rfl
  | .int .. => rfl
  | .str _ => rfl
  | .nilS => rfl
  | .slc .. => rfl
  | .vptr .. => rfl
  | .nilP => rfl
  | .nilF => rfl
  | .nilM => rfl
  | .nilI => rfl
theorem PV.renL_self : ∀ l : List PV, PV.renL (fun x => x) l = l
  | [] => rfl
  | p :: l => by simp only [PV.renL, PV.ren_self p, PV.renL_self l]
end
theorem SC.ren_self (c : SC) (h : ∀ T es, c ≠ .omap T es) : SC.ren (fun x => x) c = c := by
  cases c with
  | row T sz es => simp only [SC.ren, PV.renL_self]
  | omap T es => exact absurd rfl (h T es)
  | fresh => rfl
  | dead => rfl

theorem zip_ren (f : Nat → Nat) : ∀ (L : List Nat) (ps : List PV) (t : Nat), Env.get (L.zip (PV.renL f ps)) t = PV.ren f (Env.get (L.zip ps) t)
  | [], _, t => rfl
  | _ :: _, [], t => rfl
  | a :: L, p :: ps, t => by
    simp only [PV.renL, List.zip_cons_cons, Env.get]
    by_cases h : a = t
    · rw [if_pos h, if_pos h]
    · rw [if_neg h, if_neg h]; exact zip_ren f L ps t
theorem shiftS_at (g : Store) {id : Nat} (h : id < 100) : shiftS g (id + 100) = SC.ren sh (g id) := by
  unfold shiftS
  rw [if_pos ⟨by omega, by omega⟩, Nat.add_sub_cancel]
theorem shiftS_live {g : Store} {id : Nat} (h : (shiftS g id).live = true) : ∃ i, i < 100 ∧ id = i + 100 ∧ (g i).live = true := by
  unfold shiftS at h
  split at h
  · rename_i hc
    exact ⟨id - 100, by omega, by omega, by rw [ren_live] at h; exact h⟩
  · simp [SC.live] at h

def asgAct (l : List Oper) (a : Act) : Act := l.foldl (fun a o => a.put o.dst (match o.op with | .assign x => a.eval x | _ => Go.undef)) a

theorem asg_wpOps {F : Fence} {n : Nat} {ops : Array Oper} {Q : Exit → Act → World → Prop} {w : World} (hF : ∀ f, F.fn f) : ∀ (l : List Oper) (k : Nat) (a : Act), (∀ j, l[j]? = ops[k + j]?) → AsgOk N l → k + l.length = ops.size → Q .normal (asgAct l a) w →
    wpOpsIn F n P ops Q (List.range' k l.length) a w
  | [], k, a, _, _, _, h => h
  | o :: l, k, a, hl, hok, hk, h => by
    have h0 : ops[k]? = some o := by simpa using (hl 0).symm
    obtain ⟨⟨x, hx⟩, hg, hd⟩ := hok o (by simp)
    rw [List.length_cons, List.range'_succ, wpOpsIn_cons]
    unfold wpOpIn
    rw [h0]
    simp only
    rw [if_pos (by unfold Region.wanted; rw [hg])]
    refine ⟨fun f _ => hF f, ?_⟩
    rw [Oper.semAt_eq _ _ _ (fun c hc => by rw [hx] at hc; cases hc)]
    have he : (execOp a.eval o).run P w = .ok (.value (a.eval (.tmp x))) w := by
      unfold execOp
      simp only [hx, Sem.run_pure]
    rw [he, Oper.uponIn_value]
    refine asg_wpOps hF l (k + 1) _ (fun j => by have := hl (j + 1); simpa [Nat.add_assoc, Nat.add_comm 1 j] using this) (fun o ho => hok o (by simp [ho])) (by simp at hk; omega) ?_
    have : asgAct (o :: l) a = asgAct l (a.put o.dst (a.eval (.tmp x))) := by simp only [asgAct, List.foldl_cons, hx]
    rw [this] at h
    exact h

theorem asg_strel : ∀ (l : List Oper) (env : Env) (g : Store) (a : Act) (w : World), AsgOk N l → StRel w0 K B0 N (env.get, g) a w → StRel w0 K B0 N ((asgEnv l env).get, g) (asgAct l a) w
  | [], env, g, a, w, _, h => h
  | o :: l, env, g, a, w, hok, h => by
    obtain ⟨⟨x, hx⟩, hg, hd⟩ := hok o (by simp)
    have e1 : asgAct (o :: l) a = asgAct l (a.put o.dst (a.eval (.tmp x))) := by simp only [asgAct, List.foldl_cons, hx]
    have e2 : asgEnv (o :: l) env = asgEnv l (env.put o.dst (env.eval (.tmp x))) := by simp only [asgEnv, List.foldl_cons, hx]
    rw [e1, e2]
    refine asg_strel l _ g _ w (fun o ho => hok o (by simp [ho])) ?_
    obtain ⟨m, μ, hS, hE, hN, hM⟩ := h
    have hr := rep_eval hE (.tmp x)
    rw [← Env.eval_get] at hr
    rw [Env.get_put]
    exact strel_put (s := (env.get, g)) hE hN hM hS .refl (fun d hdd => by rw [hdd] at hd; exact hd) hr

theorem flat_int : ∀ zs : List Int, flat (zs.map (PV.int .i64)) = zs.map (PV.int .i64)
  | [] => rfl
  | z :: zs => by
    have ih := flat_int zs
    unfold flat at ih ⊢
    rw [List.map_cons, List.flatMap_cons, ih]
    rfl
theorem box_ints {m : Nat → Prop} {μ : Mu} {g : Store} {w : World} {a : Act} {env : Env} (hS : Sim w0 (K.wm m) B0 g μ w) (hE : ∀ t, Rep w (Stab w0 B0 g μ w) μ (env.get t) (a.tmps.getD t Go.undef))
    {f : Operand} {k box T : Nat} {zs : List Int} (hf : env.eval f = .fn k [] [.ptr box 1 0 0]) (hb : g box = .row T 1 [.slc 1 (zs.map (PV.int .i64))]) :
    ∃ B, a.eval f = .func (.func k) #[] #[.pointer (some B)] ∧ BoxInts w B zs := by
  have hr := rep_eval hE f
  rw [← Env.eval_get, hf] at hr
  generalize a.eval f = vf at hr
  cases hr with
  | fn _ _ _ _ xs vs hl hl' h1 h2 =>
  have hx : xs = #[] := Array.eq_empty_of_size_eq_zero (by simpa using hl.symm)
  obtain ⟨v0, rfl⟩ : ∃ v0, vs = #[v0] := by
    have hs : vs.size = 1 := by simpa using hl'.symm
    exact ⟨vs[0], Array.ext (by simp [hs]) (fun i h1 h2 => by simp at h2; subst h2; rfl)⟩
  have hp := h2 0 (.ptr box 1 0 0) v0 rfl rfl
  subst hx
  cases hp with
  | ptr _ _ _ _ _ b base hm =>
  refine ⟨_, rfl, ?_⟩
  have hO := hS.obj box b base (by rw [hb]; rfl) hm
  rw [hb] at hO
  obtain ⟨p, v, c1, c2, _, c4⟩ := row_at hO (i := 0) (k := 0) (by simp) (by omega)
  have hp : p = .slc 1 (zs.map (PV.int .i64)) := by simpa [PV.cells] using c1.symm
  subst hp
  generalize hes : zs.map (PV.int .i64) = es at c4
  have hlen : zs.length = es.length := by rw [← hes]; simp
  cases c4 with
  | slc0 _ _ a c =>
    refine ⟨a, c, by rw [hlen]; simpa using c2, fun j hj => ?_⟩
    simp at hlen; rw [hlen] at hj; simp at hj
  | slc _ _ _ b2 off c hn hB vs hs h1 hc hrr =>
    refine ⟨some ⟨b2, off, none⟩, c, by rw [hlen]; simpa using c2, fun j hj => ⟨b2, off, rfl, ?_⟩⟩
    have hfl : flat es = es := by rw [← hes]; exact flat_int zs
    rw [hfl] at hc hrr
    have hcj := hc j (by omega)
    have hej : es[j]? = some (.int .i64 (zs.getD j 0)) := by rw [← hes]; simp [List.getElem?_map, List.getD_eq_getElem?_getD, List.getElem?_eq_getElem hj]
    have := hrr j _ hej
    generalize vs j = u at this hcj
    cases this
    exact hcj

theorem wp_sound (htt : TTOk P tt) (hm : P.follows .mixedOrders = true) : ∀ (c : Code) {r : Option Nat} {m : Nat} {w0 : World} {K : KA} {B0 : Nat → Prop} (Q : VX → Env → Store → Prop) (env : Env) (g : Store) (a : Act) (w : World), (r = none ∨ noRange c = true) → wp P tt N c Q env g → StRel w0 K B0 N (env.get, g) a w → c.wpIn (FR r) m P (XQ w0 K B0 N Q) a w := by
  intro c
  induction c with
  | skip => intro r m w0 K B0 Q env g a w hr h hs; exact wpIn_skip ⟨env, g, h, hs⟩
  | region id ops draw =>
    intro r m w0 K B0 Q env g a w hr h hs
    cases draw with
    | false =>
      simp only [wp] at h
      refine wpIn_region ?_
      have := seqK_sound (rr := r) (m := m) htt (ops := ops) (bid := 1000 * (id + 1)) (QX := XQ w0 K B0 N Q) (fun env' g' a' w' hq hs' => ⟨env', g', hq, hs'⟩) ops.toList 0 env g a w (by simp) (by simp) h hs
      rw [List.range_eq_range']
      simpa using this
    | true =>
      simp only [wp] at h
      obtain ⟨hd, hx⟩ := lexK_sound (ops := ops) (bid := 1000 * (id + 1)) ops.toList 0 env g [] (by simp) h
      refine region_sound (r := r) (m := m) htt hm (bid := 1000 * (id + 1)) (fun i o d ho hdd => hd o (List.mem_of_getElem? (by rw [Array.getElem?_toList]; exact ho)) d hdd) hs (QV := fun s => ∃ env' g', s = (env'.get, g') ∧ Q .normal env' g') ?_ ?_
      · rintro s' a' w' ⟨env', g', rfl, hq⟩ hs'
        exact ⟨env', g', hq, hs'⟩
      · have key : ∀ (l : List Oper) (k : Nat) (s : E × Store) (acc : List FP), vLex P tt ops (1000 * (id + 1)) (fun fps s' => ∃ env' g', s' = (env'.get, g') ∧ regionOk ops fps.reverse.reverse = true ∧ Q .normal env' g') l k s acc →
            vLex P tt ops (1000 * (id + 1)) (fun fps s' => (true = true → regionOk ops fps = true) ∧ ∃ env' g', s' = (env'.get, g') ∧ Q .normal env' g') l k s acc := by
          intro l
          induction l with
          | nil =>
            intro k s acc ⟨env', g', h1, h2, h3⟩
            rw [List.reverse_reverse] at h2
            exact ⟨fun _ => h2, env', g', h1, h3⟩
          | cons o l ih => intro k s acc ⟨s', h1, h2⟩; exact ⟨s', h1, ih _ _ _ h2⟩
        exact key _ _ _ _ hx
  | seq x y ihx ihy =>
    intro r m w0 K B0 Q env g a w hr h hs
    refine wpIn_seq (wpIn_mono (ihx _ env g a w (hr.imp id fun h => (Bool.and_eq_true_iff.1 h).1) h hs) ?_)
    intro e a' w' hq
    cases e with
    | normal => obtain ⟨env', g', h1, h2⟩ := hq; exact ihy Q env' g' a' w' (hr.imp id fun h => (Bool.and_eq_true_iff.1 h).2) h1 h2
    | exit id => exact hq
    | ret => exact hq
    | goto l => exact hq.elim
    | panic ch => exact hq.elim
    | outgrown => exact hq.elim
  | cond c x y ihx ihy =>
    intro r m w0 K B0 Q env g a w hr h hs
    obtain ⟨t, ht, h1, h2⟩ := h
    have he : a.eval c = .bool t := by
      obtain ⟨mm, μ, hS, hE, hN, hD⟩ := hs
      have := rep_eval hE c
      simp only at this
      rw [← Env.eval_get, ht] at this
      exact rep_bool this
    exact wpIn_cond_split he (fun htt' => ihx Q env g a w (hr.imp id fun h => (Bool.and_eq_true_iff.1 h).1) (h1 htt') hs) (fun htf => ihy Q env g a w (hr.imp id fun h => (Bool.and_eq_true_iff.1 h).2) (h2 htf) hs)
  | block id body ih =>
    intro r m w0 K B0 Q env g a w hr h hs
    refine wpIn_block (wpIn_mono (ih _ env g a w hr h hs) ?_)
    intro e a' w' hq
    cases e with
    | normal => exact hq
    | exit id' =>
      obtain ⟨env', g', h1, h2⟩ := hq
      simp only [Exit.inBlock]
      simp only at h1
      split
      · rename_i hid; rw [if_pos hid] at h1; exact ⟨env', g', h1, h2⟩
      · rename_i hid; rw [if_neg hid] at h1; exact ⟨env', g', h1, h2⟩
    | ret => exact hq
    | goto l => exact hq.elim
    | panic ch => exact hq.elim
    | outgrown => exact hq.elim
  | loop body ih =>
    intro r m w0 K B0 Q env g a w hr h hs
    obtain ⟨L, I, n, ⟨ps, g0, hI, hF⟩, hround⟩ := h
    refine wpIn_loop_ghost (fun m a w => ∃ ps g', I m ps g' ∧ StRel w0 K B0 N (Env.get (L.zip ps), g') a w) n ⟨ps, g0, hI, hF.strel hs⟩ ?_
    rintro m1 a' w' ⟨ps', g', hI', hs'⟩
    refine wpIn_mono (ih _ _ _ a' w' hr (hround m1 ps' g' hI') hs') ?_
    intro e a2 w2 hq
    cases e with
    | normal =>
      obtain ⟨env', g'', ⟨m', hlt, ps2, g2, hI2, hF2⟩, hs2⟩ := hq
      exact ⟨m', hlt, ps2, g2, hI2, hF2.strel hs2⟩
    | exit id => exact hq
    | ret => exact hq
    | goto l => exact hq.elim
    | panic ch => exact hq.elim
    | outgrown => exact hq.elim
  | exit id => intro r m w0 K B0 Q env g a w hr h hs; exact wpIn_exit ⟨env, g, h, hs⟩
  | scope body ih =>
    intro r m w0 K B0 Q env g a w hr h hs
    refine wpIn_scope_straight (wpIn_mono (ih Q env g a w hr h hs) ?_)
    intro e a' w' hq
    cases e with
    | normal => exact hq
    | exit id => exact hq
    | ret => exact hq
    | goto l => exact hq.elim
    | panic ch => exact hq.elim
    | outgrown => exact hq.elim
  | ret => intro r m w0 K B0 Q env g a w hr h hs; exact wpIn_ret ⟨env, g, h, hs⟩
  | rangeFunc f ps asg body iha ih =>
    intro r m w0 K B0 Q env g a w hr h hs
    obtain rfl : r = none := hr.resolve_right (by simp [noRange])
    obtain ⟨hnr, k, box, T, zs, p1, p2, id, ops, L, ps0, g0, D, J, rfl, hp1, hp2, rfl, hops, hseq, hlen, hf, hfit, hJ0, hbx, hJ, hrefs, hround, hend⟩ := h
    have hbox' : ∀ n g', J n g' → shiftS g' (box + 100) = .row T 1 [.slc 1 (zs.map (PV.int .i64))] := fun n g' hj => by rw [shiftS_at _ hbx, (hJ n g' hj).2]; rfl
    obtain ⟨m0, μ0, hS0, hE0, hN, Ds, hnd, hDs, hdef⟩ := hfit.strel hs
    simp only at hS0 hE0
    have hDlt : ∀ D ∈ Ds, D < w.heap.size := fun D hD => (Array.getElem?_eq_some_iff.1 (hS0.marks D (hDs D hD).1)).1
    have hS0' : Sim w0 (K.wm fun x => x ∈ Ds) B0 (shiftS g0) μ0 w := hS0.unmark fun D hD => (hDs D hD).1
    have hrel : ∀ n g', J n g' → ∀ id ∈ PV.refsL ps0, (g' id).live = true := fun n g' hj id hid => (((hJ n g' hj).1 id).1 (hrefs id hid)).1
    obtain ⟨B, hfv, hb0⟩ := box_ints hS0' hE0 hf (hbox' _ _ hJ0)
    refine wpIn_rangeBack hseq hlen hfv (fun n W => ∃ g' μ', J n g' ∧ Sim w0 (K.wm fun x => x ∈ Ds) B0 (shiftS g') μ' W ∧ w.heap.size ≤ W.heap.size ∧ ∀ t, Rep W (Stab w0 B0 (shiftS g') μ' W) μ' (Env.get (L.zip (PV.renL sh ps0)) t) (a.tmps.getD t Go.undef)) ?_ ?_ ⟨g0, μ0, hJ0, hS0', Nat.le_refl _, hE0⟩
      (fun n => asgAct ops { tmps := ((#[p1, p2] : Array Tmp).zip #[.int .i64 n, .int .i64 (zs.getD n 0)]).foldl (fun t (p, v) => t.setIfInBounds p v) a.tmps, defers := [] }) ?_ ?_ ?_
    · rintro n W W' row ⟨g', μ', hj, hS, hge, hE⟩ hg hrow
      have hok := (hJ n g' hj).1
      obtain ⟨hS2, hG⟩ := hS.turn hg (fun r e => by
        obtain ⟨h1, o, h2, h3⟩ := hrow r e
        refine ⟨⟨Nat.le_trans hS0.size h1, fun hm => Nat.lt_irrefl _ (Nat.lt_of_lt_of_le (hDlt r hm) h1), o, h2, h3⟩, fun ⟨id, base, hl, hm⟩ => ?_⟩
        have hO := hS.obj id r base hl hm
        obtain ⟨i, hi, rfl, hli⟩ := shiftS_live hl
        rw [shiftS_at _ hi] at hO
        cases hc : g' i with
        | fresh => rw [hc] at hli; simp [SC.live] at hli
        | dead => rw [hc] at hli; simp [SC.live] at hli
        | row T sz es =>
          rw [hc] at hO
          obtain ⟨cs, cap, h4, _⟩ := hO
          rw [h2] at h4; cases h4; cases h3
        | omap T es =>
          by_cases hid : i ∈ D
          · exact ((hok i).1 hid).2.2.1 T es hc
          · rw [(hok i).2 hid] at hc; cases hc)
      exact ⟨g', μ', hj, hS2, Nat.le_trans hge hg.size, fun t => hG _ _ (hE t)⟩
    · rintro n W ⟨g', μ', hj, hS, hge, hE⟩
      obtain ⟨B', h1, h2⟩ := box_ints hS hE hf (hbox' n g' hj)
      rw [hfv] at h1
      have : B = B' := by simpa using h1
      rw [this]; exact h2
    · intro l n W Kc hn hk
      refine wpIn_region ?_
      rw [List.range_eq_range']
      have := asg_wpOps (F := FR (some l)) (n := 0) (P := P) (ops := ops.toArray) (Q := Exit.then Kc (fun _ _ _ => False)) (w := W) (fun _ => trivial) ops 0 _ (by simp) hops (by simp) hk
      simpa using this
    · rintro l n W hn ⟨g', μ', hj, hS, hge, hE⟩
      have hok := (hJ _ g' hj).1
      have hdom : ∀ id, (g' id).live = true → id ∈ D := fun id hl => by
        by_cases hid : id ∈ D
        · exact hid
        · rw [(hok id).2 hid] at hl; simp [SC.live] at hl
      have hL : Lend (PV.renL sh ps0) (shiftS g') ps0 g' sh := by
        refine ⟨rfl, fun id hid => hrel _ g' hj id hid, fun id => ?_, fun a b _ _ h => by unfold sh at h; omega⟩
        by_cases hid : id ∈ D
        · obtain ⟨a1, a2, a3, a4⟩ := (hok id).1 hid
          exact .inr ⟨a1, shiftS_at g' a2, a4⟩
        · exact .inl ((hok id).2 hid)
      obtain ⟨μ1, h1, h2, h3, h4⟩ := hL.sim hS
      have hst0 : StRel W ⟨fun b => ¬ Own g' μ1 b, μ1, fun _ => False⟩ (Stab w0 B0 (shiftS g') μ' W) N (Env.get (L.zip ps0), g') { tmps := a.tmps, defers := [] } W := by
        refine ⟨fun _ => False, μ1, h3, fun t => ?_, hN, .nil _ _⟩
        simp only
        rcases zip_get L ps0 t with e | ⟨j, p, e1, e2, e3⟩
        · rw [e]; exact .undef _ _
        · have hh := hE t
          rw [zip_ren, e3] at hh
          rw [e3]
          exact Rep.unren (g0 := g') (f := sh) h4 h1 hh p rfl (refsL_live (g0 := g') (fun id hid => hrel _ g' hj id hid) e2)
      have put1 : ∀ {env : Env} {a' : Act} {d : Nat} {kz : Int}, d < N → StRel W ⟨fun b => ¬ Own g' μ1 b, μ1, fun _ => False⟩ (Stab w0 B0 (shiftS g') μ' W) N (env.get, g') a' W →
          StRel W ⟨fun b => ¬ Own g' μ1 b, μ1, fun _ => False⟩ (Stab w0 B0 (shiftS g') μ' W) N ((env.put (some d) (.int .i64 kz)).get, g') (a'.put (some d) (.int .i64 kz)) W := fun {env a' d kz} hd h => by
        obtain ⟨m, μ, hS, hE, hN, hM⟩ := h
        rw [Env.get_put]
        exact strel_put (s := (env.get, g')) hE hN hM hS .refl (fun d' hdd => by cases hdd; exact hd) (.int _ _ _)
      have hst1 := asg_strel ops _ g' _ W hops (put1 (kz := zs.getD n 0) hp2 (put1 (kz := (n : Int)) hp1 hst0))
      have e0 : ({ tmps := ((#[p1, p2] : Array Tmp).zip #[.int .i64 n, .int .i64 (zs.getD n 0)]).foldl (fun t (p, v) => t.setIfInBounds p v) a.tmps, defers := [] } : Act) =
          (({ tmps := a.tmps, defers := [] } : Act).put (some p1) (.int .i64 n)).put (some p2) (.int .i64 (zs.getD n 0)) := by simp [Act.put]
      rw [← e0] at hst1
      refine wpIn_mono (ih (r := some l) (m := 0) _ _ g' _ W (.inr hnr) (hround n g' hn hj) hst1) ?_
      intro e a2 W2 hq
      cases e with
      | normal =>
        obtain ⟨env2, g2, ⟨_, g1, hj1, hg1⟩, m2, μ2, hS2, hE2, hN2, hM2⟩ := hq
        simp only at hS2 hE2
        have hok1 := (hJ _ g1 hj1).1
        obtain ⟨μ3, hS3, _⟩ := fits_sim (f := fun x => x) (g := g2) (g0 := g1) (fun id => by
          by_cases hid : id ∈ D
          · obtain ⟨a1, a2, a3, a4⟩ := (hok1 id).1 hid
            exact .inr ⟨a1, by rw [SC.ren_self _ a3]; exact hg1 id hid, a4⟩
          · exact .inl ((hok1 id).2 hid)) (fun a b _ _ h => h) (fun a _ _ => rfl) hS2
        have hdom1 : ∀ id, (g1 id).live = true → id ∈ D := fun id hl => by
          by_cases hid : id ∈ D
          · exact hid
          · rw [(hok1 id).2 hid] at hl; simp [SC.live] at hl
        have hB : Back (shiftS g') g' sh g1 .undef sh (shiftS g1) := by
          refine ⟨fun id _ hl => ⟨rfl, ((hok id).1 (hdom1 id hl)).1⟩, fun id h100 hl => ?_, fun a b _ _ h => by unfold sh at h; omega, fun id hl => ?_, fun id hid => by simp [PV.refs] at hid, fun id hl hn => ?_, fun j hn _ => ?_⟩
          · have := ((hok1 id).1 (hdom1 id hl)).2.1; omega
          · obtain ⟨a1, a2, a3, a4⟩ := (hok1 id).1 (hdom1 id hl)
            exact ⟨shiftS_at g1 a2, a4⟩
          · exact absurd rfl (hn id ((hok1 id).1 (hdom id hl)).1)
          · unfold shiftS
            split
            · rename_i hj
              by_cases hid : j - 100 ∈ D
              · exact absurd (by unfold sh; omega) (hn (j - 100) ((hok1 _).1 hid).1)
              · rw [(hok1 _).2 hid, (hok _).2 hid]
            · rfl
        obtain ⟨μ4, hS4, hG, _⟩ := hB.sim hL hS h1 h2 (hS3.unmark (m := fun _ => False) fun _ h => h.elim) (.undef μ3 Go.undef)
        have hsz := hS2.size
        refine ⟨⟨hsz, fun kk o hk ho => ?_⟩, g1, μ4, hj1, hS4, Nat.le_trans hge hsz, fun t => hG _ _ (hE t)⟩
        rw [hS2.kept kk (Array.getElem?_eq_some_iff.1 hk).1 (fun ⟨id, base, hl, hm⟩ => by
          have hO := h3.obj id kk base hl hm
          cases hc : g' id with
          | fresh => rw [hc] at hl; simp [SC.live] at hl
          | dead => rw [hc] at hl; simp [SC.live] at hl
          | row T sz es =>
            rw [hc] at hO
            obtain ⟨cs, cap, h4, _⟩ := hO
            rw [hk] at h4; cases h4; cases ho
          | omap T es => exact ((hok id).1 (hdom id hl)).2.2.1 T es hc)]
        exact hk
      | exit id => obtain ⟨_, _, ⟨h, _⟩, _⟩ := hq; cases h
      | ret => obtain ⟨_, _, ⟨h, _⟩, _⟩ := hq; cases h
      | goto l => exact hq.elim
      | panic ch => exact hq.elim
      | outgrown => exact hq.elim
    · rintro Dm W hge ⟨g', μ', hj, hS, _, hE⟩ hdm
      refine ⟨_, _, hend g' hj, fun x => x ∈ Dm :: Ds, μ', ⟨hS.inj, hS.fresh, hS.blk, hS.obj, hS.b0, hS.os, hS.tape, hS.output, hS.size, hS.kept, hS.sized, hS.anch, fun x hx => ?_⟩, hE, hN, Dm :: Ds, List.nodup_cons.2 ⟨fun h => Nat.lt_irrefl _ (Nat.lt_of_lt_of_le (hDlt Dm h) hge), hnd⟩, fun x hx => ⟨hx, ?_⟩, by rw [List.map_cons, hdef]⟩
      · rcases List.mem_cons.1 hx with rfl | hx
        · exact hdm
        · exact hS.marks x hx
      · rcases List.mem_cons.1 hx with rfl | hx
        · exact Nat.le_trans hS0.size hge
        · exact (hDs x hx).2
  | _ => intro r m w0 K B0 Q env g a w hr h hs; exact h.elim
end
end Go.V
/- The value logic, part 20: contracts of functions out of their code. -/
set_option linter.unusedVariables false
set_option linter.unusedSimpArgs false
namespace Go.V
open Go.RowKit

/-- The results. -/
def resK (tt : TT) : List ResultVar → Env → Store → (List PV → Prop) → Prop
  | [], _, _, K => K []
  | .tmp t :: r, env, g, K => resK tt r env g fun ps => K (env.get t :: ps)
  | .cell a T :: r, env, g, K => kLoad tt true T [env.get a] g fun v _ => resK tt r env g fun ps => K (v :: ps)

def one : List PV → PV
  | [p] => p
  | ps => .tup ps

section
variable {P : Program} {tt : TT} {w0 w : World} {K : KA} {B0 : Nat → Prop} {g : Store} {μ : Mu} {N : Nat}

theorem kLoad_run (htt : TTOk P tt) (hS : Sim w0 K B0 g μ w) {T : TypeId} {p : PV} {v : Value} {KK : KV} (hp : Rep w (Stab w0 B0 g μ w) μ p v) (h : kLoad tt true T [p] g KK) :
    ∃ a u r, v = .pointer (some a) ∧ (loadVar T a).run P w = .ok u w ∧ Rep w (Stab w0 B0 g μ w) μ r u ∧ KK r [] := by
  unfold kLoad at h
  split at h
  · rename_i ti id sz i off ht heq
    obtain rfl : p = .ptr id sz i off := by simpa using heq
    split at h
    · rename_i T' sz' es hg
      obtain ⟨hn, h⟩ := h
      obtain ⟨rfl, hi, ho⟩ := hn rfl
      cases hp with
      | ptr _ _ _ _ _ b base hm =>
      have hO := hS.obj id b base (by rw [hg]; rfl) hm
      rw [hg] at hO
      obtain ⟨info, d, zv, _, _, _, _, _, _, _, _, hone⟩ := htt T ti ht
      have hpos : ∀ j, j < ti.size → ∃ p v, (es.getD i .undef).cells[off + j]? = some p ∧ w.cell? ⟨b, base + i * sz' + off + j, none⟩ = some v ∧ v.oneCell' = true ∧ Rep w (Stab w0 B0 g μ w) μ p v := fun j hj => by
        have := row_at hO hi (k := off + j) (by omega)
        rw [← Nat.add_assoc] at this
        exact this
      have hel : (es.getD i .undef).cells.length = sz' := by
        obtain ⟨cs, cap, _, c2, _⟩ := hO
        exact c2 _ (by simp [List.getD_eq_getElem?_getD, List.getElem?_eq_getElem hi])
      let vs : Nat → Value := fun j => (w.cell? ⟨b, base + i * sz' + off + j, none⟩).getD Go.undef
      have hvs : ∀ j, j < ti.size → w.cell? ⟨b, base + i * sz' + off + j, none⟩ = some (vs j) ∧ (vs j).oneCell' = true ∧ ∀ p, (es.getD i .undef).cells[off + j]? = some p → Rep w (Stab w0 B0 g μ w) μ p (vs j) := fun j hj => by
        obtain ⟨p, v, h1, h2, h3, h4⟩ := hpos j hj
        have : vs j = v := by simp [vs, h2]
        rw [this]
        exact ⟨h2, h3, fun q hq => by rw [h1] at hq; rw [← Option.some.inj hq]; exact h4⟩
      exact ⟨_, _, _, rfl, run_loadVar_tt (P := P) htt ht (w := w) (b := b) (o := base + i * sz' + off) vs fun j hj => (hvs j hj).1,
        rep_ofCells (by omega) hone (fun j hj => (hvs j hj).2.1) (fun j p hj hp => (hvs j hj).2.2 p hp), h⟩
    · exact h.elim
  · rename_i ti cs off ht heq
    obtain rfl : p = .vptr cs off := by simpa using heq
    have ho := h.1 rfl
    cases hp with
    | vptr _ _ _ b p hB vs h1 hc hrr =>
    obtain ⟨info, d, zv, _, _, _, _, _, _, _, _, hone⟩ := htt T ti ht
    exact ⟨_, _, _, rfl, run_loadVar_tt (P := P) htt ht (w := w) (b := b) (o := p + off) (fun j => vs (off + j)) (fun j hj => by rw [Nat.add_assoc]; exact hc _ (by omega)),
      rep_ofCells ho hone (fun j hj => h1 _ (by omega)) (fun j q hj hq => (hrr _ q hq).step (fun _ h => h) (fun _ _ => rfl) (fun _ _ _ h => by cases h)), h.2⟩
  · exact h.elim

theorem resK_run (htt : TTOk P tt) (hS : Sim w0 K B0 g μ w) {env : Env} {a : Act} (hE : ∀ t, Rep w (Stab w0 B0 g μ w) μ (env.get t) (a.tmps.getD t Go.undef)) : ∀ (rs : List ResultVar) (KK : List PV → Prop), resK tt rs env g KK →
    ∃ (us : List Value) (ps : List PV), (rs.mapM fun x => match x with
      | ResultVar.tmp t => (Pure.pure (a.tmps.getD t Go.undef) : Sem Value)
      | ResultVar.cell p t => do loadVar t (← asAddr (a.tmps.getD p Go.undef))).run P w = .ok us w ∧ us.length = ps.length ∧ (∀ (j : Nat) (p : PV) (u : Value), ps[j]? = some p → us[j]? = some u → Rep w (Stab w0 B0 g μ w) μ p u) ∧ KK ps
  | [], KK, h => ⟨[], [], by simp, rfl, fun j p u hp => by simp at hp, h⟩
  | .tmp t :: rs, KK, h => by
    obtain ⟨us, ps, h1, h2, h3, h4⟩ := resK_run htt hS hE rs _ h
    refine ⟨a.tmps.getD t Go.undef :: us, env.get t :: ps, ?_, by simp [h2], fun j p u hp hu => ?_, h4⟩
    · rw [List.mapM_cons]
      simp only [Sem.run_bind, Sem.run_pure, Result.andThen_ok, h1]
    · cases j with
      | zero => simp at hp hu; subst hp; subst hu; have := hE t; simpa using this
      | succ j => exact h3 j p u (by simpa using hp) (by simpa using hu)
  | .cell p T :: rs, KK, h => by
    obtain ⟨ad, u, r, hv, hrun, hrep, h⟩ := kLoad_run htt hS (hE p) h
    obtain ⟨us, ps, h1, h2, h3, h4⟩ := resK_run htt hS hE rs _ h
    refine ⟨u :: us, r :: ps, ?_, by simp [h2], fun j p' u' hp hu => ?_, h4⟩
    · rw [List.mapM_cons]
      have ha : asAddr (a.tmps.getD p Go.undef) = Pure.pure ad := by rw [hv]; rfl
      simp only [Sem.run_bind, Sem.run_pure, Result.andThen_ok, ha, hrun, h1]
    · cases j with
      | zero => simp at hp hu; subst hp; subst hu; exact hrep
      | succ j => exact h3 j p' u' (by simpa using hp) (by simpa using hu)

/-- A function is left: the marks of its ranges over functions are taken away. -/
theorem StRel.leaves {fn : Func} {K : KA} {B0 : Nat → Prop} {s : E × Store} {a : Act} {w : World} {R : Ending → World → Prop} (h : StRel w0 K B0 N s a w)
    (hfin : ∀ m w', StRel w0 (K.wm m) B0 N s { a with defers := [] } w' → ∃ v, (results fn a.tmps).run P w' = .ok v w' ∧ R (.returned v) w') : LeavesInM Fence.wide 0 P fn a.tmps R a.defers .returning w := by
  obtain ⟨m, μ, hS, hE, hN, Ds, hnd, hDs, hd⟩ := h
  rw [hd]
  clear hd
  induction Ds generalizing m w with
  | nil => exact hfin m w ⟨m, μ, hS, hE, hN, .nil _ _⟩
  | cons D Ds ih =>
    obtain ⟨hmD, hge⟩ := hDs D (by simp)
    have hD := hS.marks D hmD
    refine ⟨by simp, .inl ⟨D, _, rfl, run_takeDeferred hD, ?_⟩⟩
    have hS' : Sim w0 (K.wm fun x => m x ∧ x ≠ D) B0 s.2 μ w := ⟨hS.inj, hS.fresh, hS.blk, hS.obj, hS.b0, hS.os, hS.tape, hS.output, hS.size, hS.kept, hS.sized, hS.anch, fun x hx => hS.marks x hx.1⟩
    obtain ⟨hS2, hG⟩ := hS'.turn (grownBy_putObj' w D (.deferred none)) (fun r e => by cases e; exact ⟨⟨hge, fun h => h.2 rfl, _, hD, rfl⟩, fun ho => hS.mark_own hmD ho⟩)
    have hnd' := List.nodup_cons.1 hnd
    exact ih (fun x => m x ∧ x ≠ D) hS2 (fun t => hG _ _ (hE t)) hnd'.2 (fun x hx => ⟨⟨(hDs x (by simp [hx])).1, fun e => hnd'.1 (e ▸ hx)⟩, (hDs x (by simp [hx])).2⟩)

/-- The arguments, in the first temporaries. -/
def argEnv (args : List PV) : Env := (List.range args.length).zip args

/-- A CONTRACT OUT OF THE CODE. -/
theorem good_of_wp (htt : TTOk P tt) (hm : P.follows .mixedOrders = true) {k : FuncId} {fn : Func} {c : Code} (hf : P.funcs[k]? = some fn) (hname : (fn.name == "runtime.NumGoroutine") = false) (hb : fn.body = some c) (hN : fn.ntmps = N)
    {args : List PV} {r : PV} (hlen : args.length ≤ N)
    (h : wp P tt N c (fun x env g => match x with
      | .exit _ => False
      | _ => resK tt fn.results.toList env g fun ps => Wk (PV.snap g 6 (one ps)) r) (argEnv args) (fun _ => .fresh)) : Good P k args r := by
  refine ⟨⟨fn, c, hf, hname, hb⟩, fun w B vs hB hl hr => ?_⟩
  refine callsIn_wide.1 (callsIn_of_wp_marks (n := 0) hf hb trivial ?_)
  have hsim : Sim w ⟨fun _ => True, noMu, fun _ => False⟩ B (fun _ => SC.fresh) noMu w := by
    refine ⟨fun id id' b base base' hl => by simp [SC.live] at hl, fun id => ⟨fun _ => rfl, fun _ => rfl⟩, fun id b base hl => by simp [SC.live] at hl, fun id b base hl => by simp [SC.live] at hl, fun b hb => ⟨trivial, hB b hb⟩, rfl, rfl, rfl, Nat.le_refl _, fun _ _ _ => rfl, fun b => .refl w b, fun id _ hl => by simp [SC.live] at hl, fun _ h => h.elim⟩
  have hstab : ∀ b, B b → Stab w B (fun _ => SC.fresh) noMu w b := fun b hb => ⟨.inl hb, hB b hb, fun ⟨id, base, hl, _⟩ => by simp [SC.live] at hl⟩
  have hst : StRel w ⟨fun _ => True, noMu, fun _ => False⟩ B N ((argEnv args).get, fun _ => SC.fresh) { tmps := vs.toArray ++ Array.replicate (fn.ntmps - vs.toArray.size) Go.undef, defers := [] } w := by
    refine ⟨fun _ => False, noMu, hsim, fun t => ?_, by simp; omega, .nil _ _⟩
    simp only
    rcases zip_get (List.range args.length) args t with h1 | ⟨j, p, h1, h2, h3⟩
    · unfold argEnv; rw [h1]; exact .undef _ _
    · unfold argEnv
      rw [h3]
      have hjl : j < args.length := (List.getElem?_eq_some_iff.1 h2).1
      rw [List.getElem?_range hjl] at h1
      obtain rfl := Option.some.inj h1
      have hjv : j < vs.length := by omega
      have : (vs.toArray ++ Array.replicate (fn.ntmps - vs.toArray.size) Go.undef).getD j Go.undef = vs[j] := by
        rw [Array.getD_eq_getD_getElem?, Array.getElem?_append_left (by simpa using hjv)]
        simp [hjv]
      rw [this]
      exact (hr j p _ h2 (List.getElem?_eq_getElem hjv)).step hstab (fun _ _ => rfl) (fun _ _ _ h => by cases h)
  refine wpIn_mono (F := Fence.wide) (wp_sound htt hm c (r := none) (m := 0) _ _ _ _ _ (.inl rfl) h hst) ?_
  have fin : ∀ (a' : Act) (w' : World) (env : Env) (g : Store), (resK tt fn.results.toList env g fun ps => Wk (PV.snap g 6 (one ps)) r) → StRel w ⟨fun _ => True, noMu, fun _ => False⟩ B N (env.get, g) a' w' →
      LeavesInM Fence.wide 0 P fn a'.tmps (fun e w' => ∃ v', e = .returned v' ∧ Below w.heap.size w w' ∧ Rep w' (fun b => b < w'.heap.size ∧ (B b ∨ w.heap.size ≤ b)) noMu r v') a'.defers .returning w' := by
    intro a' w1 env g hres hst1
    refine hst1.leaves ?_
    rintro m0 w' ⟨mm, μ, hS, hE, hN', hD⟩
    obtain ⟨us, ps, h1, h2, h3, h4⟩ := resK_run htt hS hE _ _ hres
    have hbelow : Below w.heap.size w w' := ⟨hS.os, hS.tape, hS.output, hS.size, fun k hk => hS.kept k hk trivial⟩
    have hone : Rep w' (Stab w B g μ w') μ (one ps) (if h : us.toArray.size = 1 then us.toArray[0] else .tuple us.toArray) := by
      by_cases hl1 : us.length = 1
      · obtain ⟨u, rfl⟩ := List.length_eq_one_iff.1 hl1
        obtain ⟨p, rfl⟩ := List.length_eq_one_iff.1 (h2.symm.trans hl1)
        simpa [one] using h3 0 p u rfl rfl
      · rw [dif_neg (by simpa using hl1)]
        have : one ps = .tup ps := by
          unfold one
          split
          · simp at h2; exact absurd h2 hl1
          · rfl
        rw [this]
        exact .tup _ _ _ (by simp [h2]) fun j p u hp hu => h3 j p u hp (by simpa using hu)
    refine ⟨(if h : us.toArray.size = 1 then us.toArray[0] else .tuple us.toArray), ?_, _, rfl, hbelow, ?_⟩
    · unfold results
      rw [Array.mapM_eq_mapM_toList]
      rw [Sem.run_bind, Sem.run_map]
      exact (congrArg (fun q : Result (List Value) => (q.andThen fun a w' => Result.ok a.toArray w').andThen fun a w' => Result.ok (if h : a.size = 1 then a[0] else Value.tuple a) w') h1).trans rfl
    · refine h4 _ _ _ ((snap_rep hS 6 _ _ hone).step (fun b hb => ?_) (fun _ _ => rfl) (fun _ _ _ h => by cases h))
      rcases hb with ⟨a1, a2, a3⟩ | ⟨id, base, hl, hm'⟩
      · exact ⟨a2, a1⟩
      · obtain ⟨q1, q2⟩ := hS.blk id b base hl hm'
        exact ⟨q1, .inr (Nat.le_of_not_lt fun hlt => q2 hlt trivial)⟩
  intro e a' w' hq
  cases e with
  | normal => obtain ⟨env, g, h1, h2⟩ := hq; exact fin a' w' env g h1 h2
  | ret => obtain ⟨env, g, h1, h2⟩ := hq; exact fin a' w' env g h1 h2
  | exit id => obtain ⟨env, g, h1, h2⟩ := hq; exact h1.elim
  | goto l => exact hq.elim
  | panic ch => exact hq.elim
  | outgrown => exact hq.elim

/-- What a function that was lent own objects gives back: objects renumbered. -/
def FinR (g : Store) (ps : List PV) (post : PV → Store → Prop) : Prop :=
  ∃ (f : Nat → Nat) (r : PV) (g1 : Store), post r g1 ∧ one ps = PV.ren f r ∧ (∀ id ∈ r.refs, (g1 id).live = true) ∧
    (∀ id, g1 id = .fresh ∨ ((g1 id).live = true ∧ g (f id) = SC.ren f (g1 id) ∧ ∀ j ∈ (g1 id).refs, (g1 j).live = true)) ∧
    (∀ a b, (g1 a).live = true → (g1 b).live = true → f a = f b → a = b) ∧ ∀ a, a < 100 → (g1 a).live = true → f a = a

/-- A CONTRACT OUT OF THE CODE, of a function that is lent own objects. -/
theorem goodR_of_wp (htt : TTOk P tt) (hm : P.follows .mixedOrders = true) {k : FuncId} {fn : Func} {c : Code} (hf : P.funcs[k]? = some fn) (hname : (fn.name == "runtime.NumGoroutine") = false) (hb : fn.body = some c) (hN : fn.ntmps = N)
    {args : List PV} {g0 : Store} {post : PV → Store → Prop} (hlen : args.length ≤ N)
    (h : wp P tt N c (fun x env g => match x with
      | .exit _ => False
      | _ => resK tt fn.results.toList env g fun ps => FinR g ps post) (argEnv args) g0) : GoodR P k args g0 post := by
  refine ⟨⟨fn, c, hf, hname, hb⟩, fun w K B μ vs hsim hl hr => ?_⟩
  refine callsIn_wide.1 (callsIn_of_wp_marks (n := 0) hf hb trivial ?_)
  have hst : StRel w K B N ((argEnv args).get, g0) { tmps := vs.toArray ++ Array.replicate (fn.ntmps - vs.toArray.size) Go.undef, defers := [] } w := by
    refine ⟨fun _ => False, μ, hsim, fun t => ?_, by simp; omega, .nil _ _⟩
    simp only
    rcases zip_get (List.range args.length) args t with h1 | ⟨j, p, h1, h2, h3⟩
    · unfold argEnv; rw [h1]; exact .undef _ _
    · unfold argEnv
      rw [h3]
      have hjl : j < args.length := (List.getElem?_eq_some_iff.1 h2).1
      rw [List.getElem?_range hjl] at h1
      obtain rfl := Option.some.inj h1
      have hjv : j < vs.length := by omega
      have : (vs.toArray ++ Array.replicate (fn.ntmps - vs.toArray.size) Go.undef).getD j Go.undef = vs[j] := by
        rw [Array.getD_eq_getD_getElem?, Array.getElem?_append_left (by simpa using hjv)]
        simp [hjv]
      rw [this]
      exact hr j p _ h2 (List.getElem?_eq_getElem hjv)
  refine wpIn_mono (F := Fence.wide) (wp_sound htt hm c (r := none) (m := 0) _ _ _ _ _ (.inl rfl) h hst) ?_
  have fin : ∀ (a' : Act) (w' : World) (env : Env) (g : Store), (resK tt fn.results.toList env g fun ps => FinR g ps post) → StRel w K B N (env.get, g) a' w' →
      LeavesInM Fence.wide 0 P fn a'.tmps (fun e w' => ∃ v' r g1 μ1, e = .returned v' ∧ post r g1 ∧ Sim w (K.wm fun _ => False) B g1 μ1 w' ∧ Rep w' (Stab w B g1 μ1 w') μ1 r v') a'.defers .returning w' := by
    intro a' w1 env g hres hst1
    refine hst1.leaves ?_
    rintro m0 w' ⟨mm, μ, hS, hE, hN', hD⟩
    obtain ⟨us, ps, h1, h2, h3, h4⟩ := resK_run htt hS hE _ _ hres
    have hone : Rep w' (Stab w B g μ w') μ (one ps) (if h : us.toArray.size = 1 then us.toArray[0] else .tuple us.toArray) := by
      by_cases hl1 : us.length = 1
      · obtain ⟨u, rfl⟩ := List.length_eq_one_iff.1 hl1
        obtain ⟨p, rfl⟩ := List.length_eq_one_iff.1 (h2.symm.trans hl1)
        simpa [one] using h3 0 p u rfl rfl
      · rw [dif_neg (by simpa using hl1)]
        have : one ps = .tup ps := by
          unfold one
          split
          · simp at h2; exact absurd h2 hl1
          · rfl
        rw [this]
        exact .tup _ _ _ (by simp [h2]) fun j p u hp hu => h3 j p u hp (by simpa using hu)
    obtain ⟨f, r, g1, hpost, e1, e2, e3, e4, e5⟩ := h4
    obtain ⟨μ1, hS1, hun⟩ := fits_sim e3 e4 e5 hS
    refine ⟨(if h : us.toArray.size = 1 then us.toArray[0] else .tuple us.toArray), ?_, _, r, g1, μ1, rfl, hpost, hS1.unmark (fun _ h => h.elim), hun r _ (by rw [← e1]; exact hone) e2⟩
    unfold results
    rw [Array.mapM_eq_mapM_toList]
    rw [Sem.run_bind, Sem.run_map]
    exact (congrArg (fun q : Result (List Value) => (q.andThen fun a w' => Result.ok a.toArray w').andThen fun a w' => Result.ok (if h : a.size = 1 then a[0] else Value.tuple a) w') h1).trans rfl
  intro e a' w' hq
  cases e with
  | normal => obtain ⟨env, g, h1, h2⟩ := hq; exact fin a' w' env g h1 h2
  | ret => obtain ⟨env, g, h1, h2⟩ := hq; exact fin a' w' env g h1 h2
  | exit id => obtain ⟨env, g, h1, h2⟩ := hq; exact h1.elim
  | goto l => exact hq.elim
  | panic ch => exact hq.elim
  | outgrown => exact hq.elim
end
end Go.V
