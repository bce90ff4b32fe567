import Derived.Test.YtjadcdikckmooaaM1
import Derived.RangeFuncRecord
import Derived.Still
/- A part of a proof, with no condition of its own. Merged texts: VJM VK VL VM VN. -/
/- The value logic, part 10b: maps with numbers as keys. -/
set_option linter.unusedVariables false
set_option linter.unusedSimpArgs false
namespace Go.V
open Go.RowKit

section
variable {P : Program} {tt : TT} {w0 w : World} {K : KA} {B0 : Nat → Prop} {g : Store} {μ : Mu}

theorem rep_zero (htt : TTOk P tt) {T : TypeId} {i : TI} (ht : tt T = some i) : ∃ zv, (∀ w, (zeroValue T).run P w = .ok zv w) ∧ ∀ (w : World) (B : Nat → Prop) (μ : Mu), Rep w B μ (elemOf i i.zero) zv := by
  obtain ⟨zv, h1, ⟨info, h2, h3, _⟩, hs, hz, _, _, hrep⟩ := tt_zero htt ht
  refine ⟨zv, h1, fun w B μ => ?_⟩
  have ha := htt.agg T i info zv ht h2 h3
  unfold elemOf
  cases hk : i.kind.isAgg with
  | true =>
    rw [hk] at ha
    cases zv <;> simp [aggV] at ha
    rename_i cs
    rw [if_pos rfl]
    simp only [Value.cells] at hs hrep
    have hall : ∀ u ∈ cs.toList, u.oneCell' = true := fun u hu => by
      obtain ⟨j, hj⟩ := List.mem_iff_getElem?.1 hu
      rw [Array.getElem?_toList] at hj
      have hlt : j < i.zero.length := by have := (Array.getElem?_eq_some_iff.1 hj).1; omega
      obtain ⟨v, a, b, _⟩ := hrep w B μ j _ (List.getElem?_eq_getElem hlt)
      rw [hj] at a; cases a; exact b
    refine .agg _ _ _ (by omega) hall fun j p v hp hv => ?_
    obtain ⟨v', a, _, c⟩ := hrep w B μ j p hp
    rw [hv] at a; cases a; exact c
  | false =>
    rw [hk] at ha
    rw [if_neg (by simp)]
    obtain ⟨_, _, _, _, _, _, _, _, _, _, _, hone⟩ := htt T i ht
    have h1' := hone hk
    have hlt : 0 < i.zero.length := by omega
    obtain ⟨v, a, _, c⟩ := hrep w B μ 0 _ (List.getElem?_eq_getElem hlt)
    have : zv.cells = #[zv] := by cases zv <;> first | rfl | (simp [aggV] at ha)
    rw [this] at a
    simp at a
    subst a
    have e : i.zero.getD 0 .undef = i.zero[0] := by simp [List.getD_eq_getElem?_getD, List.getElem?_eq_getElem hlt]
    rw [e]; exact c

/-- An own map is written. -/
theorem Sim.putMap (h : Sim w0 K B0 g μ w) {id b base : Nat} {T : Nat} {es es' : List (PV × PV)} (hg : g id = .omap T es) (hm : μ id = some (b, base)) {ms ms' : Array MapEntry} {clock clock' : Nat}
    (hms : w.heap[b]? = some (.map ms clock)) (hsz : ms'.size = es'.length)
    (ho : ∀ (j : Nat) (m : MapEntry) (e : PV × PV), ms'[j]? = some m → es'[j]? = some e → Rep w (Stab w0 B0 g μ w) μ e.1 m.key ∧ Rep w (Stab w0 B0 g μ w) μ e.2 m.val) :
    Sim w0 K B0 (upd g id (.omap T es')) μ (w.putObj b (.map ms' clock')) ∧ Goes w0 B0 g μ w (upd g id (.omap T es')) μ (w.putObj b (.map ms' clock')) := by
  have hlive : (g id).live = true := by rw [hg]; rfl
  have hbl := (h.blk id b base hlive hm).1
  have hnew : (w.putObj b (.map ms' clock')).heap[b]? = some (.map ms' clock') := by simp [World.putObj, hbl]
  have hold : ∀ b', b' ≠ b → (w.putObj b (.map ms' clock')).heap[b']? = w.heap[b']? := fun b' hne => by
    simp only [World.putObj]
    rw [Array.getElem?_setIfInBounds_ne (Ne.symm hne)]
  have hlv : ∀ j, (upd g id (.omap T es') j).live = (g j).live := fun j => by
    by_cases e : j = id
    · subst e; simp [upd, hg, SC.live]
    · simp [upd, e]
  have hown : ∀ b', Own (upd g id (.omap T es')) μ b' ↔ Own g μ b' := fun b' => by
    constructor
    · rintro ⟨j, bs, hl, hj⟩; exact ⟨j, bs, by rw [← hlv j]; exact hl, hj⟩
    · rintro ⟨j, bs, hl, hj⟩; exact ⟨j, bs, by rw [hlv j]; exact hl, hj⟩
  have hsize : (w.putObj b (.map ms' clock')).heap.size = w.heap.size := by simp [World.putObj]
  have hstab : ∀ b', Stab w0 B0 g μ w b' → Stab w0 B0 (upd g id (.omap T es')) μ (w.putObj b (.map ms' clock')) b' := fun b' ⟨h1, h2, h3⟩ => ⟨h1, by omega, fun hh => h3 ((hown b').1 hh)⟩
  have hkept : ∀ b', CellsKept w (w.putObj b (.map ms' clock')) b' := fun b' cs0 T0 h0 => by
    by_cases e : b' = b
    · subst e; rw [hms] at h0; cases h0
    · exact ⟨cs0, by rw [hold b' e]; exact h0, rfl⟩
  have hgoes : Goes w0 B0 g μ w (upd g id (.omap T es')) μ (w.putObj b (.map ms' clock')) := fun p v hp =>
    hp.step hstab (fun b' hb' => hold b' (fun e => by subst e; exact hb'.2.2 ⟨id, base, hlive, hm⟩)) (fun j b' bs hj => ⟨hj, hkept b'⟩)
  have hO := h.obj id b base hlive hm
  rw [hg] at hO
  obtain ⟨hb0, _⟩ := hO
  refine ⟨⟨?_, ?_, ?_, ?_, h.b0, h.os, h.tape, h.output, by have := h.size; omega, ?_, fun b' => (h.sized b').trans (hkept b'), fun j hlt hl => h.anch j hlt (by rw [← hlv]; exact hl), fun D hD => by rw [hold D (fun e => by subst e; have := h.marks D hD; rw [hms] at this; cases this)]; exact h.marks D hD⟩, hgoes⟩
  · intro j j' b' bs bs' hl hl' hj hj'
    rw [hlv] at hl hl'
    exact h.inj j j' b' bs bs' hl hl' hj hj'
  · intro j
    by_cases e : j = id
    · subst e
      simp only [upd, if_true]
      rw [hm]
      exact ⟨fun x => (by cases x), fun x => (by cases x)⟩
    · simp only [upd, e, if_false]; exact h.fresh j
  · intro j b' bs hl hj
    rw [hlv] at hl
    rw [hsize]
    exact h.blk j b' bs hl hj
  · intro j b' bs hl hj
    by_cases e : j = id
    · subst e
      rw [hm] at hj
      obtain ⟨rfl, rfl⟩ := (Prod.mk.injEq .. ▸ Option.some.inj hj : _ ∧ _)
      have : upd g j (.omap T es') j = .omap T es' := by simp [upd]
      rw [this]
      exact ⟨hb0, ms', clock', hnew, hsz, fun i m e hm' he => let ⟨a, c⟩ := ho i m e hm' he; ⟨hgoes _ _ a, hgoes _ _ c⟩⟩
    · have hu : upd g id (.omap T es') j = g j := by simp [upd, e]
      rw [hlv] at hl
      rw [hu]
      exact (h.obj j b' bs hl hj).step (hold b' (fun eb => e (h.inj j id b' bs base hl hlive hj (by rw [eb]; exact hm)))) (fun p v => hgoes p v)
  · intro b' hb hk
    rw [hold b' (fun e => by subst e; exact (h.blk id b' base hlive hm).2 hb hk)]
    exact h.kept b' hb hk

/-! ### The operations -/
theorem sameNow_int (k : IntKind) (n m : Int) (kt : TypeDesc) (h : ∃ k0, kt = .int k0) : Instr.sameNow kt (.int k n) (.int k m) = some (n == m) := by
  obtain ⟨k0, rfl⟩ := h
  simp [Instr.sameNow]

/-- The entries of a map, read. -/
def EntRep (w : World) (B : Nat → Prop) (μ : Mu) (ms : List MapEntry) (es : List (PV × PV)) : Prop :=
  ms.length = es.length ∧ ∀ (j : Nat) (m : MapEntry) (e : PV × PV), ms[j]? = some m → es[j]? = some e → Rep w B μ e.1 m.key ∧ Rep w B μ e.2 m.val

theorem EntRep.tail {B : Nat → Prop} {m : MapEntry} {ms : List MapEntry} {e : PV × PV} {es : List (PV × PV)} (h : EntRep w B μ (m :: ms) (e :: es)) : (Rep w B μ e.1 m.key ∧ Rep w B μ e.2 m.val) ∧ EntRep w B μ ms es :=
  ⟨h.2 0 m e rfl rfl, by have := h.1; simp at this; exact this, fun j m' e' hm he => h.2 (j + 1) m' e' (by simpa using hm) (by simpa using he)⟩

theorem findNow_rep {B : Nat → Prop} {kt : TypeDesc} {k : IntKind} {n : Int} (hkt : ∃ k0, kt = .int k0) : ∀ (ms : List MapEntry) (es : List (PV × PV)) (i : Nat), EntRep w B μ ms es → IntKeys k es →
    ((Instr.findNow kt (.int k n) ms i = some none ∧ mapFind es n = none ∧ ∀ p, mapPut es k n p = es ++ [(.int k n, p)]) ∨
     ∃ j m v, Instr.findNow kt (.int k n) ms i = some (some (i + j, m.val)) ∧ ms[j]? = some m ∧ m.key = .int k n ∧ mapFind es n = some v ∧ Rep w B μ v m.val ∧ ∀ p, mapPut es k n p = es.set j (.int k n, p) ∧ j < es.length)
  | [], [], i, _, _ => .inl ⟨rfl, rfl, fun _ => rfl⟩
  | [], _ :: _, _, h, _ => by have := h.1; simp at this
  | _ :: _, [], _, h, _ => by have := h.1; simp at this
  | m :: ms, (e1, e2) :: es, i, h, hk => by
    obtain ⟨⟨h1, h2⟩, ht⟩ := h.tail
    obtain ⟨x, hx⟩ := hk (e1, e2) (by simp)
    simp only at hx h1 h2
    subst hx
    have hmk : m.key = .int k x := by
      generalize m.key = v at h1
      cases h1; rfl
    have ih := findNow_rep (n := n) hkt ms es (i + 1) ht (fun e he => hk e (by simp [he]))
    by_cases hxn : x = n
    · subst hxn
      refine .inr ⟨0, m, e2, ?_, rfl, hmk, by simp [mapFind], h2, fun p => by simp [mapPut]⟩
      simp only [Instr.findNow, hmk, sameNow_int k x x kt hkt, beq_self_eq_true, Nat.add_zero]
    · have hne : (n == x) = false := by simp; omega
      have e1 : Instr.findNow kt (.int k n) (m :: ms) i = Instr.findNow kt (.int k n) ms (i + 1) := by
        simp only [Instr.findNow, hmk, sameNow_int k n x kt hkt, hne]
      rw [e1]
      rcases ih with ⟨a, b, c⟩ | ⟨j, m', v, a, b, b', c, d, f⟩
      · exact .inl ⟨a, by simp [mapFind, hxn, b], fun p => by simp [mapPut, hxn, c p]⟩
      · refine .inr ⟨j + 1, m', v, by rw [a]; congr 3; omega, by simpa using b, b', by simp [mapFind, hxn, c], d, fun p => ?_⟩
        have := f p
        simp [mapPut, hxn, this.1, this.2]

theorem rep_pair {B : Nat → Prop} {p q : PV} {u v : Value} (h1 : Rep w B μ p u) (h2 : Rep w B μ q v) : Rep w B μ (.tup [p, q]) (.tuple #[u, v]) := by
  refine .tup _ _ _ rfl fun j a b hp hv => ?_
  match j with
  | 0 => simp at hp hv; subst hp hv; exact h1
  | 1 => simp at hp hv; subst hp hv; exact h2
  | j + 2 => simp at hp
theorem rep_mref {B : Nat → Prop} {id : Nat} {v : Value} (h : Rep w B μ (.mref id) v) : ∃ b base, μ id = some (b, base) ∧ v = .map (some b) := by
  cases h with
  | mref _ _ b base hm => exact ⟨b, base, hm, rfl⟩

theorem map_types (htt : TTOk P tt) {T kt et : Nat} {ti ki : TI} {k : IntKind} (ht : tt T = some ti) (hk : ti.kind = .map kt et) (hki : tt kt = some ki) (hkk : ki.kind = .int k) :
    P.underlying T = some (.map kt et) ∧ P.underlying kt = some (.int k) := by
  obtain ⟨d, hd, hfit⟩ := tt_und htt ht
  rw [hk] at hfit; simp only [TK.fits] at hfit
  obtain ⟨d2, hd2, hfit2⟩ := tt_und htt hki
  rw [hkk] at hfit2; simp only [TK.fits] at hfit2
  exact ⟨by rw [hd, hfit], by rw [hd2, hfit2]⟩

theorem run_checkKey {e : Bool} {n : Nat} {kt : Nat} {k : IntKind} {v : Value} (h : P.underlying kt = some (.int k)) : (Instr.checkKey e (n + 1) kt v).run P w = .ok () w := by
  unfold Instr.checkKey
  rw [Sem.run_bind, run_underlying h]
  simp

theorem run_findKeyN {kt : Nat} {d : TypeDesc} {v : Value} {es : List MapEntry} {r} (h : P.underlying kt = some d) (hr : Instr.findNow d v es 0 = some r) : (Instr.findKey kt v es).run P w = .ok r w := by
  unfold Instr.findKey
  rw [Sem.run_bind, run_underlying h]
  simp [hr]

theorem does_makeMap (hS : Sim w0 K B0 g μ w) {fid : Nat} (hf : Free g fid) {T : Nat} {o : Oper} {ρ : Operand → Value} (ho : o.op = .makeMap T none) :
    Does P w0 K B0 ((execOp ρ o).run P w) g μ w (.mref fid) [(fid, .omap T [])] := by
  obtain ⟨μ', hm, hS', hG⟩ := hS.alloc hf (.map #[] 0) (.omap T []) rfl (fun w' μ' _ hw hμ => by
    subst hw
    exact ⟨rfl, #[], 0, World.alloc_heap_new w _, rfl, fun j m e h => by simp at h⟩)
  refine ⟨.map (some w.heap.size), w.alloc (.map #[] 0), μ', .inl ?_, hS', .mref _ _ _ _ hm, hG⟩
  unfold execOp
  simp [ho, Instr.makeMap, run_newObj, World.alloc_eq]

theorem omap_at (hS : Sim w0 K B0 g μ w) {id b base T : Nat} {es : List (PV × PV)} (hg : g id = .omap T es) (hm : μ id = some (b, base)) :
    ∃ ms clock, w.heap[b]? = some (.map ms clock) ∧ EntRep w (Stab w0 B0 g μ w) μ ms.toList es := by
  have hO := hS.obj id b base (by rw [hg]; rfl) hm
  rw [hg] at hO
  obtain ⟨_, ms, clock, h1, h2, h3⟩ := hO
  exact ⟨ms, clock, h1, by simpa using h2, fun j m e hj he => h3 j m e (by simpa using hj) he⟩

theorem run_getMap {b : Nat} {ms : Array MapEntry} {clock : Nat} (h : w.heap[b]? = some (.map ms clock)) : (getObj b).run P w = .ok (.map ms clock) w := by simp [getObj, Sem.run, h]

theorem does_lookup (htt : TTOk P tt) (hS : Sim w0 K B0 g μ w) {T kt et : Nat} {ti ki ei : TI} {k : IntKind} {n : Int} {cm : Bool} {id T' : Nat} {es : List (PV × PV)} (ht : tt T = some ti) (hk : ti.kind = .map kt et) (hki : tt kt = some ki) (hkk : ki.kind = .int k) (hei : tt et = some ei)
    (hg : g id = .omap T' es) (hes : IntKeys k es) {o : Oper} {ρ : Operand → Value} {x ix : Operand} (ho : o.op = .lookup T x ix cm) (h1 : Rep w (Stab w0 B0 g μ w) μ (.mref id) (ρ x)) (h2 : ρ ix = .int k n) :
    Does P w0 K B0 ((execOp ρ o).run P w) g μ w (found ei cm (mapFind es n)) [] := by
  obtain ⟨b, base, hm, hv⟩ := rep_mref h1
  obtain ⟨ms, clock, hb, hent⟩ := omap_at hS hg hm
  obtain ⟨hu, hku⟩ := map_types htt ht hk hki hkk
  obtain ⟨zv, hz, hzr⟩ := rep_zero htt hei
  have hrun : ∀ (r : Option (Nat × Value)), Instr.findNow (.int k) (.int k n) ms.toList 0 = some r → (execOp ρ o).run P w = .ok (.value (if cm then .tuple #[(match r with | some (_, v) => v | none => zv), .bool r.isSome] else (match r with | some (_, v) => v | none => zv))) w := fun r hr => by
    unfold execOp
    simp only [ho, Instr.lookup, Sem.run_bind, run_underlying hu, Result.andThen_ok, hv, run_getMap hb, h2, run_checkKey hku, run_findKeyN hku hr, Sem.run_pure]
    cases r with
    | none => simp [hz]
    | some x => simp
  rcases findNow_rep (n := n) ⟨k, rfl⟩ ms.toList es 0 hent hes with ⟨a, c, _⟩ | ⟨j, m, v, a, _, _, c, d, _⟩
  · refine .pure hS (hrun _ a) ?_
    rw [c]
    cases cm with
    | true => exact rep_pair (hzr _ _ _) (.bool _ _)
    | false => exact hzr _ _ _
  · refine .pure hS (hrun _ a) ?_
    rw [c]
    cases cm with
    | true => exact rep_pair (d) (.bool _ _)
    | false => exact d

theorem does_mapPut (htt : TTOk P tt) (hS : Sim w0 K B0 g μ w) {T kt et : Nat} {ti ki : TI} {k : IntKind} {n : Int} {id T' : Nat} {es : List (PV × PV)} {p : PV} (ht : tt T = some ti) (hk : ti.kind = .map kt et) (hki : tt kt = some ki) (hkk : ki.kind = .int k)
    (hg : g id = .omap T' es) (hes : IntKeys k es) {o : Oper} {ρ : Operand → Value} {m kx x : Operand} (ho : o.op = .mapUpdate T m kx x ∨ o.op = .insert T m kx x) (h1 : Rep w (Stab w0 B0 g μ w) μ (.mref id) (ρ m)) (h2 : ρ kx = .int k n) (h3 : Rep w (Stab w0 B0 g μ w) μ p (ρ x)) :
    Does P w0 K B0 ((execOp ρ o).run P w) g μ w .undef [(id, .omap T' (mapPut es k n p))] := by
  obtain ⟨b, base, hm, hv⟩ := rep_mref h1
  obtain ⟨ms, clock, hb, hent⟩ := omap_at hS hg hm
  obtain ⟨hu, hku⟩ := map_types htt ht hk hki hkk
  have hexec : (execOp ρ o) = (do Instr.mapUpdate T (ρ m) (ρ kx) (ρ x); Pure.pure Next.skip) := by
    unfold execOp
    rcases ho with ho | ho <;> simp [ho]
  have hset : ∀ (ob : Obj), (setObj b ob).run P w = .ok () (w.putObj b ob) := fun ob => by
    simp [setObj, Sem.run, World.putObj, hb]
  rcases findNow_rep (n := n) ⟨k, rfl⟩ ms.toList es 0 hent hes with ⟨a, _, c⟩ | ⟨j, me, v, a, hj, hkey, _, _, f⟩
  · obtain ⟨hS', hG⟩ := hS.putMap (es' := mapPut es k n p) (ms' := ms.push { key := .int k n, val := ρ x, born := clock }) (clock' := clock + 1) hg hm hb (by have := hent.1; rw [c]; simp at this ⊢; exact this) (fun i mi e hi he => by
      rw [c] at he
      have hl : ms.size = es.length := by have := hent.1; simpa using this
      by_cases hlt : i < es.length
      · rw [List.getElem?_append_left hlt] at he
        rw [Array.getElem?_push_lt (by omega)] at hi
        exact hent.2 i mi e (by rw [Array.getElem?_toList, Array.getElem?_eq_getElem (by omega)]; exact hi) he
      · have hi' : i = es.length := by have := (List.getElem?_eq_some_iff.1 he).1; simp at this; omega
        subst hi'
        rw [← hl, Array.getElem?_push_size] at hi
        simp at he
        cases hi; subst he
        exact ⟨.int _ _ _, h3⟩)
    refine ⟨Go.undef, _, μ, .inr ⟨?_, rfl⟩, hS', .undef _ _, hG⟩
    rw [hexec, hv, h2]
    simp only [Instr.mapUpdate, Sem.run_bind, run_underlying hu, Result.andThen_ok, run_getMap hb, run_checkKey hku, run_findKeyN hku a, hset, Sem.run_pure]
  · obtain ⟨hp, hjl⟩ := f p
    obtain ⟨hS', hG⟩ := hS.putMap (es' := mapPut es k n p) (ms' := ms.modify j fun e => { e with key := .int k n, val := ρ x }) (clock' := clock) hg hm hb (by have := hent.1; rw [hp]; simp at this ⊢; exact this) (fun i mi e hi he => by
      rw [hp] at he
      rw [Array.getElem?_modify] at hi
      by_cases hij : j = i
      · subst hij
        rw [if_pos rfl] at hi
        rw [List.getElem?_set_self hjl] at he
        rw [Array.getElem?_toList] at hj
        rw [hj] at hi
        cases hi; cases he
        exact ⟨.int _ _ _, h3⟩
      · rw [if_neg hij] at hi
        rw [List.getElem?_set_ne hij] at he
        exact hent.2 i mi e (by rw [Array.getElem?_toList]; exact hi) he)
    refine ⟨Go.undef, _, μ, .inr ⟨?_, rfl⟩, hS', .undef _ _, hG⟩
    rw [Array.getElem?_toList] at hj
    have hstay : (Instr.keyThatStays (((ms[j]?).map (·.key)).getD (.int k n)) (.int k n)).run P w = .ok (.int k n) w := by
      simp [hj, hkey, Instr.keyThatStays, Instr.sameBits]
    rw [hexec, hv, h2]
    rw [Nat.zero_add] at a
    simp only [Instr.mapUpdate, Sem.run_bind, run_underlying hu, Result.andThen_ok, run_getMap hb, run_checkKey hku, run_findKeyN hku a, hstay, hset, Sem.run_pure]
end
end Go.V
/- The value logic, part 11: soundness of the relation of operations. -/
set_option linter.unusedVariables false
set_option linter.unusedSimpArgs false
namespace Go.V
open Go.RowKit

section
variable {P : Program} {tt : TT} {w0 w : World} {K : KA} {B0 : Nat → Prop} {g : Store} {μ : Mu}

theorem fieldPlace_tt (htt : TTOk P tt) {T : TypeId} {ti : TI} (ht : tt T = some ti) {fs : List (Nat × Nat × Nat)} (hk : ti.kind = .agg fs) {f o ft fz : Nat} (hf : fs[f]? = some (o, ft, fz)) :
    ∃ fields : Array Field, P.underlying T = some (.struct fields) ∧ ∃ fd, fields[f]? = some fd ∧ fd.offset = o ∧ fd.type = ft ∧ ∃ info, P.info? ft = some info ∧ info.size = fz := by
  obtain ⟨d, hd, hfit⟩ := tt_und htt ht
  rw [hk] at hfit
  obtain ⟨fields, rfl, hfs⟩ := hfit
  have h := congrArg (fun l => l[f]?) hfs
  simp only [List.getElem?_map, hf, Option.map_some, Array.getElem?_toList] at h
  cases hfd : fields[f]? with
  | none => rw [hfd] at h; simp at h
  | some fd =>
    rw [hfd] at h
    simp at h
    obtain ⟨h1, h2, info, h3, h4⟩ := h
    exact ⟨fields, hd, fd, hfd, h1, h2, info, by rw [← h2]; exact h3, h4⟩

theorem run_fieldAt (htt : TTOk P tt) {T : TypeId} {ti : TI} (ht : tt T = some ti) {fs : List (Nat × Nat × Nat)} (hk : ti.kind = .agg fs) {f o ft fz : Nat} (hf : fs[f]? = some (o, ft, fz)) (hz : fz ≠ 0) (b p : Nat) :
    (Instr.fieldAt T (.pointer (some ⟨b, p, none⟩)) f).run P w = .ok (.pointer (some ⟨b, p + o, none⟩)) w := by
  obtain ⟨fields, hd, fd, hfd, rfl, rfl, info, hi, rfl⟩ := fieldPlace_tt htt ht hk hf
  have hs : ∀ w, (sizeOf fd.type).run P w = .ok info.size w := fun w => by simp [sizeOf, typeInfo, hi]
  simp [Instr.fieldAt, run_underlying hd, hfd, Instr.sureAddr, fieldPlace, hs, hz, addr_add]

theorem rep_agg_cell {B : Nat → Prop} {cs : List PV} {v : Value} (h : Rep w B μ (.agg cs) v) : ∃ vs : Array Value, v = .agg vs ∧ cs.length = vs.size ∧ (∀ u ∈ vs.toList, u.oneCell' = true) ∧ ∀ (j : Nat) (p : PV) (u : Value), cs[j]? = some p → vs[j]? = some u → Rep w B μ p u := by
  cases h with
  | agg _ _ vs hl h1 h => exact ⟨vs, rfl, hl, h1, h⟩

/-- A part of a struct or an array. -/
theorem run_part (htt : TTOk P tt) {T : TypeId} {i : TI} (ht : tt T = some i) {B : Nat → Prop} {cs : List PV} {vs : Array Value} (hl : cs.length = vs.size) (h1 : ∀ u ∈ vs.toList, u.oneCell' = true)
    (hr : ∀ (j : Nat) (p : PV) (u : Value), cs[j]? = some p → vs[j]? = some u → Rep w B μ p u) {off : Nat} (ho : off + i.size ≤ cs.length) :
    ∃ u, (part T vs off).run P w = .ok u w ∧ Rep w B μ (ofCells i.kind.isAgg i.size cs off) u := by
  unfold part
  cases hk : i.kind.isAgg
  · have hs : i.size = 1 := by
      obtain ⟨info, d, zv, _, _, _, _, _, _, _, _, h⟩ := htt T i ht
      exact h hk
    have hlt : off < vs.size := by omega
    have hlt' : off < cs.length := by omega
    refine ⟨vs[off], by simp [run_isAgg_tt htt ht, hk, hlt], ?_⟩
    simp only [ofCells, Bool.false_eq_true, if_false]
    refine hr off _ _ ?_ (Array.getElem?_eq_getElem hlt)
    simp [List.getD_eq_getElem?_getD, List.getElem?_eq_getElem hlt']
  · refine ⟨.agg (vs.extract off (off + i.size)), by simp [run_isAgg_tt htt ht, hk, run_sizeOf_tt htt ht], ?_⟩
    simp only [ofCells, if_true]
    refine .agg _ _ _ (by simp; omega) ?_ ?_
    · intro u hu
      obtain ⟨j, hj, rfl⟩ := List.getElem_of_mem hu
      have hj' : j < i.size := by simp at hj; omega
      have : off + j < vs.size := by omega
      simp only [Array.getElem_toList, Array.getElem_extract]
      exact h1 _ (by simp)
    · intro j p u hp hu
      rw [List.getElem?_take] at hp
      split at hp
      · rename_i hj
        rw [List.getElem?_drop] at hp
        rw [Array.getElem?_extract_of_lt (by omega)] at hu
        exact hr (off + j) p u hp (by rw [← hu]; exact (Array.getElem?_eq_getElem (by omega)))
      · cases hp

theorem run_equal_bool {T : TypeId} (h : P.underlying T = some .bool) (a b : Bool) : (Op.equal T (.bool a) (.bool b)).run P w = .ok (a == b) w := by
  unfold Op.equal Op.maxDepth
  rw [Op.equalIn, Sem.run_bind, run_underlying h]
  rfl

theorem run_equal_nil {T e : TypeId} (h : P.underlying T = some (.pointer e)) (a : Addr) : (Op.equal T (.pointer (some a)) (.pointer none)).run P w = .ok false w := by
  unfold Op.equal Op.maxDepth
  rw [Op.equalIn, Sem.run_bind, run_underlying h]
  rfl

set_option maxHeartbeats 4000000 in
theorem VOp.sound (htt : TTOk P tt) (hS : Sim w0 K B0 g μ w) {fid : Nat} {v : PV} {u : List (Nat × SC)} {vals : List PV} {ρ : Operand → Value} {o : Oper} (hr : Reps w (Stab w0 B0 g μ w) μ ρ vals o.op.operands.toList)
    (h : VOp tt g fid o.op vals v u) : Does P w0 K B0 ((execOp ρ o).run P w) g μ w v u := by
  generalize hop : o.op = op at h
  rw [hop] at hr
  cases h
  case move x => exact .pure hS (val := ρ x) (by simp [execOp, hop]) hr.one
  case assign x => exact .pure hS (val := ρ x) (by simp [execOp, hop]) hr.one
  case pick c a b β p q p' q' hp hq =>
    obtain ⟨h1, h2, h3⟩ := hr.three
    have hc := rep_bool h1
    exact .pure hS (val := if β then ρ a else ρ b) (by simp [execOp, hop, hc, asBool]) (rep_ite (fun hb => rep_un h2 (hp hb)) (fun hb => rep_un h3 (hq hb)))
  case alloc T i ht hf => exact does_alloc htt hS ht hf hop
  case box T x p i ht hf hl hs => exact does_box htt hS ht hf hop hl hs hr.one
  case build T parts i fs cs ht hk hcs hl =>
    exact does_build htt hS ht hcs hop (by simpa [Op.operands] using hr) (fun zv info h1 h2 l => built_struct htt ht hk zv info h1 h2 l)
  case buildA T parts i n e ie cs ht hk he hcs hl =>
    exact does_build htt hS ht hcs hop (by simpa [Op.operands] using hr) (fun zv info h1 h2 l => built_array htt ht hk he zv info h1 h2 l)
  case buildSlice T len parts i e ie es ht hk he hz hm hf hes hl =>
    exact does_buildSlice htt hS ht hk he hz hm hf hes hop (by simpa [Op.operands] using hr)
  case load T a id sz i off ti T' es ht hg hi ho =>
    have ha := hr.one
    generalize hva : ρ a = va at ha
    cases ha with
    | ptr _ _ _ _ _ b base hm =>
    have hO := hS.obj id b base (by rw [hg]; rfl) hm
    rw [hg] at hO
    obtain ⟨info, d, zv, _, _, _, _, _, _, _, _, hone⟩ := htt T ti ht
    have hpos : ∀ j, j < ti.size → ∃ p v, (es.getD i .undef).cells[off + j]? = some p ∧ w.cell? ⟨b, base + i * sz + off + j, none⟩ = some v ∧ v.oneCell' = true ∧ Rep w (Stab w0 B0 g μ w) μ p v := fun j hj => by
      have := row_at hO hi (k := off + j) (by omega)
      rw [← Nat.add_assoc] at this
      exact this
    have hel : (es.getD i .undef).cells.length = sz := by
      obtain ⟨cs, cap, _, c2, _⟩ := hO
      exact c2 _ (by simp [List.getD_eq_getElem?_getD, List.getElem?_eq_getElem hi])
    let vs : Nat → Value := fun j => (w.cell? ⟨b, base + i * sz + off + j, none⟩).getD Go.undef
    have hvs : ∀ j, j < ti.size → w.cell? ⟨b, base + i * sz + off + j, none⟩ = some (vs j) ∧ (vs j).oneCell' = true ∧ ∀ p, (es.getD i .undef).cells[off + j]? = some p → Rep w (Stab w0 B0 g μ w) μ p (vs j) := fun j hj => by
      obtain ⟨p, v, h1, h2, h3, h4⟩ := hpos j hj
      have : vs j = v := by simp [vs, h2]
      rw [this]
      exact ⟨h2, h3, fun q hq => by rw [h1] at hq; rw [← Option.some.inj hq]; exact h4⟩
    have hrun := run_loadVar_tt (P := P) htt ht (w := w) (b := b) (o := base + i * sz + off) vs fun j hj => (hvs j hj).1
    refine .pure hS (val := _) (by simp [execOp, hop, hva, Instr.loadAt, Instr.sureAddr, hrun]) (rep_ofCells (by omega) hone (fun j hj => (hvs j hj).2.1) fun j p hj hp => (hvs j hj).2.2 p hp)
  case loadV T a cs off ti ht ho =>
    have ha := hr.one
    generalize hva : ρ a = va at ha
    cases ha with
    | vptr _ _ _ b p hB vs h1 hc hrr =>
    obtain ⟨info, d, zv, _, _, _, _, _, _, _, _, hone⟩ := htt T ti ht
    have hrun := run_loadVar_tt (P := P) htt ht (w := w) (b := b) (o := p + off) (fun j => vs (off + j)) fun j hj => by
      rw [Nat.add_assoc]; exact hc _ (by omega)
    refine .pure hS (val := _) (by simp [execOp, hop, hva, Instr.loadAt, Instr.sureAddr, hrun]) (rep_ofCells ho hone (fun j hj => h1 _ (by omega)) fun j q hj hq => (hrr _ q hq).step (fun _ h => h) (fun _ _ => rfl) (fun _ _ _ h => by cases h))
  case store T a x id sz i off p ti T' es ht hg hi ho hl hz hs =>
    obtain ⟨h1, h2⟩ := hr.two
    exact does_store htt hS ht hg hi ho hl hz hs hop h1 h2
  case makeMap T ti kt et ht hk hf => exact does_makeMap hS hf hop
  case lookup T x ix cm id T' es k n ti kt et ki ei ht hk hki hkk hei hg hes =>
    obtain ⟨h1, h2⟩ := hr.two
    exact does_lookup htt hS ht hk hki hkk hei hg hes hop h1 (rep_int h2)
  case mapUpdate T m kx x id T' es k n p ti kt et ki ht hk hki hkk hg hes =>
    obtain ⟨h1, h2, h3⟩ := hr.three
    exact does_mapPut htt hS ht hk hki hkk hg hes (.inl hop) h1 (rep_int h2) h3
  case insert T m kx x id T' es k n p ti kt et ki ht hk hki hkk hg hes =>
    obtain ⟨h1, h2, h3⟩ := hr.three
    exact does_mapPut htt hS ht hk hki hkk hg hes (.inr hop) h1 (rep_int h2) h3
  case nilCheck x id sz i off =>
    have ha := hr.one
    have ha' := ha
    generalize hva : ρ x = va at ha
    cases ha with
    | ptr _ _ _ _ _ b base hm =>
    refine .pure hS (val := ρ x) (by simp [execOp, hop, hva]) ha'
  case nilCheckV x cs off =>
    have ha := hr.one
    have ha' := ha
    generalize hva : ρ x = va at ha
    cases ha with
    | vptr _ _ _ b p hB vs h1 hc hrr =>
    refine .pure hS (val := ρ x) (by simp [execOp, hop, hva]) ha'
  case nilCheckF x f fs cs =>
    have ha := hr.one
    have ha' := ha
    generalize hva : ρ x = va at ha
    cases ha with
    | fn _ _ _ _ xs vs _ _ _ _ =>
    refine .pure hS (val := ρ x) (by simp [execOp, hop, hva]) ha'
  case binInt op T x y T' k a k' b hvc =>
    obtain ⟨h1, h2⟩ := hr.two
    have e1 := rep_int h1
    have e2 := rep_int h2
    obtain ⟨val, hv, hrep⟩ := run_binInt (w0 := w0) (w := w) (B0 := B0) (g := g) (μ := μ) (T := T) (T' := T') (a := a) hvc
    have hg : eqGuard op T x y (.int k a) (.int k' b) = Pure.pure () := by unfold eqGuard; split <;> rfl
    exact .pure hS (val := val) (by simp [execOp, hop, e1, e2, hg, hv]) hrep
  case binBoolEq T x y T' a b i ht hk =>
    obtain ⟨h1, h2⟩ := hr.two
    have e1 := rep_bool h1
    have e2 := rep_bool h2
    obtain ⟨d, hd, hfit⟩ := tt_und htt ht
    rw [hk] at hfit; simp only [TK.fits] at hfit; subst hfit
    have hg : eqGuard .eql T x y (.bool a) (.bool b) = Pure.pure () := by unfold eqGuard; rfl
    have hb : Go.binOp .eql T (.bool a) (.bool b) = (do Pure.pure (.bool (← Op.equal T (.bool a) (.bool b)))) := rfl
    exact .pure hS (val := .bool (a == b)) (by simp [execOp, hop, e1, e2, hg, hb, run_equal_bool hd]) (.bool _ _)
  case binBoolNe T x y T' a b i ht hk =>
    obtain ⟨h1, h2⟩ := hr.two
    have e1 := rep_bool h1
    have e2 := rep_bool h2
    obtain ⟨d, hd, hfit⟩ := tt_und htt ht
    rw [hk] at hfit; simp only [TK.fits] at hfit; subst hfit
    have hg : eqGuard .neq T x y (.bool a) (.bool b) = Pure.pure () := by unfold eqGuard; rfl
    have hb : Go.binOp .neq T (.bool a) (.bool b) = (do Pure.pure (.bool (!(← Op.equal T (.bool a) (.bool b))))) := rfl
    exact .pure hS (val := .bool (!(a == b))) (by simp only [execOp, hop, e1, e2, hg, hb, Sem.run_bind, Sem.run_pure, Result.andThen_ok, run_equal_bool hd]) (.bool _ _)
  case strEq T x y T' a b =>
    obtain ⟨h1, h2⟩ := hr.two
    have e1 := rep_str h1
    have e2 := rep_str h2
    have hg : eqGuard .eql T x y (.string a) (.string b) = Pure.pure () := by unfold eqGuard; rfl
    exact .pure hS (val := .bool (a.toList == b.toList)) (by simp [execOp, hop, e1, e2, hg, Go.binOp, Op.stringOp]) (.bool _ _)
  case strNe T x y T' a b =>
    obtain ⟨h1, h2⟩ := hr.two
    have e1 := rep_str h1
    have e2 := rep_str h2
    have hg : eqGuard .neq T x y (.string a) (.string b) = Pure.pure () := by unfold eqGuard; rfl
    exact .pure hS (val := .bool !(a.toList == b.toList)) (by simp [execOp, hop, e1, e2, hg, Go.binOp, Op.stringOp]) (.bool _ _)
  case strAdd T x y T' a b hle =>
    obtain ⟨h1, h2⟩ := hr.two
    have e1 := rep_str h1
    have e2 := rep_str h2
    have hg : eqGuard .add T x y (.string a) (.string b) = Pure.pure () := by unfold eqGuard; rfl
    have hn : ¬ (((a.size + b.size : Nat) : Int) > IntKind.i64.max) := by omega
    exact .pure hS (val := .string (a ++ b)) (by simp only [execOp, hop, e1, e2, hg, Go.binOp, Op.stringOp, if_neg hn]; simp) (.str _ _)
  case not T x b =>
    have e1 := rep_bool hr.one
    exact .pure hS (val := .bool !b) (by simp [execOp, hop, e1, Op.unary]) (.bool _ _)
  case neg T x k a =>
    have e1 := rep_int hr.one
    exact .pure hS (val := .int k (k.wrap (0 - a))) (by simp [execOp, hop, e1, Op.unary, Op.intArith]) (.int _ _ _)
  case xor T x k a =>
    have e1 := rep_int hr.one
    refine .pure hS (val := _) (by simp only [execOp, hop, e1, Op.unary, Op.intBits]; rfl) (.int _ _ _)
  case convert src dst x k k' n i j ht hk ht' hk' =>
    have e1 := rep_int hr.one
    obtain ⟨d, hd, hfit⟩ := tt_und htt ht
    rw [hk] at hfit; simp only [TK.fits] at hfit; subst hfit
    obtain ⟨d', hd', hfit'⟩ := tt_und htt ht'
    rw [hk'] at hfit'; simp only [TK.fits] at hfit'; subst hfit'
    exact .pure hS (val := .int k' (k'.wrap n)) (by simp [execOp, hop, e1, Go.convert, run_underlying hd, run_underlying hd', Conv.intToInt]) (.int _ _ _)
  case makeFunc f first cap hl =>
    obtain ⟨h1, h2⟩ := hr
    simp only [Op.operands] at h1 h2
    refine .pure hS (val := .func (.func f) (first.map ρ) (cap.map ρ)) (by simp [execOp, hop, Instr.makeFunc]) (.fn _ _ _ _ _ _ (by simp; omega) (by simp; omega) ?_ ?_)
    · intro j p v hp hv
      rw [List.getElem?_take] at hp
      split at hp
      · rename_i hj
        simp at hv
        obtain ⟨x, hx, rfl⟩ := hv
        exact h2 j p x hp (by rw [Array.toList_append, List.getElem?_append_left (by simpa using hj), Array.getElem?_toList]; exact hx)
      · cases hp
    · intro j p v hp hv
      rw [List.getElem?_drop] at hp
      simp at hv
      obtain ⟨x, hx, rfl⟩ := hv
      exact h2 _ p x hp (by rw [Array.toList_append, List.getElem?_append_right (by simp), Array.getElem?_toList]; simpa using hx)
  case makeSlice T l c k n k' m i e ie ht hk he hf hn hm hb hb' =>
    obtain ⟨h1, h2⟩ := hr.two
    exact does_makeSlice htt hS ht hk he hf hn hm hb hb' hop (rep_int h1) (rep_int h2)
  case ptrEqNil T x y T' id sz i off ti e ht hk =>
    obtain ⟨h1, h2⟩ := hr.two
    have e2 := rep_nilP h2
    obtain ⟨d, hd, hfit⟩ := tt_und htt ht
    rw [hk] at hfit; simp only [TK.fits] at hfit; subst hfit
    generalize hvx : ρ x = vx at h1
    cases h1 with
    | ptr _ _ _ _ _ b base hm =>
    have hb : ∀ a, Go.binOp .eql T (.pointer (some a)) (.pointer none) = (do Pure.pure (.bool (← Op.equal T (.pointer (some a)) (.pointer none)))) := fun _ => rfl
    have hg : ∀ a, eqGuard .eql T x y (.pointer (some a)) (.pointer none) = Pure.pure () := fun _ => by unfold eqGuard; rfl
    exact .pure hS (val := .bool false) (by simp only [execOp, hop, hvx, e2, hg, hb, Sem.run_bind, Sem.run_pure, Result.andThen_ok, run_equal_nil hd]) (.bool _ _)
  case ptrNeNil T x y T' id sz i off ti e ht hk =>
    obtain ⟨h1, h2⟩ := hr.two
    have e2 := rep_nilP h2
    obtain ⟨d, hd, hfit⟩ := tt_und htt ht
    rw [hk] at hfit; simp only [TK.fits] at hfit; subst hfit
    generalize hvx : ρ x = vx at h1
    cases h1 with
    | ptr _ _ _ _ _ b base hm =>
    have hb : ∀ a, Go.binOp .neq T (.pointer (some a)) (.pointer none) = (do Pure.pure (.bool (!(← Op.equal T (.pointer (some a)) (.pointer none))))) := fun _ => rfl
    have hg : ∀ a, eqGuard .neq T x y (.pointer (some a)) (.pointer none) = Pure.pure () := fun _ => by unfold eqGuard; rfl
    exact .pure hS (val := .bool true) (by simp only [execOp, hop, hvx, e2, hg, hb, Sem.run_bind, Sem.run_pure, Result.andThen_ok, run_equal_nil hd, Bool.not_false]) (.bool _ _)
  case vptrEqNil T x y T' cs off ti e ht hk =>
    obtain ⟨h1, h2⟩ := hr.two
    have e2 := rep_nilP h2
    obtain ⟨d, hd, hfit⟩ := tt_und htt ht
    rw [hk] at hfit; simp only [TK.fits] at hfit; subst hfit
    generalize hvx : ρ x = vx at h1
    cases h1 with
    | vptr _ _ _ b p hB vs h1 hc hrr =>
    have hb : ∀ a, Go.binOp .eql T (.pointer (some a)) (.pointer none) = (do Pure.pure (.bool (← Op.equal T (.pointer (some a)) (.pointer none)))) := fun _ => rfl
    have hg : ∀ a, eqGuard .eql T x y (.pointer (some a)) (.pointer none) = Pure.pure () := fun _ => by unfold eqGuard; rfl
    exact .pure hS (val := .bool false) (by simp only [execOp, hop, hvx, e2, hg, hb, Sem.run_bind, Sem.run_pure, Result.andThen_ok, run_equal_nil hd]) (.bool _ _)
  case vptrNeNil T x y T' cs off ti e ht hk =>
    obtain ⟨h1, h2⟩ := hr.two
    have e2 := rep_nilP h2
    obtain ⟨d, hd, hfit⟩ := tt_und htt ht
    rw [hk] at hfit; simp only [TK.fits] at hfit; subst hfit
    generalize hvx : ρ x = vx at h1
    cases h1 with
    | vptr _ _ _ b p hB vs h1 hc hrr =>
    have hb : ∀ a, Go.binOp .neq T (.pointer (some a)) (.pointer none) = (do Pure.pure (.bool (!(← Op.equal T (.pointer (some a)) (.pointer none))))) := fun _ => rfl
    have hg : ∀ a, eqGuard .neq T x y (.pointer (some a)) (.pointer none) = Pure.pure () := fun _ => by unfold eqGuard; rfl
    exact .pure hS (val := .bool true) (by simp only [execOp, hop, hvx, e2, hg, hb, Sem.run_bind, Sem.run_pure, Result.andThen_ok, run_equal_nil hd, Bool.not_false]) (.bool _ _)
  case fieldAddr T x f id sz i off ti fs o' ft fz ht hk hf hz =>
    have ha := hr.one
    generalize hva : ρ x = va at ha
    cases ha with
    | ptr _ _ _ _ _ b base hm =>
    exact .pure hS (val := .pointer (some ⟨b, base + i * sz + (off + o'), none⟩)) (by simp [execOp, hop, hva, run_fieldAt htt ht hk hf hz, Nat.add_assoc]) (.ptr _ _ _ _ _ _ _ hm)
  case fieldAddrV T x f cs off ti fs o' ft fz ht hk hf hz =>
    have ha := hr.one
    generalize hva : ρ x = va at ha
    cases ha with
    | vptr _ _ _ b p hB vs h1 hc hrr =>
    exact .pure hS (val := .pointer (some ⟨b, p + (off + o'), none⟩)) (by simp [execOp, hop, hva, run_fieldAt htt ht hk hf hz, Nat.add_assoc]) (.vptr _ _ _ _ _ hB vs h1 hc hrr)
  case field T x f cs ti fs o' ft fz fi ht hk hf hi ho =>
    obtain ⟨vs, hv, hl, h1, hrr⟩ := rep_agg_cell hr.one
    obtain ⟨fields, hd, fd, hfd, rfl, rfl, _⟩ := fieldPlace_tt htt ht hk hf
    obtain ⟨u, hu, hrep⟩ := run_part htt hi hl h1 hrr ho
    exact .pure hS (val := u) (by simp [execOp, hop, hv, Instr.field, run_underlying hd, hfd, asAgg, hu]) hrep
  case indexAddr T x ix sz es k n ti e ie ht hk he hz h0 h1 =>
    obtain ⟨ha, hb⟩ := hr.two
    have e2 := rep_int hb
    obtain ⟨d, hd, hfit⟩ := tt_und htt ht
    rw [hk] at hfit; simp only [TK.fits] at hfit; subst hfit
    generalize hva : ρ x = va at ha
    cases ha with
    | slc0 => simp at h1; omega
    | slc _ _ _ b off c hn hB vs hs h1c hc hrr =>
    subst hz
    have hsz := run_sizeOf_tt (P := P) htt he w
    have hi' : n.toNat < es.length := by omega
    have hfl := flat_length hs
    have hmul : (n.toNat + 1) * ie.size ≤ es.length * ie.size := Nat.mul_le_mul_right _ (by omega)
    rw [Nat.add_mul, Nat.one_mul] at hmul
    have hel : es[n.toNat]? = some (es.getD n.toNat .undef) := by simp [List.getD_eq_getElem?_getD, List.getElem?_eq_getElem hi']
    have hlen : (es.getD n.toNat .undef).cells.length = ie.size := hs _ (List.mem_of_getElem? hel)
    refine .pure hS (val := .pointer (some ⟨b, off + n.toNat * ie.size + 0, none⟩)) ?_ (.vptr _ _ _ _ _ hB (fun j => vs (n.toNat * ie.size + j)) (fun j hj => h1c _ (by omega)) (fun j hj => by rw [Nat.add_assoc]; exact hc _ (by omega)) fun j p hp => hrr _ p ?_)
    · simp [execOp, hop, hva, e2, Instr.indexAt, asIntOf, run_underlying hd, hsz, h0, h1, addr_add]
    · have hj : j < ie.size := by
        have := (List.getElem?_eq_some_iff.1 hp).1
        omega
      rw [flat_at _ _ hs hj, hel, Option.bind_some]
      exact hp
  case indexAddrR T x ix id sz lo m lim k n ti e ie ht hk he hz h0 h1 =>
    obtain ⟨ha, hb⟩ := hr.two
    have e2 := rep_int hb
    obtain ⟨d, hd, hfit⟩ := tt_und htt ht
    rw [hk] at hfit; simp only [TK.fits] at hfit; subst hfit
    generalize hva : ρ x = va at ha
    cases ha with
    | sref _ _ _ _ _ _ a c b base hm hn hl haddr hc =>
    subst hz
    have hsz := run_sizeOf_tt (P := P) htt he w
    have hadr := haddr (by omega)
    subst hadr
    refine .pure hS (val := .pointer (some ⟨b, base + (lo + n.toNat) * ie.size + 0, none⟩)) ?_ (.ptr _ _ _ _ _ _ _ hm)
    simp [execOp, hop, hva, e2, Instr.indexAt, asIntOf, run_underlying hd, hsz, h0, h1, addr_add, Nat.add_mul, Nat.add_assoc]
  case indexAddrA T x ix id sz i off k n ti len e ie ht hk he h0 h1 =>
    obtain ⟨ha, hb⟩ := hr.two
    have e2 := rep_int hb
    obtain ⟨d, hd, hfit⟩ := tt_und htt ht
    rw [hk] at hfit; simp only [TK.fits] at hfit; subst hfit
    generalize hva : ρ x = va at ha
    cases ha with
    | ptr _ _ _ _ _ b base hm =>
    have hsz := run_sizeOf_tt (P := P) htt he w
    refine .pure hS (val := .pointer (some ⟨b, base + i * sz + (off + n.toNat * ie.size), none⟩)) ?_ (.ptr _ _ _ _ _ _ _ hm)
    simp [execOp, hop, hva, e2, Instr.indexAt, asIntOf, run_underlying hd, hsz, h0, h1, addr_add, Instr.sureAddr, Nat.add_assoc]
  case indexAddrAV T x ix cs off k n ti len e ie ht hk he h0 h1 =>
    obtain ⟨ha, hb⟩ := hr.two
    have e2 := rep_int hb
    obtain ⟨d, hd, hfit⟩ := tt_und htt ht
    rw [hk] at hfit; simp only [TK.fits] at hfit; subst hfit
    generalize hva : ρ x = va at ha
    cases ha with
    | vptr _ _ _ b p hB vs h1c hc hrr =>
    have hsz := run_sizeOf_tt (P := P) htt he w
    refine .pure hS (val := .pointer (some ⟨b, p + (off + n.toNat * ie.size), none⟩)) ?_ (.vptr _ _ _ _ _ hB vs h1c hc hrr)
    simp [execOp, hop, hva, e2, Instr.indexAt, asIntOf, run_underlying hd, hsz, h0, h1, addr_add, Instr.sureAddr, Nat.add_assoc]
  case indexA T x ix cs k n ti len e ie ht hk he h0 h1 hl =>
    obtain ⟨ha, hb⟩ := hr.two
    have e2 := rep_int hb
    obtain ⟨d, hd, hfit⟩ := tt_und htt ht
    rw [hk] at hfit; simp only [TK.fits] at hfit; subst hfit
    obtain ⟨vs, hv, hlen, h1c, hrr⟩ := rep_agg_cell ha
    obtain ⟨u, hu, hrep⟩ := run_part htt he hlen h1c hrr hl
    have hsz := run_sizeOf_tt (P := P) htt he w
    exact .pure hS (val := u) (by simp [execOp, hop, hv, e2, Instr.index, asIntOf, run_underlying hd, hsz, h0, h1, hu]) hrep
  case indexS T x ix s k n ti ht hk h0 h1 =>
    obtain ⟨ha, hb⟩ := hr.two
    have e1 := rep_str ha
    have e2 := rep_int hb
    obtain ⟨d, hd, hfit⟩ := tt_und htt ht
    rw [hk] at hfit; simp only [TK.fits] at hfit; subst hfit
    have hlt : n.toNat < s.size := by omega
    have hlt' : n.toNat < s.data.size := hlt
    have hd1 : s.data.getD n.toNat 0 = s[n.toNat] := by
      rw [Array.getD_eq_getD_getElem?, Array.getElem?_eq_getElem hlt']; rfl
    refine .pure hS (val := .int .u8 ((s.data.getD n.toNat 0).toNat)) ?_ (.int _ _ _)
    rw [hd1]
    simp [execOp, hop, e1, e2, Instr.index, asIntOf, run_underlying hd, h0, hlt]
  case extract x ix vs h =>
    have ha := hr.one
    generalize hva : ρ x = va at ha
    cases ha with
    | tup _ _ us hl hrr =>
    have hlt : ix < us.size := by
      have := (List.getElem?_eq_some_iff.1 h).1
      omega
    exact .pure hS (val := us[ix]) (by simp [execOp, hop, hva, Instr.extract, hlt]) (hrr ix _ _ h (Array.getElem?_eq_getElem hlt))
  case len c a T sz es ti e hc ha hT ht hk =>
    obtain ⟨d, hd, hfit⟩ := tt_und htt ht
    rw [hk] at hfit; simp only [TK.fits] at hfit; subst hfit
    have h1 : Rep w (Stab w0 B0 g μ w) μ (.slc sz es) (ρ a) := hr.2 0 _ a rfl (by simp [Op.operands, Call.operands, hc, ha])
    have hv : ∃ a' c', ρ a = .slice a' es.length c' := by
      generalize ρ a = va at h1
      cases h1 with
      | slc0 => exact ⟨_, _, rfl⟩
      | slc => exact ⟨_, _, rfl⟩
    obtain ⟨a', c', hv⟩ := hv
    exact .pure hS (val := .int .i64 es.length) (by rw [exec_builtin hop hc]; simp [ha, hT, builtin, Builtin.len_, hv, run_underlying hd, goInt]) (.int _ _ _)
  case lenR c a T id sz lo n lim ti e hc ha hT ht hk =>
    obtain ⟨d, hd, hfit⟩ := tt_und htt ht
    rw [hk] at hfit; simp only [TK.fits] at hfit; subst hfit
    have h1 : Rep w (Stab w0 B0 g μ w) μ (.sref id sz lo n lim) (ρ a) := hr.2 0 _ a rfl (by simp [Op.operands, Call.operands, hc, ha])
    obtain ⟨a', c', hv⟩ := sref_nil_cap h1
    exact .pure hS (val := .int .i64 n) (by rw [exec_builtin hop hc]; simp [ha, hT, builtin, Builtin.len_, hv, run_underlying hd, goInt]) (.int _ _ _)
  case lenN c a T ti e hc ha hT ht hk =>
    obtain ⟨d, hd, hfit⟩ := tt_und htt ht
    rw [hk] at hfit; simp only [TK.fits] at hfit; subst hfit
    have h1 : Rep w (Stab w0 B0 g μ w) μ .nilS (ρ a) := hr.2 0 _ a rfl (by simp [Op.operands, Call.operands, hc, ha])
    have hv := rep_nilS h1
    exact .pure hS (val := .int .i64 0) (by rw [exec_builtin hop hc]; simp [ha, hT, builtin, Builtin.len_, hv, run_underlying hd, goInt]) (.int _ _ _)
  case lenS c a T ti s hc ha hT ht hk =>
    obtain ⟨d, hd, hfit⟩ := tt_und htt ht
    rw [hk] at hfit; simp only [TK.fits] at hfit; subst hfit
    have h1 : Rep w (Stab w0 B0 g μ w) μ (.str s) (ρ a) := hr.2 0 _ a rfl (by simp [Op.operands, Call.operands, hc, ha])
    have hv := rep_str h1
    exact .pure hS (val := .int .i64 s.size) (by rw [exec_builtin hop hc]; simp [ha, hT, builtin, Builtin.len_, hv, run_underlying hd, goInt]) (.int _ _ _)
  case min c a b x y k hc ha =>
    have h1 : Rep w (Stab w0 B0 g μ w) μ (.int k x) (ρ a) := hr.2 0 _ a rfl (by simp [Op.operands, Call.operands, hc, ha])
    have h2 : Rep w (Stab w0 B0 g μ w) μ (.int k y) (ρ b) := hr.2 1 _ b rfl (by simp [Op.operands, Call.operands, hc, ha])
    exact .pure hS (val := .int k (if y < x then y else x)) (by rw [exec_builtin hop hc]; simp [ha, builtin, Builtin.min_, Builtin.min2, rep_int h1, rep_int h2]) (.int _ _ _)
  case max c a b x y k hc ha =>
    have h1 : Rep w (Stab w0 B0 g μ w) μ (.int k x) (ρ a) := hr.2 0 _ a rfl (by simp [Op.operands, Call.operands, hc, ha])
    have h2 : Rep w (Stab w0 B0 g μ w) μ (.int k y) (ρ b) := hr.2 1 _ b rfl (by simp [Op.operands, Call.operands, hc, ha])
    exact .pure hS (val := .int k (if y > x then y else x)) (by rw [exec_builtin hop hc]; simp [ha, builtin, Builtin.max_, Builtin.max2, rep_int h1, rep_int h2]) (.int _ _ _)
  case appendE c a b T id sz lo n lim q sz' i e ie hc ha hT ht hk he hx =>
    have hr' := hr.2
    exact does_appendE htt hS ht hk he hx hop hc ha hT (hr' 0 _ a rfl (by simp [Op.operands, Call.operands, hc, ha])) (hr' 1 _ b rfl (by simp [Op.operands, Call.operands, hc, ha]))
  case appendN c a b T q sz' xs i e ie hc ha hT ht hk he hx hz hf hm hm' hne =>
    have h1 : Rep w (Stab w0 B0 g μ w) μ .nilS (ρ a) := hr.2 0 _ a rfl (by simp [Op.operands, Call.operands, hc, ha])
    have hpos : 0 < xs.length := List.length_pos_iff.2 hne
    have := does_appendOut (n := 0) (old := []) (olds := []) htt hS ht hk he hf hx rfl hz hop hc ha hT (rep_nilS h1) (by omega) (by simp) (by simp) (fun w' _ => by simp [Builtin.firstCells]) (fun j p u hp => by simp [flat] at hp) rfl (by simp) (by simpa using hm) (by simpa using hm')
      (hr.2 1 _ b rfl (by simp [Op.operands, Call.operands, hc, ha]))
    simpa using this
  case appendLim c a b T id sz lo n q sz' xs i e ie es hc ha hT ht hk he hx hz hz' hg hn hne hf hm hm' =>
    have h1 : Rep w (Stab w0 B0 g μ w) μ (.sref id sz lo n true) (ρ a) := hr.2 0 _ a rfl (by simp [Op.operands, Call.operands, hc, ha])
    obtain ⟨a', c', hv, hnc, hlim, olds, o1, o2, o3, o4⟩ := olds_cells (P := P) hS h1 hg hn
    have hpos : 0 < xs.length := List.length_pos_iff.2 hne
    have hO : ∀ e ∈ es, e.cells.length = sz := by
      obtain ⟨b0, base, hm0⟩ := hS.live_mu (id := id) (by rw [hg]; rfl)
      have := hS.obj id b0 base (by rw [hg]; rfl) hm0
      rw [hg] at this
      obtain ⟨_, _, _, c2, _⟩ := this
      exact c2
    rw [hv] at o3
    exact does_appendOut htt hS ht hk he hf hx hz hz' hop hc ha hT hv (by have := hlim rfl; omega) o1 o2 o3 o4 (by simp; omega) (fun e he => hO e (List.mem_of_mem_drop (List.mem_of_mem_take he))) hm hm'
      (hr.2 1 _ b rfl (by simp [Op.operands, Call.operands, hc, ha]))
  case appendRoom c a b T id sz lo n q sz' xs i e ie T0 es hc ha hT ht hk he hx hz hz' hg hrm hszp =>
    have h1 : Rep w (Stab w0 B0 g μ w) μ (.sref id sz lo n false) (ρ a) := hr.2 0 _ a rfl (by simp [Op.operands, Call.operands, hc, ha])
    have h2 : Rep w (Stab w0 B0 g μ w) μ q (ρ b) := hr.2 1 _ b rfl (by simp [Op.operands, Call.operands, hc, ha])
    by_cases hxe : xs = []
    · subst hxe
      have hE := does_appendE htt hS ht hk he hx hop hc ha hT h1 h2
      have hsame : es.take (lo + n) ++ [] ++ es.drop (lo + n + ([] : List PV).length) = es := by simp
      have hu : upd g id (.row T0 sz es) = g := by
        funext j
        by_cases e : j = id
        · subst e; simp [upd, hg]
        · simp [upd, e]
      rw [hsame]
      unfold Does at hE ⊢
      simp only [upds, hu] at hE ⊢
      exact hE
    · have hpos : 0 < xs.length := List.length_pos_iff.2 hxe
      generalize hvx : ρ a = va at h1
      cases h1 with
      | sref _ _ _ _ _ _ a' c' b' base hmu hnc hl haddr hcap =>
      have hO := hS.obj id b' base (by rw [hg]; rfl) hmu
      rw [hg] at hO
      obtain ⟨cs, cap, c1, c2, c3, c4, c5⟩ := hO
      obtain ⟨cs', T', hc1, hc2⟩ := hcap rfl
      rw [c1] at hc1
      have hcc : cs = cs' := by injection hc1 with h; injection h with h1 h2
      subst hcc
      have hle : lo + c' = cap := Nat.eq_of_mul_eq_mul_right hszp (by omega)
      have hadr := haddr (by omega)
      subst hadr
      obtain ⟨w', hrun, hS', hG, cs2, hcs2, hsz2⟩ := does_appendIn htt hS ht hk he hx hz hz' hg (by omega) hop hc ha hT hmu hvx (by omega) ⟨cs, T0, c1, hc2⟩ h2
      exact ⟨_, w', μ, .inl hrun, hS', .sref _ _ _ _ _ _ _ _ _ _ hmu (by omega) (fun h => by cases h) (fun _ => rfl) (fun _ => ⟨cs2, T0, hcs2, hsz2⟩), hG⟩
  case appendGrow c a b T id sz lo n q sz' xs i e ie es hc ha hT ht hk he hx hz hz' hg hn hrm hf hne hm hm' =>
    have h1 : Rep w (Stab w0 B0 g μ w) μ (.sref id sz lo n false) (ρ a) := hr.2 0 _ a rfl (by simp [Op.operands, Call.operands, hc, ha])
    have h2 : Rep w (Stab w0 B0 g μ w) μ q (ρ b) := hr.2 1 _ b rfl (by simp [Op.operands, Call.operands, hc, ha])
    obtain ⟨a', c', hv, hnc, hlim, olds, o1, o2, o3, o4⟩ := olds_cells (P := P) hS h1 hg hn
    have hO : ∀ e ∈ es, e.cells.length = sz := by
      obtain ⟨b0, base, hm0⟩ := hS.live_mu (id := id) (by rw [hg]; rfl)
      have := hS.obj id b0 base (by rw [hg]; rfl) hm0
      rw [hg] at this
      obtain ⟨_, _, _, c2, _⟩ := this
      exact c2
    rw [hv] at o3
    by_cases hroom : n + xs.length ≤ c'
    · -- in place
      generalize hvx : ρ a = va at h1
      cases h1 with
      | sref _ _ _ _ _ _ a0 c0 b' base hmu hnc0 hl haddr hcap =>
      have heq := hvx.symm.trans hv
      injection heq with heq1 heq2 heq3
      subst heq3
      have hadr := haddr (by omega)
      subst hadr
      obtain ⟨w', hrun, hS', hG, cs2, hcs2, hsz2⟩ := does_appendIn htt hS ht hk he hx hz hz' hg hn hop hc ha hT hmu hvx hroom (hcap rfl) h2
      have hdrop : es.drop (lo + n + xs.length) = [] := List.drop_eq_nil_of_le (by omega)
      rw [hdrop, List.append_nil] at hS' hG
      have hbig : upd g id (.row e sz (es.take (lo + n) ++ xs)) id = .row e sz (es.take (lo + n) ++ xs) := by simp [upd]
      have hff : Free (upd g id (.row e sz (es.take (lo + n) ++ xs))) fid := ⟨by simp [upd, hne, hf.1], hf.2⟩
      have hdl : (es.take (lo + n) ++ xs).drop lo = (es.drop lo).take n ++ xs := by
        rw [List.drop_append_of_le_length (by simp; omega), List.drop_take]
        congr 2; omega
      obtain ⟨μ', hmu', hS'', hG'⟩ := hS'.rebase (id := id) (fid := fid) (b := b') (base := base) (base' := base + lo * sz) (by rw [hbig]; rfl) hmu hff (.row e sz ((es.drop lo).take n ++ xs)) rfl (fun μ' hgo => by
        have hO2 := hS'.obj id b' base (by rw [hbig]; rfl) hmu
        rw [hbig] at hO2
        obtain ⟨cs3, cap3, d1, d2, d3, d4, d5⟩ := hO2
        rw [hcs2] at d1
        obtain rfl : cs2 = cs3 := by injection d1 with h; injection h
        have hcapsz : (lo + c0) * sz = cap3 * sz := by omega
        refine ⟨cs2, Max.max (cap3 - lo) c0, hcs2, fun e he => d2 e (by rw [← hdl] at he; exact List.mem_of_mem_drop he), ?_, ?_, fun j p hp => ?_⟩
        · simp at d3 ⊢; omega
        · have hl3 : lo ≤ cap3 := by simp at d3; omega
          have e1 : (cap3 - lo) * sz = c0 * sz := by
            have : (cap3 - lo) * sz = cap3 * sz - lo * sz := Nat.sub_mul _ _ _
            rw [Nat.add_mul] at hcapsz
            omega
          have e2 : Max.max (cap3 - lo) c0 * sz = c0 * sz := by
            rcases Nat.le_total (cap3 - lo) c0 with h | h
            · rw [Nat.max_eq_right h]
            · rw [Nat.max_eq_left h]; exact e1
          rw [e2, hsz2, Nat.add_mul]; omega
        · have hl3 : lo + (n + xs.length) ≤ (es.take (lo + n) ++ xs).length := by simp; omega
          have hfd := flat_drop_take d2 lo (n + xs.length) hl3 j
          rw [List.take_of_length_le (by simp; omega), hdl] at hfd
          rw [hfd] at hp
          split at hp
          · obtain ⟨v, a1, a2, a3⟩ := d5 _ p hp
            exact ⟨v, by rw [← a1]; congr 1; omega, a2, hgo _ _ a3⟩
          · cases hp)
      have hupd : upd (upd (upd g id (.row e sz (es.take (lo + n) ++ xs))) id .dead) fid (.row e sz ((es.drop lo).take n ++ xs)) = upds g [(id, .dead), (fid, .row e sz ((es.drop lo).take n ++ xs))] := by
        funext j
        simp only [upds, upd]
        split <;> first | rfl | (split <;> rfl)
      rw [hupd] at hS'' hG'
      exact ⟨_, w', μ', .inl hrun, hS'', .sref _ _ _ _ _ _ _ _ _ _ hmu' (by omega) (fun h => by cases h) (fun _ => by simp) (fun _ => ⟨cs2, e, hcs2, by rw [hsz2, Nat.zero_add, Nat.add_mul]; omega⟩), hG.trans hG'⟩
    · -- in a new row
      obtain ⟨val, w', μ', hex, hS', hrep, hG⟩ := does_appendOut htt hS ht hk he hf hx hz hz' hop hc ha hT hv (by omega) o1 o2 o3 o4 (by simp; omega) (fun e he => hO e (List.mem_of_mem_drop (List.mem_of_mem_take he))) hm hm' h2
      have hgid : upds g [(fid, .row e sz ((es.drop lo).take n ++ xs))] id ≠ .fresh := by
        simp [upds, upd, Ne.symm hne, hg]
      obtain ⟨hS'', hG'⟩ := hS'.kill hgid
      have hupd : upd (upds g [(fid, .row e sz ((es.drop lo).take n ++ xs))]) id .dead = upds g [(id, .dead), (fid, .row e sz ((es.drop lo).take n ++ xs))] := by
        funext j
        simp only [upds, upd]
        split <;> split <;> first | rfl | (exfalso; omega)
      rw [hupd] at hS'' hG'
      exact ⟨val, w', μ', hex, hS'', hG' _ _ hrep, hG.trans hG'⟩
  case sliceR T x lo hi mx id sz o' n lim l h L H M hl hh h0 h1 h2 i e ie ht hk he hz hM hlim ha =>
    subst hM
    obtain ⟨hX, hLn, hHn, hMn, hL, hH, _⟩ := slice_args hr ha
    obtain ⟨d, hd, hfit⟩ := tt_und htt ht
    rw [hk] at hfit; simp only [TK.fits] at hfit; subst hfit
    have hmx : mx = none := hMn.2 rfl
    subst hmx
    subst hz
    generalize hvx : ρ x = vx at hX
    cases hX with
    | sref _ _ _ _ _ _ a c b base hm hn hlm haddr hcap =>
    have hb := run_bounds (P := P) (w := w) (isSlice := true) hn (lo := lo.map ρ) (hi := hi.map ρ) (L := L) (H := H) (fun v hv => by
      cases lo with
      | none => cases hv
      | some q =>
        simp at hv; subst hv
        obtain ⟨p, rfl, hp⟩ := hL q rfl
        cases p <;> simp [bound] at hl
        exact ⟨_, _, rep_int hp, by rw [hl]⟩) (fun hv => hLn (by simpa using hv)) (fun v hv => by
      cases hi with
      | none => cases hv
      | some q =>
        simp at hv; subst hv
        obtain ⟨p, rfl, hp⟩ := hH q rfl
        cases p <;> simp [bound] at hh
        exact ⟨_, _, rep_int hp, by rw [hh]⟩) (fun hv => hHn (by simpa using hv)) hl hh h0 h1 h2
    have hsz := run_sizeOf_tt (P := P) htt he w
    have hlc : l.toNat ≤ c := by omega
    refine .pure hS (val := .slice (if c = l.toNat then a else a.map (·.add (l.toNat * ie.size))) (h.toNat - l.toNat) (c - l.toNat)) ?_ ?_
    · simp only [execOp, hop, Instr.sliceAt, hvx, Sem.run_bind, run_underlying hd, Result.andThen_ok, Instr.slice, Option.map_none, hb, hsz, Sem.run_pure]
    · have e1 : (h - l).toNat = h.toNat - l.toNat := by omega
      rw [e1]
      refine .sref _ _ _ _ _ _ _ _ b base hm (by omega) (fun hl' => ?_) (cut_places haddr hlc) (fun hl' => ?_)
      · have := hlm hl'
        have := hlim hl'
        omega
      · obtain ⟨cs, T', g1, g2⟩ := hcap hl'
        refine ⟨cs, T', g1, ?_⟩
        rw [g2]
        congr 2
        omega
  case sliceR3 T x lo hi mx id sz o' n lim l h L H M m hl hh hm h0 h1 h2 i e ie ht hk he hz hM ha =>
    subst hM
    obtain ⟨hX, hLn, hHn, hMn, hL, hH, hMM⟩ := slice_args hr ha
    obtain ⟨d, hd, hfit⟩ := tt_und htt ht
    rw [hk] at hfit; simp only [TK.fits] at hfit; subst hfit
    subst hz
    cases mx with
    | none => exact absurd (hMn.1 rfl) (by simp)
    | some qm =>
    obtain ⟨pm, hpm, hrm⟩ := hMM qm rfl
    have hpm' := Option.some.inj hpm
    subst hpm'
    cases hi with
    | none =>
      have := hHn rfl
      subst this
      cases lo <;> rcases vals with _ | ⟨p0, _ | ⟨p1, _ | ⟨p2, _ | ⟨p3, _ | ⟨p4, r⟩⟩⟩⟩⟩ <;> simp [sliceArgs] at ha
    | some qh =>
    obtain ⟨ph, rfl, hrh⟩ := hH qh rfl
    obtain ⟨km, rfl⟩ : ∃ km, M = .int km m := by
      cases M <;> simp [bound] at hm
      exact ⟨_, by rw [hm]⟩
    obtain ⟨kh, rfl⟩ : ∃ kh, ph = .int kh m := by
      cases ph <;> simp [bound] at hh
      exact ⟨_, by rw [hh]⟩
    have em := rep_int hrm
    have eh := rep_int hrh
    generalize hvx : ρ x = vx at hX
    cases hX with
    | sref _ _ _ _ _ _ a c b base hm' hn hlm haddr hcap =>
    have hb := run_bounds3 (P := P) (w := w) (isSlice := true) hn (lo := lo.map ρ) (L := L) (k' := kh) (km := km) (m := 0) (fun v hv => by
      cases lo with
      | none => cases hv
      | some q =>
        simp at hv; subst hv
        obtain ⟨p, rfl, hp⟩ := hL q rfl
        cases p <;> simp [bound] at hl
        exact ⟨_, _, rep_int hp, by rw [hl]⟩) (fun hv => hLn (by simpa using hv)) hl h0 h1 h2
    have hsz := run_sizeOf_tt (P := P) htt he w
    have hlc : l.toNat ≤ c := by omega
    refine .pure hS (val := .slice (if m.toNat = l.toNat then a else a.map (·.add (l.toNat * ie.size))) (m.toNat - l.toNat) (m.toNat - l.toNat)) (by
      simp only [execOp, hop, Instr.sliceAt, hvx, Sem.run_bind, run_underlying hd, Result.andThen_ok, Instr.slice, Option.map_some, em, eh, hb, hsz, Sem.run_pure]) ?_
    have e1 : (m - l).toNat = m.toNat - l.toNat := by omega
    rw [e1]
    refine .sref _ _ _ _ _ _ _ _ b base hm' (Nat.le_refl _) (fun _ => rfl) (fun hne => ?_) (fun hl' => by cases hl')
    rw [if_neg (by omega), haddr (by omega)]
    simp only [Option.map_some, addr_add, Nat.add_mul, Nat.add_assoc]
  case sliceV T x lo hi mx sz es l h L H hl hh h0 h1 h2 i e ie ht hk he hz ha =>
    obtain ⟨hX, hLn, hHn, hMn, hL, hH, _⟩ := slice_args hr ha
    obtain ⟨d, hd, hfit⟩ := tt_und htt ht
    rw [hk] at hfit; simp only [TK.fits] at hfit; subst hfit
    have hmx : mx = none := hMn.2 rfl
    subst hmx
    subst hz
    have hv : ∃ a c, ρ x = .slice a es.length c ∧ es.length ≤ c := by
      generalize ρ x = vx at hX
      cases hX with
      | slc0 => exact ⟨_, _, rfl, Nat.zero_le _⟩
      | slc _ _ _ b off c hn => exact ⟨_, _, rfl, hn⟩
    obtain ⟨a, c, hv, hn⟩ := hv
    have hb := run_bounds (P := P) (w := w) (isSlice := true) hn (lo := lo.map ρ) (hi := hi.map ρ) (L := L) (H := H) (fun v hv => by
      cases lo with
      | none => cases hv
      | some q =>
        simp at hv; subst hv
        obtain ⟨p, rfl, hp⟩ := hL q rfl
        cases p <;> simp [bound] at hl
        exact ⟨_, _, rep_int hp, by rw [hl]⟩) (fun hv => hLn (by simpa using hv)) (fun v hv => by
      cases hi with
      | none => cases hv
      | some q =>
        simp at hv; subst hv
        obtain ⟨p, rfl, hp⟩ := hH q rfl
        cases p <;> simp [bound] at hh
        exact ⟨_, _, rep_int hp, by rw [hh]⟩) (fun hv => hHn (by simpa using hv)) hl hh h0 h1 h2
    have hsz := run_sizeOf_tt (P := P) htt he w
    have hlen : ((es.drop l.toNat).take (h - l).toNat).length = h.toNat - l.toNat := by simp; omega
    refine .pure hS (val := .slice (if c = l.toNat then a else a.map (·.add (l.toNat * ie.size))) (h.toNat - l.toNat) (c - l.toNat)) ?_ ?_
    · simp only [execOp, hop, Instr.sliceAt, hv, Sem.run_bind, run_underlying hd, Result.andThen_ok, Instr.slice, Option.map_none, hb, hsz, Sem.run_pure]
    · by_cases hz : h.toNat - l.toNat = 0
      · have : (es.drop l.toNat).take (h - l).toNat = [] := List.eq_nil_of_length_eq_zero (by omega)
        rw [this, hz]
        exact .slc0 _ _ _ _
      · rw [hv] at hX
        generalize hX' : Value.slice a es.length c = vx at hX
        cases hX with
        | slc0 => simp at h2; omega
        | slc _ _ _ b off c' hn' hB vs hs h1c hc hrr =>
          injection hX' with q1 q2 q3
          subst q1; subst q3
          rw [if_neg (by omega)]
          simp only [Option.map_some, addr_add]
          rw [← hlen]
          have hfd := flat_drop_take hs l.toNat (h - l).toNat (by omega)
          have hml : (l.toNat + (h - l).toNat) * ie.size ≤ es.length * ie.size := Nat.mul_le_mul_right _ (by omega)
          rw [Nat.add_mul] at hml
          have hfl := flat_length hs
          have hs' : ∀ e ∈ (es.drop l.toNat).take (h - l).toNat, e.cells.length = ie.size := fun e he => hs e (List.mem_of_mem_drop (List.mem_of_mem_take he))
          have hfl' := flat_length hs'
          rw [hlen] at hfl'
          have hhl : (h - l).toNat = h.toNat - l.toNat := by omega
          rw [hhl] at hml
          refine .slc _ _ _ b _ _ (by rw [hlen]; omega) hB (fun j => vs (l.toNat * ie.size + j)) hs' (fun j hj => h1c _ (by omega)) (fun j hj => by rw [Nat.add_assoc]; exact hc _ (by omega)) fun j p hp => ?_
          rw [hfd] at hp
          split at hp
          · exact hrr _ p hp
          · cases hp
end
end Go.V
/- The value logic, part 12: contracts of functions, calls. -/
set_option linter.unusedVariables false
set_option linter.unusedSimpArgs false
namespace Go.V
open Go.RowKit

/-- The function can be entered. -/
def Enters (P : Program) (k : FuncId) : Prop := ∃ fn c, P.funcs[k]? = some fn ∧ (fn.name == "runtime.NumGoroutine") = false ∧ fn.body = some c

/-- CONTRACT OF A FUNCTION, BY VALUE: whatever stands for the arguments, the call returns what stands for r, and writes nothing that was there. -/
def Good (P : Program) (k : FuncId) (args : List PV) (r : PV) : Prop := Enters P k ∧
  ∀ (w : World) (B : Nat → Prop) (vs : List Value), (∀ b, B b → b < w.heap.size) → vs.length = args.length → (∀ (j : Nat) (p : PV) (v : Value), args[j]? = some p → vs[j]? = some v → Rep w B noMu p v) →
    Calls P k vs.toArray w fun e w' => ∃ v, e = .returned v ∧ Below w.heap.size w w' ∧ Rep w' (fun b => b < w'.heap.size ∧ (B b ∨ w.heap.size ≤ b)) noMu r v

/-- CONTRACT OF A FUNCTION THAT GIVES BACK ONE NEW OBJECT OF ITS OWN: whatever stands for the arguments, the call returns what stands for r; the object's block is new and nobody else's. -/
def GoodF (P : Program) (k : FuncId) (args : List PV) (r : Nat → PV) (T : TypeId) (sz : Nat) (es : List PV) : Prop := Enters P k ∧
  ∀ (w : World) (B : Nat → Prop) (vs : List Value), (∀ b, B b → b < w.heap.size) → vs.length = args.length → (∀ (j : Nat) (p : PV) (v : Value), args[j]? = some p → vs[j]? = some v → Rep w B noMu p v) →
    Calls P k vs.toArray w fun e w' => ∃ v b base, e = .returned v ∧ Below w.heap.size w w' ∧ w.heap.size ≤ b ∧ b < w'.heap.size ∧
      (∀ (μ : Mu) (B' : Nat → Prop), (∀ x, x < w'.heap.size → x ≠ b → (B x ∨ w.heap.size ≤ x) → B' x) → ObjRep w' B' μ b base (.row T sz es)) ∧
      (∀ (μ : Mu) (B' : Nat → Prop) (id : Nat), (∀ x, x < w'.heap.size → x ≠ b → (B x ∨ w.heap.size ≤ x) → B' x) → μ id = some (b, base) → Rep w' B' μ (r id) v)

/-- p's values are values of q. -/
def Wk (p q : PV) : Prop := ∀ w B v, Rep w B noMu p v → Rep w B noMu q v
theorem Wk.refl (p : PV) : Wk p p := fun _ _ _ h => h
theorem Wk.nil (sz : Nat) : Wk .nilS (.slc sz []) := fun _ _ v h => by cases h; exact .slc0 _ _ _ _
theorem Wk.tup {ps qs : List PV} (hl : ps.length = qs.length) (h : ∀ (j : Nat) (p q : PV), ps[j]? = some p → qs[j]? = some q → Wk p q) : Wk (.tup ps) (.tup qs) := fun w B v hr => by
  cases hr with
  | tup _ _ vs hl' h' =>
    refine .tup _ _ _ (by omega) fun j q v hq hv => ?_
    have hlt : j < ps.length := by have := (List.getElem?_eq_some_iff.1 hq).1; omega
    exact h j _ q (List.getElem?_eq_getElem hlt) hq w B v (h' j _ v (List.getElem?_eq_getElem hlt) hv)
theorem Wk.agg {ps qs : List PV} (hl : ps.length = qs.length) (h : ∀ (j : Nat) (p q : PV), ps[j]? = some p → qs[j]? = some q → Wk p q) : Wk (.agg ps) (.agg qs) := fun w B v hr => by
  cases hr with
  | agg _ _ vs hl' h1 h' =>
    refine .agg _ _ _ (by omega) h1 fun j q v hq hv => ?_
    have hlt : j < ps.length := by have := (List.getElem?_eq_some_iff.1 hq).1; omega
    exact h j _ q (List.getElem?_eq_getElem hlt) hq w B v (h' j _ v (List.getElem?_eq_getElem hlt) hv)

theorem Good.weaken {P : Program} {k : FuncId} {args : List PV} {r r' : PV} (h : Good P k args r) (hw : Wk r r') : Good P k args r' :=
  ⟨h.1, fun w B vs hB hl hr => (h.2 w B vs hB hl hr).mono fun e w' ⟨v, he, hb, hrep⟩ => ⟨v, he, hb, hw _ _ _ hrep⟩⟩

theorem Good.pre {P : Program} {k : FuncId} {args args' : List PV} {r : PV} (h : Good P k args r) (hl : args'.length = args.length) (hw : ∀ (j : Nat) (p q : PV), args'[j]? = some p → args[j]? = some q → Wk p q) : Good P k args' r :=
  ⟨h.1, fun w B vs hB hl' hr => h.2 w B vs hB (by omega) fun j q v hq hv => by
    have hlt : j < args'.length := by have := (List.getElem?_eq_some_iff.1 hq).1; omega
    exact hw j _ q (List.getElem?_eq_getElem hlt) hq w B v (hr j _ v (List.getElem?_eq_getElem hlt) hv)⟩

section
variable {P : Program} {tt : TT} {w0 w : World} {K : KA} {B0 : Nat → Prop} {g : Store} {μ : Mu}

/-- Nothing that was there has turned. -/
theorem Sim.below (h : Sim w0 K B0 g μ w) {w' : World} (hb : Below w.heap.size w w') : Sim w0 K B0 g μ w' ∧ Goes w0 B0 g μ w g μ w' := by
  have hold : ∀ b, b < w.heap.size → w'.heap[b]? = w.heap[b]? := fun b hlt => hb.block b hlt
  have hstab : ∀ b, Stab w0 B0 g μ w b → Stab w0 B0 g μ w' b := fun b ⟨h1, h2, h3⟩ => ⟨h1, by have := hb.size; omega, h3⟩
  have hk : ∀ b, CellsKept w w' b := fun b cs T hcs => ⟨cs, by rw [hold b (Array.getElem?_eq_some_iff.1 hcs).1]; exact hcs, rfl⟩
  have hG : Goes w0 B0 g μ w g μ w' := fun p v hp => hp.step hstab (fun b h => hold b h.2.1) (fun id b base hm => ⟨hm, hk b⟩)
  refine ⟨⟨h.inj, h.fresh, fun id b base hl hm => ?_, fun id b base hl hm => ?_, h.b0, hb.os.trans h.os, hb.tape.trans h.tape, hb.output.trans h.output, Nat.le_trans h.size hb.size, fun b hlt hK => ?_, fun b => (h.sized b).trans (hk b), h.anch, fun D hD => by rw [hold D (Array.getElem?_eq_some_iff.1 (h.marks D hD)).1]; exact h.marks D hD⟩, hG⟩
  · obtain ⟨h1, h2⟩ := h.blk id b base hl hm
    exact ⟨by have := hb.size; omega, h2⟩
  · exact (h.obj id b base hl hm).step (hold b (h.blk id b base hl hm).1) (fun p v => hG p v)
  · rw [hold b (by have := h.size; omega)]; exact h.kept b hlt hK

end

theorem Sim.adopt' {w0 : World} {K : KA} {B0 : Nat → Prop} {g : Store} {μ : Mu} {w : World} (h : Sim w0 K B0 g μ w) {fid : Nat} (hf : Free g fid) {w1 : World} (hb : Below w.heap.size w w1) {b1 base1 : Nat} (hb1 : w.heap.size ≤ b1) (hb2 : b1 < w1.heap.size) (c : SC) (hc : c.live = true)
    (ho : ∀ μ' : Mu, μ' fid = some (b1, base1) → (∀ id, id ≠ fid → μ' id = μ id) → ObjRep w1 (Stab w0 B0 (upd g fid c) μ' w1) μ' b1 base1 c) :
    ∃ μ' : Mu, μ' fid = some (b1, base1) ∧ (∀ id, id ≠ fid → μ' id = μ id) ∧ Sim w0 K B0 (upd g fid c) μ' w1 ∧ Goes w0 B0 g μ w (upd g fid c) μ' w1 := by
  have hmf : μ fid = none := (h.fresh fid).1 hf.1
  let μ' : Mu := fun j => if j = fid then some (b1, base1) else μ j
  have hμf : μ' fid = some (b1, base1) := by simp [μ']
  have hμo : ∀ id, id ≠ fid → μ' id = μ id := fun id hne => by simp [μ', hne]
  have hgo : ∀ id, id ≠ fid → upd g fid c id = g id := fun id hne => by simp [upd, hne]
  have hgf : upd g fid c fid = c := by simp [upd]
  have hold : ∀ b, b < w.heap.size → w1.heap[b]? = w.heap[b]? := fun b hlt => hb.block b hlt
  have hstab : ∀ b, Stab w0 B0 g μ w b → Stab w0 B0 (upd g fid c) μ' w1 b := by
    rintro b ⟨h1, h2, h3⟩
    refine ⟨h1, by have := hb.size; omega, fun ⟨id, base, hl, hm⟩ => ?_⟩
    by_cases hne : id = fid
    · subst hne
      rw [hμf] at hm
      have := (Prod.mk.injEq .. ▸ Option.some.inj hm : _ ∧ _).1
      omega
    · exact h3 ⟨id, base, by rw [hgo id hne] at hl; exact hl, by rw [hμo id hne] at hm; exact hm⟩
  have hg : Goes w0 B0 g μ w (upd g fid c) μ' w1 := fun p v hp =>
    hp.step hstab (fun b hb => hold b hb.2.1) (fun id b base hm => by
      have hne : id ≠ fid := fun e => by rw [e, hmf] at hm; cases hm
      refine ⟨by rw [hμo id hne]; exact hm, fun cs T hcs => ⟨cs, ?_, rfl⟩⟩
      rw [hold b (Array.getElem?_eq_some_iff.1 hcs).1]
      exact hcs)
  refine ⟨μ', hμf, hμo, ⟨?_, ?_, ?_, ?_, h.b0, hb.os.trans h.os, hb.tape.trans h.tape, hb.output.trans h.output, by have := h.size; have := hb.size; omega, ?_, ?_, ?_, fun D hD => by rw [hold D (Array.getElem?_eq_some_iff.1 (h.marks D hD)).1]; exact h.marks D hD⟩, hg⟩
  · intro id id' b base base' hl hl' hm hm'
    by_cases e : id = fid <;> by_cases e' : id' = fid
    · rw [e, e']
    · subst e
      rw [hμf] at hm; rw [hμo id' e'] at hm'; rw [hgo id' e'] at hl'
      have := (h.blk id' b base' hl' hm').1
      have := (Prod.mk.injEq .. ▸ Option.some.inj hm : _ ∧ _).1
      omega
    · subst e'
      rw [hμf] at hm'; rw [hμo id e] at hm; rw [hgo id e] at hl
      have := (h.blk id b base hl hm).1
      have := (Prod.mk.injEq .. ▸ Option.some.inj hm' : _ ∧ _).1
      omega
    · rw [hμo id e] at hm; rw [hμo id' e'] at hm'; rw [hgo id e] at hl; rw [hgo id' e'] at hl'
      exact h.inj id id' b base base' hl hl' hm hm'
  · intro id
    by_cases e : id = fid
    · subst e
      rw [hgf, hμf]
      exact ⟨fun x => absurd x (live_row hc), fun x => (by cases x)⟩
    · rw [hgo id e, hμo id e]; exact h.fresh id
  · intro id b base hl hm
    by_cases e : id = fid
    · subst e
      rw [hμf] at hm
      obtain ⟨rfl, rfl⟩ := (Prod.mk.injEq .. ▸ Option.some.inj hm : _ ∧ _)
      exact ⟨hb2, fun hlt => by have := h.size; omega⟩
    · rw [hμo id e] at hm; rw [hgo id e] at hl
      obtain ⟨h1, h2⟩ := h.blk id b base hl hm
      exact ⟨by have := hb.size; omega, h2⟩
  · intro id b base hl hm
    by_cases e : id = fid
    · subst e
      rw [hμf] at hm
      obtain ⟨rfl, rfl⟩ := (Prod.mk.injEq .. ▸ Option.some.inj hm : _ ∧ _)
      rw [hgf]
      exact ho μ' hμf hμo
    · rw [hμo id e] at hm; rw [hgo id e] at hl ⊢
      exact (h.obj id b base hl hm).step (hold b (h.blk id b base hl hm).1) (fun p v => hg p v)
  · intro b hb hk
    rw [hold b (by have := h.size; omega)]
    exact h.kept b hb hk
  · intro b cs T hcs
    obtain ⟨cs', h1, h2⟩ := h.sized b cs T hcs
    exact ⟨cs', by rw [hold b (Array.getElem?_eq_some_iff.1 h1).1]; exact h1, h2⟩
  · intro id hlt hl
    have hne : id ≠ fid := fun e => by have := hf.2; omega
    rw [hμo id hne]; rw [hgo id hne] at hl; exact h.anch id hlt hl

section
variable {P : Program} {tt : TT} {w0 w : World} {K : KA} {B0 : Nat → Prop} {g : Store} {μ : Mu}
/-- All blocks. -/
def Full (w : World) (b : Nat) : Prop := b < w.heap.size

theorem Rep.full {p : PV} {v : Value} {B B' : Nat → Prop} {μ : Mu} (h : Rep w B μ p v) (hB : ∀ b, B b → B' b) (hp : p.refs = []) : Rep w B' noMu p v := by
  induction h with
  | undef => exact .undef _ _
  | bool => exact .bool _ _
  | int => exact .int _ _ _
  | str => exact .str _ _
  | agg μ cs vs hl h1 h ih =>
    refine .agg _ _ _ hl h1 fun j p v hq hv => ih j p v hq hv ?_
    have : ∀ (l : List PV) (j : Nat) (p : PV), PV.refsL l = [] → l[j]? = some p → p.refs = [] := by
      intro l
      induction l with
      | nil => intro j p _ h; simp at h
      | cons a l ih => intro j p h1 h2; simp [PV.refsL] at h1; cases j with
        | zero => simp at h2; subst h2; exact h1.1
        | succ j => exact ih j p h1.2 (by simpa using h2)
    exact this cs j p (by simpa [PV.refs] using hp) hq
  | tup μ cs vs hl h ih =>
    refine .tup _ _ _ hl fun j p v hq hv => ih j p v hq hv ?_
    have : ∀ (l : List PV) (j : Nat) (p : PV), PV.refsL l = [] → l[j]? = some p → p.refs = [] := by
      intro l
      induction l with
      | nil => intro j p _ h; simp at h
      | cons a l ih => intro j p h1 h2; simp [PV.refsL] at h1; cases j with
        | zero => simp at h2; subst h2; exact h1.1
        | succ j => exact ih j p h1.2 (by simpa using h2)
    exact this cs j p (by simpa [PV.refs] using hp) hq
  | nilS => exact .nilS _
  | slc0 => exact .slc0 _ _ _ _
  | slc μ sz es b off c hn hb vs hs h1 hc hr ih => exact .slc _ _ _ _ _ _ hn (hB _ hb) vs hs h1 hc fun j p hq => (hr j p hq).step hB (fun _ _ => rfl) (fun _ _ _ h => by cases h)
  | sref => simp [PV.refs] at hp
  | ptr => simp [PV.refs] at hp
  | vptr μ cs off b o hb vs h1 hc hr ih => exact .vptr _ _ _ _ _ (hB _ hb) vs h1 hc fun j p hq => (hr j p hq).step hB (fun _ _ => rfl) (fun _ _ _ h => by cases h)
  | nilP => exact .nilP _
  | fn μ f fs cs xs vs hl hl' h h' ih ih' =>
    simp [PV.refs] at hp
    have : ∀ (l : List PV) (j : Nat) (p : PV), PV.refsL l = [] → l[j]? = some p → p.refs = [] := by
      intro l
      induction l with
      | nil => intro j p _ h; simp at h
      | cons a l ih => intro j p h1 h2; simp [PV.refsL] at h1; cases j with
        | zero => simp at h2; subst h2; exact h1.1
        | succ j => exact ih j p h1.2 (by simpa using h2)
    exact .fn _ _ _ _ _ _ hl hl' (fun j p v hq hv => ih j p v hq hv (this fs j p hp.1 hq)) (fun j p v hq hv => ih' j p v hq hv (this cs j p hp.2 hq))
  | nilF => exact .nilF _
  | nilM => exact .nilM _
  | mref => simp [PV.refs] at hp
  | nilI => exact .nilI _
  | ifc μ t p v h ih => exact .ifc _ _ _ _ (ih (by simpa [PV.refs] using hp))
  | cnd1 μ p v h ih => exact .cnd1 _ _ _ (ih (by simpa [PV.refs] using hp))
  | cnd0 => exact .cnd0 _ _

theorem plainL_get : ∀ (l : List PV) (j : Nat) (p : PV), PV.plainL l = true → l[j]? = some p → p.plain = true := by
  intro l
  induction l with
  | nil => intro j p _ h; simp at h
  | cons a l ih => intro j p h1 h2; simp [PV.plainL] at h1; cases j with
    | zero => simp at h2; subst h2; exact h1.1
    | succ j => exact ih j p h1.2 (by simpa using h2)

theorem refsL_get : ∀ (l : List PV) (j : Nat) (p : PV), PV.refsL l = [] → l[j]? = some p → p.refs = [] := by
  intro l
  induction l with
  | nil => intro j p _ h; simp at h
  | cons a l ih => intro j p h1 h2; simp [PV.refsL] at h1; cases j with
    | zero => simp at h2; subst h2; exact h1.1
    | succ j => exact ih j p h1.2 (by simpa using h2)

theorem Rep.plain {w w' : World} {p : PV} {v : Value} {B B' : Nat → Prop} {μ μ' : Mu} (h : Rep w B μ p v) (hp : p.plain = true) : Rep w' B' μ' p v := by
  induction h with
  | bool => exact .bool _ _
  | int => exact .int _ _ _
  | str => exact .str _ _
  | agg μ cs vs hl h1 h ih => exact .agg _ _ _ hl h1 fun j p v hq hv => ih j p v hq hv (plainL_get cs j p (by simpa [PV.plain] using hp) hq)
  | tup μ cs vs hl h ih => exact .tup _ _ _ hl fun j p v hq hv => ih j p v hq hv (plainL_get cs j p (by simpa [PV.plain] using hp) hq)
  | nilS => exact .nilS _
  | nilP => exact .nilP _
  | nilF => exact .nilF _
  | nilM => exact .nilM _
  | nilI => exact .nilI _
  | _ => simp [PV.plain] at hp

theorem refs_of_plain : ∀ (p : PV), p.plain = true → p.refs = []
  | .bool _, _ => rfl
  | .int _ _, _ => rfl
  | .str _, _ => rfl
  | .nilS, _ => rfl
  | .nilP, _ => rfl
  | .nilF, _ => rfl
  | .nilM, _ => rfl
  | .nilI, _ => rfl
  | .agg cs, h => by
    simp only [PV.plain] at h
    simp only [PV.refs]
    exact refsL_of_plainL cs h
  | .tup cs, h => by
    simp only [PV.plain] at h
    simp only [PV.refs]
    exact refsL_of_plainL cs h
  | .undef, h | .slc .., h | .sref .., h | .ptr .., h | .vptr .., h | .fn .., h | .mref _, h | .ifc .., h | .cnd .., h => by simp [PV.plain] at h
where
  refsL_of_plainL : ∀ (l : List PV), PV.plainL l = true → PV.refsL l = []
  | [], _ => rfl
  | p :: l, h => by
    simp only [PV.plainL, Bool.and_eq_true] at h
    simp only [PV.refsL, refs_of_plain p h.1, refsL_of_plainL l h.2, List.append_nil]

end
end Go.V
/- The value logic, part 13: own objects handed on by value. -/
set_option linter.unusedVariables false
set_option linter.unusedSimpArgs false
namespace Go.V
open Go.RowKit

section
variable {P : Program} {tt : TT} {w0 w : World} {K : KA} {B0 : Nat → Prop} {g : Store} {μ : Mu}

theorem snap_notAgg (g : Store) (d : Nat) (p : PV) (h : ∀ cs, p ≠ .agg cs) : ∀ cs, PV.snap g d p ≠ .agg cs := by
  intro cs hc
  cases d <;> cases p <;> simp [PV.snap] at hc h <;> (try (split at hc <;> (try split at hc) <;> simp at hc))

theorem snap_cells_length (g : Store) (d : Nat) (e : PV) : (PV.snap g d e).cells.length = e.cells.length := by
  by_cases h : ∃ cs, e = .agg cs
  · obtain ⟨cs, rfl⟩ := h
    cases d <;> simp [PV.snap, PV.cells]
  · have h1 := snap_notAgg g d e (fun cs hc => h ⟨cs, hc⟩)
    have e1 : ∀ p : PV, (∀ cs, p ≠ .agg cs) → p.cells = [p] := fun p hp => by cases p <;> first | rfl | exact absurd rfl (hp _)
    rw [e1 _ h1, e1 _ (fun cs hc => h ⟨cs, hc⟩)]
    rfl

theorem flat_map_get {sz : Nat} (f : PV → PV) : ∀ (es : List PV), (∀ e ∈ es, e.cells.length = sz) → (∀ e ∈ es, (f e).cells.length = sz) → 0 < sz → ∀ j, (flat (es.map f))[j]? = (es[j / sz]?).bind fun e => (f e).cells[j % sz]? := by
  intro es h1 h2 hsz j
  have h2' : ∀ x ∈ es.map f, x.cells.length = sz := fun x hx => by
    obtain ⟨e, he, rfl⟩ := List.mem_map.1 hx
    exact h2 e he
  have hq := Nat.div_add_mod j sz
  rw [Nat.mul_comm] at hq
  have := flat_at (es := es.map f) (j / sz) (j % sz) h2' (Nat.mod_lt j hsz)
  rw [hq] at this
  rw [this, List.getElem?_map]
  cases es[j / sz]? <;> rfl

/-- Blocks that are not written while nothing of ours is. -/
def SF (w0 : World) (B0 : Nat → Prop) (g : Store) (μ : Mu) (w : World) (b : Nat) : Prop := Stab w0 B0 g μ w b ∨ Own g μ b

theorem snap_rep (hS : Sim w0 K B0 g μ w) : ∀ (d : Nat) (p : PV) (v : Value), Rep w (Stab w0 B0 g μ w) μ p v → Rep w (SF w0 B0 g μ w) noMu (PV.snap g d p) v := by
  intro d
  induction d using Nat.strongRecOn with
  | ind d ih =>
  -- an element's cells
  have hcell : ∀ d', d' < d → ∀ (e : PV) (k : Nat) (c : PV) (u : Value), e.cells[k]? = some c → Rep w (Stab w0 B0 g μ w) μ c u → ∃ c', (PV.snap g d' e).cells[k]? = some c' ∧ Rep w (SF w0 B0 g μ w) noMu c' u := by
    intro d' hd' e k c u hc hu
    by_cases ha : ∃ cs, e = .agg cs
    · obtain ⟨cs, rfl⟩ := ha
      simp only [PV.cells] at hc
      cases d' with
      | zero => exact ⟨.undef, by simp [PV.snap, PV.cells, hc], .undef _ _⟩
      | succ d' => exact ⟨_, by simp [PV.snap, PV.cells, hc], ih d' (by omega) c u hu⟩
    · have hna : ∀ cs, e ≠ .agg cs := fun cs hh => ha ⟨cs, hh⟩
      have e1 : ∀ p : PV, (∀ cs, p ≠ .agg cs) → p.cells = [p] := fun p hp => by cases p <;> first | rfl | exact absurd rfl (hp _)
      rw [e1 e hna] at hc
      rw [e1 _ (snap_notAgg g d' e hna)]
      cases k with
      | zero => simp at hc; subst hc; exact ⟨_, rfl, ih d' hd' e u hu⟩
      | succ k => simp at hc
  have hfull : ∀ b, Stab w0 B0 g μ w b → SF w0 B0 g μ w b := fun b h => .inl h
  intro p v h
  have hp0 : p.refs = [] → Rep w (SF w0 B0 g μ w) noMu p v := fun h0 => h.full hfull h0
  cases d with
  | zero =>
    by_cases ha : ∃ cs, p = .agg cs
    · obtain ⟨cs, rfl⟩ := ha
      cases h with
      | agg _ _ vs hl h1 hh =>
        simp only [PV.snap]
        refine .agg _ _ _ (by simpa using hl) h1 fun j q u hq hu => ?_
        simp at hq
        obtain ⟨_, _, rfl⟩ := hq
        exact .undef _ _
    · have : PV.snap g 0 p = if p.plain then p else .undef := by
        cases p <;> first | rfl | exact absurd ⟨_, rfl⟩ ha | (simp [PV.snap, PV.plain])
      rw [this]
      split
      · rename_i hpl; exact h.plain hpl
      · exact .undef _ _
  | succ d =>
    have ihd := ih d (by omega)
    cases h with
    | undef => exact .undef _ _
    | bool => exact .bool _ _
    | int => exact .int _ _ _
    | str => exact .str _ _
    | agg _ cs vs hl h1 hh =>
      simp only [PV.snap]
      refine .agg _ _ _ (by simpa using hl) h1 fun j q u hq hu => ?_
      simp at hq
      obtain ⟨q', hq', rfl⟩ := hq
      exact ihd q' u (hh j q' u hq' hu)
    | tup _ cs vs hl hh =>
      simp only [PV.snap]
      refine .tup _ _ _ (by simpa using hl) fun j q u hq hu => ?_
      simp at hq
      obtain ⟨q', hq', rfl⟩ := hq
      exact ihd q' u (hh j q' u hq' hu)
    | nilS => exact .nilS _
    | slc0 => exact hp0 rfl
    | slc => exact hp0 rfl
    | vptr => exact hp0 rfl
    | nilP => exact .nilP _
    | fn _ f fs cs xs vs hl hl' hh hh' =>
      simp only [PV.snap]
      refine .fn _ _ _ _ _ _ (by simpa using hl) (by simpa using hl') (fun j q u hq hu => ?_) (fun j q u hq hu => ?_)
      · simp at hq
        obtain ⟨q', hq', rfl⟩ := hq
        exact ihd q' u (hh j q' u hq' hu)
      · simp at hq
        obtain ⟨q', hq', rfl⟩ := hq
        exact ihd q' u (hh' j q' u hq' hu)
    | nilF => exact .nilF _
    | nilM => exact .nilM _
    | mref => exact .undef _ _
    | nilI => exact .nilI _
    | ifc _ t p v h => exact .ifc _ _ _ _ (ihd p v h)
    | cnd1 => exact .undef _ _
    | cnd0 => exact .undef _ _
    | sref _ id sz lo n lim a c b base hm hn hl ha hc =>
      simp only [PV.snap]
      split
      · rename_i T sz' es hg
        split
        · rename_i hcond
          obtain ⟨rfl, hlen⟩ := hcond
          have hO := hS.obj id b base (by rw [hg]; rfl) hm
          rw [hg] at hO
          obtain ⟨cs, cap, c1, c2, c3, c4, c5⟩ := hO
          have hxl : ((es.drop lo).take n).length = n := by simp; omega
          by_cases h0 : n = 0
          · subst h0
            simp only [List.take_zero, List.map_nil]
            exact .slc0 _ _ _ _
          · have hadr := ha (by omega)
            subst hadr
            have hel : ∀ e ∈ (es.drop lo).take n, e.cells.length = sz' := fun e he => c2 e (List.mem_of_mem_drop (List.mem_of_mem_take he))
            have hel' : ∀ e ∈ ((es.drop lo).take n).map (PV.snap g d), e.cells.length = sz' := fun e he => by
              obtain ⟨e', he', rfl⟩ := List.mem_map.1 he
              rw [snap_cells_length]; exact hel e' he'
            have hfl := flat_length hel'
            rw [List.length_map, hxl] at hfl
            have hfl2 := flat_length c2
            have hmul : (lo + n) * sz' ≤ es.length * sz' := Nat.mul_le_mul_right _ hlen
            rw [Nat.add_mul] at hmul
            have key : ∀ j, j < n * sz' → ∃ p u, (flat es)[lo * sz' + j]? = some p ∧ cs[base + lo * sz' + j]? = some u ∧ u.oneCell' = true ∧ Rep w (Stab w0 B0 g μ w) μ p u := by
              intro j hj
              have hlt : lo * sz' + j < (flat es).length := by omega
              obtain ⟨v, a1, a2, a3⟩ := c5 (lo * sz' + j) _ (List.getElem?_eq_getElem hlt)
              exact ⟨_, v, List.getElem?_eq_getElem hlt, by rw [← a1]; congr 1; omega, a2, a3⟩
            let vs : Nat → Value := fun j => cs.getD (base + lo * sz' + j) Go.undef
            have hvs : ∀ j u, cs[base + lo * sz' + j]? = some u → vs j = u := fun j u hu => by simp [vs, Array.getD_eq_getD_getElem?, hu]
            have hnl : (((es.drop lo).take n).map (PV.snap g d)).length = n := by rw [List.length_map, hxl]
            have hres := Rep.slc (w := w) (B := SF w0 B0 g μ w) noMu sz' (((es.drop lo).take n).map (PV.snap g d)) b (base + lo * sz') c (by omega) (.inr ⟨id, base, by rw [hg]; rfl, hm⟩) vs hel'
              (fun j hj => by
                obtain ⟨p, u, _, a2, a3, _⟩ := key j (by omega)
                rw [hvs j u a2]; exact a3)
              (fun j hj => by
                obtain ⟨p, u, _, a2, _, _⟩ := key j (by omega)
                rw [cell_of_row w b _ cs T (0, 0) c1, hvs j u a2]; exact a2)
              (fun j q hq => by
                have hj : j < n * sz' := by
                  have := (List.getElem?_eq_some_iff.1 hq).1
                  omega
                have hszp : 0 < sz' := by
                  rcases Nat.eq_zero_or_pos sz' with h | h
                  · rw [h, Nat.mul_zero] at hj; omega
                  · exact h
                obtain ⟨p, u, a1, a2, _, a4⟩ := key j hj
                rw [hvs j u a2]
                rw [flat_map_get (PV.snap g d) _ hel (fun e he => by rw [snap_cells_length]; exact hel e he) hszp] at hq
                have hfd := flat_drop_take c2 lo n hlen j
                rw [if_pos hj, a1] at hfd
                have hqq := Nat.div_add_mod j sz'
                rw [Nat.mul_comm] at hqq
                have hfa := flat_at (es := (es.drop lo).take n) (j / sz') (j % sz') hel (Nat.mod_lt j hszp)
                rw [hqq, hfd] at hfa
                cases he : ((es.drop lo).take n)[j / sz']? with
                | none => rw [he] at hq; simp at hq
                | some e =>
                  rw [he] at hq hfa
                  simp only [Option.bind_some] at hq hfa
                  obtain ⟨c', hc', hrep⟩ := hcell d (by omega) e (j % sz') p u hfa.symm a4
                  rw [hc'] at hq
                  rw [← Option.some.inj hq]; exact hrep)
            rw [hnl] at hres
            exact hres
        · exact .undef _ _
      · exact .undef _ _
    | ptr _ id sz i off b base hm =>
      simp only [PV.snap]
      split
      · rename_i T sz' es hg
        split
        · rename_i hcond
          obtain ⟨rfl, hi⟩ := hcond
          have hO := hS.obj id b base (by rw [hg]; rfl) hm
          rw [hg] at hO
          have hlen : (es.getD i .undef).cells.length = sz' := by
            obtain ⟨cs, cap, _, c2, _⟩ := hO
            exact c2 _ (by simp [List.getD_eq_getElem?_getD, List.getElem?_eq_getElem hi])
          let vs : Nat → Value := fun j => (w.cell? ⟨b, base + i * sz' + j, none⟩).getD Go.undef
          have hvs : ∀ j, j < sz' → ∃ p, (es.getD i .undef).cells[j]? = some p ∧ w.cell? ⟨b, base + i * sz' + j, none⟩ = some (vs j) ∧ (vs j).oneCell' = true ∧ Rep w (Stab w0 B0 g μ w) μ p (vs j) := fun j hj => by
            obtain ⟨p, u, h1, h2, h3, h4⟩ := row_at hO hi hj
            have : vs j = u := by simp [vs, h2]
            rw [this]
            exact ⟨p, h1, h2, h3, h4⟩
          refine .vptr _ _ _ _ _ (.inr ⟨id, base, by rw [hg]; rfl, hm⟩) vs (fun j hj => ?_) (fun j hj => ?_) (fun j q hq => ?_)
          · obtain ⟨p, _, _, h3, _⟩ := hvs j (by rw [List.length_map, hlen] at hj; exact hj); exact h3
          · obtain ⟨p, _, h2, _⟩ := hvs j (by rw [List.length_map, hlen] at hj; exact hj); exact h2
          · have hj : j < sz' := by
              have := (List.getElem?_eq_some_iff.1 hq).1
              rw [List.length_map, hlen] at this; exact this
            obtain ⟨p, h1, _, _, h4⟩ := hvs j hj
            rw [List.getElem?_map, h1, Option.map_some] at hq
            rw [← Option.some.inj hq]
            exact ihd p _ h4
        · exact .undef _ _
      · exact .undef _ _

/-- A call of a function of Go. -/
inductive VCall (P : Program) (g : Store) (fid : Nat) : Op → List PV → PV → List (Nat × SC) → Prop
  | byValue (c x k fs cap args r) (hc : c.callee = .value x) (hrefs : PV.refsL (fs ++ args ++ cap) = []) (hg : Good P k (fs ++ args ++ cap) r) : VCall P g fid (.call c) (.fn k fs cap :: args) r []
  | lent (c x k fs cap args r) (hc : c.callee = .value x) (hp : r.plain = true) (hg : Good P k ((fs ++ args ++ cap).map (PV.snap g 6)) r) : VCall P g fid (.call c) (.fn k fs cap :: args) r []
  | made (c x k fs cap args r T sz es) (hc : c.callee = .value x) (hrefs : PV.refsL (.fn k fs cap :: args) = []) (hf : Free g fid) (hg : GoodF P k (fs ++ args ++ cap) r T sz es) :
      VCall P g fid (.call c) (.fn k fs cap :: args) (r fid) [(fid, .row T sz es)]

/-- What a call does with what follows. -/
theorem exec_call {o : Oper} {ρ : Operand → Value} {c : Call} {x : Operand} {k : FuncId} {xs cs : Array Value} (ho : o.op = .call c) (hc : c.callee = .value x) (hx : ρ x = .func (.func k) xs cs) (he : Enters P k) :
    (execOp ρ o).run P w = .ok (.enter k (xs ++ c.args.map ρ ++ cs)) w := by
  obtain ⟨fn, cd, h1, h2, h3⟩ := he
  unfold execOp
  simp only [ho, resolve, hc, hx, Deferred.ofValue, Sem.run_bind, Sem.run_pure, Result.andThen_ok, invoke, callFunc, run_program, h1, h2, h3]
  simp

theorem VCall.sound (hS : Sim w0 K B0 g μ w) {v : PV} {vals : List PV} {ρ : Operand → Value} {o : Oper} (hr : Reps w (Stab w0 B0 g μ w) μ ρ vals o.op.operands.toList) {fid : Nat} {u : List (Nat × SC)} (h : VCall P g fid o.op vals v u) :
    ∃ k args, (execOp ρ o).run P w = .ok (.enter k args) w ∧ Calls P k args w fun e w' => ∃ val μ', e = .returned val ∧ Sim w0 K B0 (upds g u) μ' w' ∧ Goes w0 B0 g μ w (upds g u) μ' w' ∧ Rep w' (Stab w0 B0 (upds g u) μ' w') μ' v val := by
  generalize hop : o.op = op at h
  rw [hop] at hr
  have hget : ∀ {c : Call} {x : Operand} {k : FuncId} {fs cap args : List PV}, op = .call c → c.callee = .value x → vals = .fn k fs cap :: args →
      ∃ xs cs : Array Value, ρ x = .func (.func k) xs cs ∧ (fs ++ args ++ cap).length = (xs ++ c.args.map ρ ++ cs).size ∧
        ∀ (j : Nat) (p : PV) (u : Value), (fs ++ args ++ cap)[j]? = some p → (xs ++ c.args.map ρ ++ cs).toList[j]? = some u → Rep w (Stab w0 B0 g μ w) μ p u := by
    intro c x k fs cap args h1 h2 h3
    subst h1; subst h3
    obtain ⟨hl, hr⟩ := hr
    have h0 := hr 0 (.fn k fs cap) x rfl (by simp [Op.operands, Call.operands, h2])
    generalize hvx : ρ x = vx at h0
    cases h0 with
    | fn _ _ _ _ xs cs hl1 hl2 q1 q2 =>
    have hla : args.length = c.args.size := by simp [Op.operands, Call.operands, h2] at hl; omega
    refine ⟨xs, cs, rfl, by simp; omega, fun j p u hp hu => ?_⟩
    simp only [Array.toList_append] at hu
    by_cases j1 : j < fs.length
    · rw [List.append_assoc, List.getElem?_append_left j1] at hp
      rw [List.append_assoc, List.getElem?_append_left (by simp; omega)] at hu
      exact q1 j p u hp (by simpa using hu)
    · by_cases j2 : j < fs.length + args.length
      · rw [List.append_assoc, List.getElem?_append_right (by omega), List.getElem?_append_left (by omega)] at hp
        rw [List.append_assoc, List.getElem?_append_right (by simp; omega), List.getElem?_append_left (by simp; omega)] at hu
        have e1 : j - xs.toList.length = j - fs.length := by simp; omega
        rw [e1] at hu
        simp at hu
        obtain ⟨y, hy, rfl⟩ := hu
        exact hr (j - fs.length + 1) p y (by simpa using hp) (by simp [Op.operands, Call.operands, h2, hy])
      · rw [List.append_assoc, List.getElem?_append_right (by omega), List.getElem?_append_right (by omega)] at hp
        rw [List.append_assoc, List.getElem?_append_right (by simp; omega), List.getElem?_append_right (by simp; omega)] at hu
        refine q2 _ p u hp ?_
        rw [← hu]
        simp
        congr 1; omega
  have hlift : ∀ w', Below w.heap.size w w' → ∀ b, (b < w'.heap.size ∧ (Stab w0 B0 g μ w b ∨ w.heap.size ≤ b)) → Sim w0 K B0 g μ w' → Stab w0 B0 g μ w' b := by
    rintro w' hb b ⟨h1, h2⟩ _
    rcases h2 with ⟨a1, a2, a3⟩ | h2
    · exact ⟨a1, h1, a3⟩
    · refine ⟨.inr (by have := hS.size; omega), h1, fun ⟨id, base, hl, hm⟩ => ?_⟩
      have := (hS.blk id b base hl hm).1
      omega
  cases h with
  | byValue c x k fs cap args r hc hrefs hg =>
    obtain ⟨xs, cs, hx, hlen, hall⟩ := hget rfl hc rfl
    refine ⟨k, _, exec_call hop hc hx hg.1, ?_⟩
    have := hg.2 w (Stab w0 B0 g μ w) (xs ++ c.args.map ρ ++ cs).toList (fun b hb => hb.2.1) (by rw [hlen]; simp) (fun j p u hp hu => (hall j p u hp hu).full (fun _ h => h) (refsL_get _ j p hrefs hp))
    rw [Array.toArray_toList] at this
    exact this.mono fun e w' ⟨val, he, hb, hrep⟩ => by
      obtain ⟨hS', hG⟩ := hS.below hb
      exact ⟨val, μ, he, hS', hG, hrep.step (fun b h => hlift w' hb b h hS') (fun _ _ => rfl) (fun _ _ _ h => by cases h)⟩
  | lent c x k fs cap args r hc hp hg =>
    obtain ⟨xs, cs, hx, hlen, hall⟩ := hget rfl hc rfl
    refine ⟨k, _, exec_call hop hc hx hg.1, ?_⟩
    have := hg.2 w (SF w0 B0 g μ w) (xs ++ c.args.map ρ ++ cs).toList (fun b hb => hb.elim (fun h => h.2.1) (fun ⟨id, base, hl, hm⟩ => (hS.blk id b base hl hm).1)) (by rw [List.length_map, hlen]; simp) (fun j p u hp hu => by
      rw [List.getElem?_map] at hp
      cases hq : (fs ++ args ++ cap)[j]? with
      | none => rw [hq] at hp; simp at hp
      | some q =>
        rw [hq] at hp
        simp only [Option.map_some, Option.some.injEq] at hp
        subst hp
        exact snap_rep hS 6 q u (hall j q u hq hu))
    rw [Array.toArray_toList] at this
    exact this.mono fun e w' ⟨val, he, hb, hrep⟩ => by
      obtain ⟨hS', hG⟩ := hS.below hb
      exact ⟨val, μ, he, hS', hG, hrep.plain hp⟩
  | made c x k fs cap args r T sz es hc hrefs hf hg =>
    obtain ⟨xs, cs, hx, hlen, hall⟩ := hget rfl hc rfl
    refine ⟨k, _, exec_call hop hc hx hg.1, ?_⟩
    have hr0 : PV.refsL (fs ++ args ++ cap) = [] := by
      simp only [PV.refsL, PV.refs, List.append_eq_nil_iff] at hrefs
      have happ : ∀ a b : List PV, PV.refsL a = [] → PV.refsL b = [] → PV.refsL (a ++ b) = [] := by
        intro a
        induction a with
        | nil => intro b _ h; exact h
        | cons y a ih =>
          intro b h1 h2
          simp only [PV.refsL, List.append_eq_nil_iff] at h1
          rw [List.cons_append, PV.refsL, h1.1, ih b h1.2 h2]; rfl
      exact happ _ _ (happ _ _ hrefs.1.1 hrefs.2) hrefs.1.2
    have := hg.2 w (Stab w0 B0 g μ w) (xs ++ c.args.map ρ ++ cs).toList (fun b hb => hb.2.1) (by rw [hlen]; simp) (fun j p u hp hu => (hall j p u hp hu).full (fun _ h => h) (refsL_get _ j p hr0 hp))
    rw [Array.toArray_toList] at this
    refine this.mono fun e w' ⟨val, b, base, he, hb, hb1, hb2, hobj, hrep⟩ => ?_
    have hst : ∀ μ' : Mu, (∀ id, id ≠ fid → μ' id = μ id) → μ' fid = some (b, base) → ∀ x, x < w'.heap.size → x ≠ b → (Stab w0 B0 g μ w x ∨ w.heap.size ≤ x) → Stab w0 B0 (upd g fid (.row T sz es)) μ' w' x := fun μ' hμ hμf x hx hxb hor => by
      refine ⟨?_, hx, fun ⟨id, bs, hl, hm⟩ => ?_⟩
      · rcases hor with h | h
        · exact h.1
        · exact .inr (by have := hS.size; omega)
      · by_cases e : id = fid
        · subst e
          rw [hμf] at hm
          have := (Prod.mk.injEq .. ▸ Option.some.inj hm : _ ∧ _).1
          exact hxb this.symm
        · rw [hμ id e] at hm
          simp only [upd, if_neg e] at hl
          rcases hor with h | h
          · exact h.2.2 ⟨id, bs, hl, hm⟩
          · have := (hS.blk id x bs hl hm).1; omega
    obtain ⟨μ', h1, h2, h3, h4⟩ : ∃ μ', μ' fid = some (b, base) ∧ (∀ id, id ≠ fid → μ' id = μ id) ∧ Sim w0 K B0 (upd g fid (.row T sz es)) μ' w' ∧ Goes w0 B0 g μ w (upd g fid (.row T sz es)) μ' w' := hS.adopt' hf hb hb1 hb2 (.row T sz es) rfl fun μ' hμ hμo => hobj μ' _ (hst μ' hμo hμ)
    exact ⟨val, μ', he, h3, h4, hrep μ' _ fid (hst μ' h2 h1) h1⟩
end
end Go.V
/- The value logic, part 14: regions; what an operation touches; any order. -/
set_option linter.unusedVariables false
set_option linter.unusedSimpArgs false
namespace Go.V
open Go.RowKit

/-- What an operation touches of the store. -/
structure FP where
  all : Bool
  R : List Nat
  W : List Nat

def fpOf (o : Op) (vals : List PV) (fid : Nat) : FP :=
  match o with
  | .alloc _ | .box _ _ | .buildSlice _ _ _ | .makeSlice _ _ _ | .makeMap _ _ => ⟨false, [fid], [fid]⟩
  | .lookup _ _ _ _ => ⟨false, (vals.headD .undef).refs, []⟩
  | .mapUpdate _ _ _ _ | .insert _ _ _ _ => ⟨false, (vals.headD .undef).refs, (vals.headD .undef).refs⟩
  | .load _ _ => ⟨false, PV.refsL vals, []⟩
  | .store _ _ _ => ⟨false, (vals.headD .undef).refs, (vals.headD .undef).refs⟩
  | .call c =>
    match c.callee with
    | .builtin .append => ⟨false, fid :: PV.refsL vals, fid :: (vals.headD .undef).refs⟩
    | .builtin _ => ⟨false, [], []⟩
    | _ => if (PV.refsL vals).isEmpty then ⟨false, [fid], [fid]⟩ else ⟨true, [], []⟩
  | _ => ⟨false, [], []⟩

def FP.apart (x y : FP) : Bool :=
  (x.W.all fun a => !y.all && !y.R.contains a && !y.W.contains a) && (y.W.all fun a => !x.all && !x.R.contains a)

/-- Operands with what is known of them. -/
inductive Un : PV → PV → Prop
  | same (p) : Un p p
  | cnd (p) : Un (.cnd true p) p

inductive Uns : List PV → List PV → Prop
  | nil : Uns [] []
  | cons {p q ps qs} (h : Un p q) (hs : Uns ps qs) : Uns (p :: ps) (q :: qs)

/-- An operation, a call or another. -/
def VExec (P : Program) (tt : TT) (g : Store) (fid : Nat) (o : Op) (vals : List PV) (v : PV) (u : List (Nat × SC)) : Prop :=
  VOp tt g fid o vals v u ∨ VCall P g fid o vals v u

theorem Un.refs {p q : PV} (h : Un p q) : q.refs = p.refs := by cases h <;> simp [PV.refs]
theorem Uns.refs : ∀ {ps qs : List PV}, Uns ps qs → PV.refsL qs = PV.refsL ps
  | _, _, .nil => rfl
  | _, _, .cons h hs => by simp [PV.refsL, h.refs, hs.refs]
theorem Uns.head {ps qs : List PV} (h : Uns ps qs) : (qs.headD .undef).refs = (ps.headD .undef).refs := by
  cases h with
  | nil => rfl
  | cons h hs => simpa using h.refs

theorem Uns.fp {o : Op} {fid : Nat} {ps qs : List PV} (h : Uns ps qs) : fpOf o qs fid = fpOf o ps fid := by
  unfold fpOf
  split <;> (try rfl) <;> simp only [h.refs, h.head]

theorem contents_local {g g' : Store} {q : PV} (h : ∀ id ∈ q.refs, g' id = g id) : contents g' q = contents g q := by
  cases q <;> simp only [contents] <;> first | rfl | (rw [h _ (by simp [PV.refs])])

theorem refsL_mem {p : PV} : ∀ {l : List PV}, p ∈ l → ∀ id ∈ p.refs, id ∈ PV.refsL l
  | a :: l, h, id, hid => by
    simp only [PV.refsL, List.mem_append]
    rcases List.mem_cons.1 h with rfl | h
    · exact .inl hid
    · exact .inr (refsL_mem h id hid)

theorem fp_append {c : Call} {vals : List PV} {fid : Nat} (hc : c.callee = .builtin .append) : fpOf (.call c) vals fid = ⟨false, fid :: PV.refsL vals, fid :: (vals.headD .undef).refs⟩ := by
  simp only [fpOf, hc]

section
variable {P : Program} {tt : TT}

theorem VOp.local_ {g g' : Store} {fid : Nat} {o : Op} {vals : List PV} {v : PV} {u : List (Nat × SC)} (h : VOp tt g fid o vals v u) (hg : ∀ id ∈ (fpOf o vals fid).R, g' id = g id) : VOp tt g' fid o vals v u := by
  cases h
  case alloc T i ht hf => exact .alloc _ _ ht ⟨by rw [hg fid (by simp [fpOf])]; exact hf.1, hf.2⟩
  case box T x p i ht hf hl hs => exact .box _ _ _ _ ht ⟨by rw [hg fid (by simp [fpOf])]; exact hf.1, hf.2⟩ hl hs
  case buildSlice T len parts i e ie es ht hk he hz hm hf hes hl => exact .buildSlice _ _ _ _ _ _ _ _ ht hk he hz hm ⟨by rw [hg fid (by simp [fpOf])]; exact hf.1, hf.2⟩ hes hl
  case makeSlice T l c k n k' m i e ie ht hk he hf hn hm hb hb' => exact .makeSlice _ _ _ _ _ _ _ _ _ _ ht hk he ⟨by rw [hg fid (by simp [fpOf])]; exact hf.1, hf.2⟩ hn hm hb hb'
  case makeMap T ti kt et ht hk hf => exact .makeMap _ _ _ _ ht hk ⟨by rw [hg fid (by simp [fpOf])]; exact hf.1, hf.2⟩
  case lookup T x ix cm id T' es k n ti kt et ki ei ht hk hki hkk hei hh hes => exact .lookup _ _ _ _ _ _ _ _ _ _ _ _ _ _ ht hk hki hkk hei (by rw [hg id (by simp [fpOf, PV.refs])]; exact hh) hes
  case mapUpdate T m kx x id T' es k n p ti kt et ki ht hk hki hkk hh hes => exact .mapUpdate _ _ _ _ _ _ _ _ _ _ _ _ _ _ ht hk hki hkk (by rw [hg id (by simp [fpOf, PV.refs])]; exact hh) hes
  case insert T m kx x id T' es k n p ti kt et ki ht hk hki hkk hh hes => exact .insert _ _ _ _ _ _ _ _ _ _ _ _ _ _ ht hk hki hkk (by rw [hg id (by simp [fpOf, PV.refs])]; exact hh) hes
  case load T a id sz i off ti T' es ht hh hi ho => exact .load _ _ _ _ _ _ _ _ _ ht (by rw [hg id (by simp [fpOf, PV.refsL, PV.refs])]; exact hh) hi ho
  case store T a x id sz i off p ti T' es ht hh hi ho hl hz hs => exact .store _ _ _ _ _ _ _ _ _ _ _ ht (by rw [hg id (by simp [fpOf, PV.refs])]; exact hh) hi ho hl hz hs
  case appendE c a b T id sz lo n lim q sz' i e ie hc ha hT ht hk he hx =>
    rw [fp_append hc] at hg
    exact .appendE _ _ _ _ _ _ _ _ _ _ _ _ _ _ hc ha hT ht hk he (by rw [contents_local fun id hid => hg id (by simp [PV.refsL, hid])]; exact hx)
  case appendN c a b T q sz' xs i e ie hc ha hT ht hk he hx hz hf hm hm' hne =>
    rw [fp_append hc] at hg
    exact .appendN _ _ _ _ _ _ _ _ _ _ hc ha hT ht hk he (by rw [contents_local fun id hid => hg id (by simp [PV.refsL, hid])]; exact hx) hz ⟨by rw [hg fid (by simp)]; exact hf.1, hf.2⟩ hm hm' hne
  case appendRoom c a b T id sz lo n q sz' xs i e ie T0 es hc ha hT ht hk he hx hz hz' hh hr hzp =>
    rw [fp_append hc] at hg
    exact .appendRoom _ _ _ _ _ _ _ _ _ _ _ _ _ _ _ _ hc ha hT ht hk he (by rw [contents_local fun id hid => hg id (by simp [PV.refsL, hid])]; exact hx) hz hz' (by rw [hg id (by simp [PV.refsL, PV.refs])]; exact hh) hr hzp
  case appendGrow c a b T id sz lo n q sz' xs i e ie es hc ha hT ht hk he hx hz hz' hh hn hr hf hne hm hm' =>
    rw [fp_append hc] at hg
    exact .appendGrow _ _ _ _ _ _ _ _ _ _ _ _ _ _ _ hc ha hT ht hk he (by rw [contents_local fun id hid => hg id (by simp [PV.refsL, hid])]; exact hx) hz hz' (by rw [hg id (by simp [PV.refsL, PV.refs])]; exact hh) hn hr
      ⟨by rw [hg fid (by simp)]; exact hf.1, hf.2⟩ hne hm hm'
  case appendLim c a b T id sz lo n q sz' xs i e ie es hc ha hT ht hk he hx hz hz' hh hn hne hf hm hm' =>
    rw [fp_append hc] at hg
    exact .appendLim _ _ _ _ _ _ _ _ _ _ _ _ _ _ _ hc ha hT ht hk he (by rw [contents_local fun id hid => hg id (by simp [PV.refsL, hid])]; exact hx) hz hz' (by rw [hg id (by simp [PV.refsL, PV.refs])]; exact hh) hn hne
      ⟨by rw [hg fid (by simp)]; exact hf.1, hf.2⟩ hm hm'
  case buildA T parts i n e ie cs ht hk he hcs hl => exact .buildA _ _ _ _ _ _ _ _ ht hk he hcs hl
  case sliceR3 T x lo hi mx id sz o n lim l h L H M m hl hh hm h0 h1 h2 i e ie ht hk he hz hM ha => exact .sliceR3 _ _ _ _ _ _ _ _ _ _ _ _ _ _ _ _ _ ha hl hh hm h0 h1 h2 _ _ _ ht hk he hz hM
  all_goals (constructor <;> assumption)

theorem VOp.writes {g : Store} {fid : Nat} {o : Op} {vals : List PV} {v : PV} {u : List (Nat × SC)} (h : VOp tt g fid o vals v u) : ∀ x ∈ u, x.1 ∈ (fpOf o vals fid).W := by
  cases h
  case appendN c a b T q sz' xs i e ie hc ha hT ht hk he hx hz hf hm hm' hne => intro y hy; rw [fp_append hc]; simp at hy; subst hy; simp
  case appendRoom c a b T id sz lo n q sz' xs i e ie T0 es hc ha hT ht hk he hx hz hz' hh hr hzp => intro y hy; rw [fp_append hc]; simp at hy; subst hy; simp [PV.refs]
  case appendGrow c a b T id sz lo n q sz' xs i e ie es hc ha hT ht hk he hx hz hz' hh hn hr hf hne hm hm' => intro y hy; rw [fp_append hc]; simp at hy; rcases hy with rfl | rfl <;> simp [PV.refs]
  case appendLim c a b T id sz lo n q sz' xs i e ie es hc ha hT ht hk he hx hz hz' hh hn hne hf hm hm' => intro y hy; rw [fp_append hc]; simp at hy; subst hy; simp
  all_goals
    intro x hx
    first
      | (cases hx; done)
      | (simp only [List.mem_cons, List.mem_nil_iff, or_false] at hx; subst hx; simp [fpOf, PV.refs]; done)

theorem snap_local (g g' : Store) : ∀ (d : Nat) (p : PV), p.refs = [] → PV.snap g' d p = PV.snap g d p := by
  intro d
  induction d with
  | zero => intro p _; cases p <;> rfl
  | succ d ih =>
    have ihl : ∀ cs : List PV, PV.refsL cs = [] → cs.map (PV.snap g' d) = cs.map (PV.snap g d) := by
      intro cs
      induction cs with
      | nil => intro _; rfl
      | cons c cs ihc => intro h; simp [PV.refsL] at h; simp only [List.map_cons]; rw [ih c h.1, ihc h.2]
    intro p hp
    cases p <;> simp only [PV.snap] <;> simp [PV.refs] at hp
    case agg cs => rw [ihl cs hp]
    case tup cs => rw [ihl cs hp]
    case fn f fs cs => rw [ihl fs hp.1, ihl cs hp.2]
    case ifc t p => rw [ih p hp]

theorem VCall.local_ {g g' : Store} {fid : Nat} {o : Op} {vals : List PV} {v : PV} {u : List (Nat × SC)} (h : VCall P g fid o vals v u) (hR : ∀ id ∈ (fpOf o vals fid).R, g' id = g id) (hg : (fpOf o vals fid).all = true → g' = g) : VCall P g' fid o vals v u := by
  cases h with
  | byValue c x k fs cap args r hc hrefs hgd => exact .byValue _ _ _ _ _ _ _ hc hrefs hgd
  | lent c x k fs cap args r hc hp hgd =>
    by_cases he : (PV.refsL (.fn k fs cap :: args)).isEmpty = true
    · have h0 : PV.refsL (.fn k fs cap :: args) = [] := List.isEmpty_iff.1 he
      have key : ∀ l : List PV, (∀ p ∈ l, p.refs = []) → l.map (PV.snap g' 6) = l.map (PV.snap g 6) := fun l hl => List.map_congr_left fun p hp => snap_local g g' 6 p (hl p hp)
      have hall : ∀ p ∈ fs ++ args ++ cap, p.refs = [] := by
        intro p hp
        simp only [PV.refsL, PV.refs, List.append_eq_nil_iff] at h0
        obtain ⟨⟨h1, h2⟩, h3⟩ := h0
        have hz : ∀ l : List PV, PV.refsL l = [] → p ∈ l → p.refs = [] := fun l hl hm => by
          cases hq : p.refs with
          | nil => rfl
          | cons a b =>
            have := refsL_mem hm a (by rw [hq]; simp)
            rw [hl] at this; cases this
        rcases List.mem_append.1 hp with hp | hp
        · rcases List.mem_append.1 hp with hp | hp
          · exact hz fs h1 hp
          · exact hz args h3 hp
        · exact hz cap h2 hp
      exact .lent _ _ _ _ _ _ _ hc hp (by rw [key _ hall]; exact hgd)
    · have : (fpOf (.call c) (.fn k fs cap :: args) fid).all = true := by simp only [fpOf, hc]; rw [if_neg he]
      rw [hg this]
      exact .lent _ _ _ _ _ _ _ hc hp hgd
  | made c x k fs cap args r T sz es hc hrefs hf hgd =>
    have e : (fpOf (.call c) (.fn k fs cap :: args) fid).R = [fid] := by simp only [fpOf, hc, hrefs]; rfl
    have : g' fid = g fid := hR fid (by rw [e]; simp)
    exact .made _ _ _ _ _ _ _ _ _ _ hc hrefs ⟨by rw [this]; exact hf.1, hf.2⟩ hgd

theorem VExec.local_ {g g' : Store} {fid : Nat} {o : Op} {vals : List PV} {v : PV} {u : List (Nat × SC)} (h : VExec P tt g fid o vals v u) (hg : ∀ id ∈ (fpOf o vals fid).R, g' id = g id) (hg' : (fpOf o vals fid).all = true → g' = g) :
    VExec P tt g' fid o vals v u := h.imp (fun h => h.local_ hg) (fun b => b.local_ hg hg')

theorem VExec.writes {g : Store} {fid : Nat} {o : Op} {vals : List PV} {v : PV} {u : List (Nat × SC)} (h : VExec P tt g fid o vals v u) : ∀ x ∈ u, x.1 ∈ (fpOf o vals fid).W := by
  rcases h with h | h
  · exact h.writes
  · cases h with
    | byValue => intro x hx; cases hx
    | lent => intro x hx; cases hx
    | made c x k fs cap args r T sz es hc hrefs hf hgd =>
      intro y hy
      have e : (fpOf (.call c) (.fn k fs cap :: args) fid).W = [fid] := by simp only [fpOf, hc, hrefs]; rfl
      simp only [List.mem_cons, List.not_mem_nil, or_false] at hy
      subst hy
      rw [e]; simp

abbrev E := Nat → PV
def E.put (e : E) : Option Nat → PV → E
  | some d, p => fun t => if t = d then p else e t
  | none, _ => e
def E.eval (e : E) : Operand → PV
  | .tmp t => e t
  | .const v => PV.ofConst v
  | .global _ => .undef
  | .func f => .fn f [] []

def E.vals (e : E) (o : Oper) : List PV := o.op.operands.toList.map e.eval

/-- Is the guard met? -/
def GCond : PV → Bool → Bool → Prop
  | .bool z, want, c => c = (z == want)
  | .cnd c' (.bool z), want, c => c = (c' && (z == want))
  | _, _, _ => False

def Guarded (ops : Array Oper) (e : E) (o : Oper) (c : Bool) : Prop :=
  match o.guard with
  | none => c = true
  | some (j, want) => match (ops[j]?).bind (·.dst) with
    | some t => GCond (e t) want c
    | none => False

def wrap (o : Oper) (c : Bool) (v : PV) : PV := if o.guard.isNone then v else .cnd c v

/-- One step of a region. -/
def VStep (P : Program) (tt : TT) (ops : Array Oper) (bid : Nat) (i : Nat) (s s' : E × Store) : Prop :=
  match ops[i]? with
  | none => s' = s
  | some o => ∃ (c : Bool) (v : PV) (u : List (Nat × SC)), Guarded ops s.1 o c ∧ (c = true → ∃ vals', Uns (s.1.vals o) vals' ∧ VExec P tt s.2 (bid + i) o.op vals' v u) ∧ (c = false → u = []) ∧
      s' = (s.1.put o.dst (wrap o c v), upds s.2 u)

/-- The footprint of an operation. -/
def stepFP (ops : Array Oper) (bid i : Nat) (s : E × Store) : FP :=
  match ops[i]? with
  | none => ⟨false, [], []⟩
  | some o => fpOf o.op (s.1.vals o) (bid + i)

theorem E.eval_put {e : E} {dst : Option Nat} {p : PV} {x : Operand} (h : ∀ d, dst = some d → x ≠ .tmp d) : (e.put dst p).eval x = e.eval x := by
  cases dst with
  | none => rfl
  | some d =>
    cases x with
    | tmp t =>
      have : t ≠ d := fun hh => h d rfl (by rw [hh])
      simp [E.eval, E.put, this]
    | _ => rfl

theorem E.vals_put {ops : Array Oper} {e : E} {o : Oper} {dst : Option Nat} {p : PV} (h : ∀ d, dst = some d → d ∉ o.looksAt ops) : (e.put dst p).vals o = e.vals o := by
  unfold E.vals
  refine List.map_congr_left fun x hx => E.eval_put fun d hd hxd => h d hd ?_
  subst hxd
  exact List.mem_append_left _ (List.mem_filterMap.2 ⟨.tmp d, by simpa using hx, rfl⟩)

theorem Guarded.put {ops : Array Oper} {e : E} {o : Oper} {c : Bool} {dst : Option Nat} {p : PV} (h : ∀ d, dst = some d → d ∉ o.looksAt ops) : Guarded ops (e.put dst p) o c ↔ Guarded ops e o c := by
  unfold Guarded
  cases hg : o.guard with
  | none => rfl
  | some x =>
    obtain ⟨j, want⟩ := x
    simp only
    cases ht : (ops[j]?).bind (·.dst) with
    | none => rfl
    | some t =>
      simp only
      have : (e.put dst p) t = e t := by
        cases dst with
        | none => rfl
        | some d =>
          have hne : t ≠ d := fun hh => h d rfl (by subst hh; simp [Oper.looksAt, hg, ht])
          simp [E.put, hne]
      rw [this]

theorem E.put_comm (e : E) {x y : Option Nat} (p q : PV) (h : ∀ d, x = some d → y ≠ some d) : (e.put x p).put y q = (e.put y q).put x p := by
  cases x with
  | none => rfl
  | some a =>
    cases y with
    | none => rfl
    | some b =>
      have hne : a ≠ b := fun hh => h a rfl (by rw [hh])
      funext t
      simp only [E.put]
      by_cases h1 : t = a <;> by_cases h2 : t = b <;> simp_all

theorem upds_get_notin : ∀ (u : List (Nat × SC)) (g : Store) (id : Nat), (∀ x ∈ u, x.1 ≠ id) → upds g u id = g id
  | [], g, id, _ => rfl
  | (a, c) :: u, g, id, h => by
    simp only [upds]
    rw [upds_get_notin u _ id fun x hx => h x (by simp [hx])]
    have := h (a, c) (by simp)
    simp only [upd]
    rw [if_neg (Ne.symm this)]

theorem upd_comm (g : Store) {a b : Nat} (x y : SC) (h : a ≠ b) : upd (upd g a x) b y = upd (upd g b y) a x := by
  funext j
  simp only [upd]
  by_cases h1 : j = a <;> by_cases h2 : j = b <;> simp_all

theorem upds_upd_comm : ∀ (u : List (Nat × SC)) (g : Store) (a : Nat) (x : SC), (∀ y ∈ u, y.1 ≠ a) → upds (upd g a x) u = upd (upds g u) a x
  | [], g, a, x, _ => rfl
  | (b, y) :: u, g, a, x, h => by
    simp only [upds]
    rw [upd_comm g x y (Ne.symm (h (b, y) (by simp))), upds_upd_comm u _ a x fun z hz => h z (by simp [hz])]

theorem upds_comm : ∀ (u u' : List (Nat × SC)) (g : Store), (∀ x ∈ u, ∀ y ∈ u', x.1 ≠ y.1) → upds (upds g u) u' = upds (upds g u') u
  | [], u', g, _ => rfl
  | (a, x) :: u, u', g, h => by
    simp only [upds]
    rw [upds_comm u u' (upd g a x) fun z hz y hy => h z (by simp [hz]) y hy, upds_upd_comm u' g a x fun y hy => Ne.symm (h (a, x) (by simp) y hy)]

/-- Two operations that are apart may change places. -/
theorem diamond {ops : Array Oper} {bid i j : Nat} {oi oj : Oper} {fi fj : FP} {s s1 s2 : E × Store} (hi : ops[i]? = some oi) (hj : ops[j]? = some oj) (hap : oi.apart ops oj = true) (hfp : FP.apart fi fj = true)
    (h1 : VStep P tt ops bid i s s1) (hf1 : stepFP ops bid i s = fi) (h2 : VStep P tt ops bid j s1 s2) (hf2 : stepFP ops bid j s1 = fj) :
    ∃ s1', VStep P tt ops bid j s s1' ∧ stepFP ops bid j s = fj ∧ VStep P tt ops bid i s1' s2 ∧ stepFP ops bid i s1' = fi := by
  obtain ⟨a1, a2, a3⟩ := Oper.apart_spec hap
  unfold VStep at h1 h2
  unfold stepFP at hf1 hf2
  simp only [hi] at h1 hf1
  simp only [hj] at h2 hf2
  obtain ⟨ci, vi, ui, gi, xi, ni, rfl⟩ := h1
  obtain ⟨cj, vj, uj, gj, xj, nj, rfl⟩ := h2
  simp only at gj xj hf2
  rw [E.vals_put a1] at xj hf2
  rw [Guarded.put a1] at gj
  simp only [FP.apart, Bool.and_eq_true, List.all_eq_true, Bool.not_eq_true', List.contains_eq_mem, decide_eq_false_iff_not] at hfp
  have hui : ∀ x ∈ ui, x.1 ∈ fi.W := by
    intro x hx
    cases hc : ci with
    | false => rw [ni hc] at hx; cases hx
    | true =>
      obtain ⟨vals', hu, he⟩ := xi hc
      have := he.writes x hx
      rw [hu.fp, hf1] at this
      exact this
  have huj : ∀ x ∈ uj, x.1 ∈ fj.W := by
    intro x hx
    cases hc : cj with
    | false => rw [nj hc] at hx; cases hx
    | true =>
      obtain ⟨vals', hu, he⟩ := xj hc
      have := he.writes x hx
      rw [hu.fp, hf2] at this
      exact this
  have hdis : ∀ x ∈ ui, ∀ y ∈ uj, x.1 ≠ y.1 := fun x hx y hy he => (hfp.1 x.1 (hui x hx)).2 (by rw [he]; exact huj y hy)
  have hnil_i : fj.all = true → ui = [] := fun ha => by
    cases hu : ui with
    | nil => rfl
    | cons x r =>
      have := (hfp.1 x.1 (hui x (by rw [hu]; simp))).1.1
      rw [ha] at this; cases this
  have hnil_j : fi.all = true → uj = [] := fun ha => by
    cases hu : uj with
    | nil => rfl
    | cons x r =>
      have := (hfp.2 x.1 (huj x (by rw [hu]; simp))).1
      rw [ha] at this; cases this
  refine ⟨(s.1.put oj.dst (wrap oj cj vj), upds s.2 uj), ?_, ?_, ?_, ?_⟩
  · unfold VStep
    simp only [hj]
    refine ⟨cj, vj, uj, gj, fun hc => ?_, nj, rfl⟩
    obtain ⟨vals', hu, he⟩ := xj hc
    refine ⟨vals', hu, he.local_ (fun id hid => ?_) (fun ha => ?_)⟩
    · rw [hu.fp, hf2] at hid
      rw [upds_get_notin]
      intro x hx heq
      exact (hfp.1 x.1 (hui x hx)).1.2 (by rw [heq]; exact hid)
    · rw [hu.fp, hf2] at ha
      rw [hnil_i ha]; rfl
  · unfold stepFP; simp only [hj]; exact hf2
  · unfold VStep
    simp only [hi]
    refine ⟨ci, vi, ui, by rw [Guarded.put a3]; exact gi, fun hc => ?_, ni, ?_⟩
    · obtain ⟨vals', hu, he⟩ := xi hc
      rw [E.vals_put a3]
      refine ⟨vals', hu, he.local_ (fun id hid => ?_) (fun ha => ?_)⟩
      · rw [hu.fp, hf1] at hid
        rw [upds_get_notin]
        intro x hx heq
        exact (hfp.2 x.1 (huj x hx)).2 (by rw [heq]; exact hid)
      · rw [hu.fp, hf1] at ha
        rw [hnil_j ha]; rfl
    · simp only [Prod.mk.injEq]
      exact ⟨E.put_comm _ _ _ a2, upds_comm _ _ _ hdis⟩
  · unfold stepFP; simp only [hi]; rw [E.vals_put a3]; exact hf1
end
end Go.V
