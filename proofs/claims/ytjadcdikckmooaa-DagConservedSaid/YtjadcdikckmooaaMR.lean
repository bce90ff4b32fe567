import Derived.Test.YtjadcdikckmooaaMF
import Derived.WideKeyArgs
import Derived.Carry
import Derived.ChangeSame
import Derived.OpenShut
import Derived.ProofKit
import Derived.ChangeCalls
import Derived.Test.YtjadcdikckmooaaRows
/- A part of a proof, with no condition of its own. Merged texts: R0 R1 R2 QB. -/
/- Rows: what arguments read as; what a law's row asks. -/
set_option linter.unusedVariables false
set_option linter.unusedSimpArgs false
namespace Go.V
open Go.RowKit Go.WideShapes Go.ChangeShapes

section
variable {H : Type} {enc : TypeId × Value → H} {P : Program}
theorem post_of_below {f : Func} {s : ChangeSpec} {apart fresh handsOn again : Bool} {W W' : World} {args : Array Value} {v : Value} {ds gs : List (DataW H)} {before pa pv : List MemPlace}
    (hW : DataW.Whole enc P f.params.toList s.vars apart W args.toList ds gs before)
    (hres : ∀ (b : Nat) (sp : Nat → Bool) (hd : Bool), DataW.TrodAll enc P W' b sp hd f.resultTypes.toList (v.resultList f.resultTypes.size) (s.fn H (ds ++ gs)).results [])
    (hargs : ∀ sp : Nat → Bool, (∀ p ∈ before, sp p.block = true) → DataW.TrodAll enc P W' 0 sp true f.params.toList args.toList (s.fn H (ds ++ gs)).args pa)
    (hvars : ∀ sp : Nat → Bool, (∀ p ∈ before, sp p.block = true) → DataW.TrodVars enc P W' sp s.vars (s.fn H (ds ++ gs)).vars pv)
    (hps : before = pa ++ pv) (hb : Below W.heap.size W W')
    (hok : ∀ (j : Nat) (t : TypeId) (r : Value), f.resultTypes[j]? = some t → (v.resultList f.resultTypes.size)[j]? = some r → Value.okWide P W' .any 0 t r) :
    s.post enc P f apart fresh handsOn again W args v W' := by
  have hlt : ∀ p ∈ before, p.block < W.heap.size := fun p hp => hW.lt p hp
  have hold : ∀ p ∈ before, (fun b => decide (b < W.heap.size)) p.block = true := fun p hp => by simpa using hlt p hp
  refine ⟨ds, gs, before, [], pa, pv, hW, hres _ _ _, hargs _ hold, hvars _ hold, World.keptBut_mono (fun p hp => ⟨hp, ?_⟩) (hb.frame (· ∈ before)), fun _ => ?_⟩
  · rw [hps, List.mem_append] at hp
    exact Or.inr hp
  · obtain ⟨_, _, _, _, _, hz, hn⟩ := hW
    refine ⟨hok, _, _, ([] ++ pa) ++ pv, ⟨[] ++ pa, pv, trodAll_append (hargs _ (fun _ _ => rfl)) (hres _ _ _), hvars _ (fun _ _ => rfl), rfl, ?_, ?_⟩, ?_⟩
    · intro b off hp
      have hin : MemPlace.cell b off ∈ before := by rw [hps]; simpa using hp
      rw [hb.frozen (hlt _ hin)]
      exact hz b off hin
    · intro ha
      have := hn ha
      rw [hps] at this
      simpa using this
    · intro p hp _
      rw [hps]
      simpa using hp
end

/-- The arguments of a call read behind it as before. -/
theorem trodAll_below {H : Type} {enc : TypeId × Value → H} {P : Program} (hl : laidOutB P = true) {W W' : World} (hb : Below W.heap.size W W') {sp : Nat → Bool} :
    ∀ {ts : List TypeId} {vs : List Value} {ds : List (DataW H)} {ps : List MemPlace}, (∀ t ∈ ts, P.readableRec t = true ∧ t < P.types.size) → (∀ p ∈ ps, p.block < W.heap.size ∧ sp p.block = true) →
      DataW.TrodAll enc P W 0 (fun _ => true) true ts vs ds ps → DataW.TrodAll enc P W' 0 sp true ts vs ds ps
  | [], vs, ds, ps, _, _, h => by
    obtain ⟨rfl, rfl, rfl⟩ := trodAll_nil h
    exact rfl
  | t :: ts, vs, ds, ps, ht, hp, h => by
    obtain ⟨v, vs, d, ds, p, q, rfl, rfl, rfl, h1, h2⟩ := trodAll_cons h
    refine ⟨p, q, WideElems.Trod_stays hl (ht t (by simp)).1 (ht t (by simp)).2 h1 (fun x hx => hb.same (hp x (by simp [hx])).1) (fun x hx => (hp x (by simp [hx])).2), trodAll_below hl hb (fun t' h' => ht t' (by simp [h'])) (fun x hx => hp x (by simp [hx])) h2, rfl⟩

/-- What cells of a type read as. -/
def Reads (P : Program) (t : TypeId) (S : List PV → Prop) : Prop := ∀ (H : Type) (enc : TypeId × Value → H) (w : World) (spare : Nat → Bool) (held : Bool) (fuel : Nat) (cs : List Value) (x : DataW H × List MemPlace),
  DataW.trod enc P w 0 spare held fuel t cs = some x → ∃ qs : List PV, S qs ∧ qs.length = cs.length ∧ ∀ (j : Nat) (p : PV) (v : Value), qs[j]? = some p → cs[j]? = some v → Rep w (fun b => b < w.heap.size) noMu p v ∧ v.oneCell' = true

theorem reads_bool {P : Program} {t : TypeId} (ht : P.underlying t = some .bool) : Reads P t fun qs => ∃ b, qs = [.bool b] := by
  intro H enc w spare held fuel cs x h
  obtain ⟨b, rfl, _⟩ := DataW.trod_bool ht h
  refine ⟨[.bool b], ⟨b, rfl⟩, rfl, fun j p v hp hv => ?_⟩
  cases j <;> simp at hp hv
  subst hp hv
  exact ⟨.bool _ _, rfl⟩
theorem reads_int {P : Program} {t : TypeId} {k : IntKind} (ht : P.underlying t = some (.int k)) : Reads P t fun qs => ∃ n, (Lit.int k n).wf = true ∧ qs = [.int k n] := by
  intro H enc w spare held fuel cs x h
  obtain ⟨n, rfl, _, hw⟩ := DataW.trod_int ht h
  refine ⟨[.int k n], ⟨n, hw, rfl⟩, rfl, fun j p v hp hv => ?_⟩
  cases j <;> simp at hp hv
  subst hp hv
  exact ⟨.int _ _ _, rfl⟩

/-- Segments of cells, one behind the other. -/
def RS : List (TypeId × Nat × (List PV → Prop)) → List PV → Prop
  | [], qs => qs = []
  | (_, n, S) :: r, qs => ∃ a b, qs = a ++ b ∧ a.length = n ∧ S a ∧ RS r b
def offs : List (TypeId × Nat × (List PV → Prop)) → Nat → List (Nat × TypeId)
  | [], _ => []
  | (t, n, _) :: r, o => (o, t) :: offs r (o + n)
def total : List (TypeId × Nat × (List PV → Prop)) → Nat
  | [] => 0
  | (_, n, _) :: r => n + total r

theorem reads_segs {P : Program} {H : Type} {enc : TypeId × Value → H} {w : World} {spare : Nat → Bool} {held : Bool} {m : Nat} {cs : List Value} : ∀ (L : List (TypeId × Nat × (List PV → Prop))) (o : Nat), (∀ x ∈ L, Reads P x.1 x.2.2 ∧ P.cellsOf x.1 = x.2.1) →
    (∀ y ∈ offs L o, ∃ z, DataW.trod enc P w 0 spare held m y.2 ((cs.drop y.1).take (P.cellsOf y.2)) = some z) → o + total L = cs.length →
    ∃ qs, RS L qs ∧ qs.length = total L ∧ ∀ (j : Nat) (p : PV) (v : Value), qs[j]? = some p → cs[o + j]? = some v → Rep w (fun b => b < w.heap.size) noMu p v ∧ v.oneCell' = true
  | [], o, _, _, _ => ⟨[], rfl, rfl, fun j p v hp => by simp at hp⟩
  | (t, n, S) :: r, o, hL, ho, hn => by
    have hRc := hL (t, n, S) (by simp)
    obtain ⟨hR, hc⟩ := hRc
    simp only at hR hc
    obtain ⟨z, hz⟩ := ho (o, t) (by simp [offs])
    simp only [hc] at hz
    obtain ⟨a, ha, hal, har⟩ := hR H enc w spare held m _ z hz
    simp only [total] at hn
    have hlen : ((cs.drop o).take n).length = n := by simp; omega
    rw [hlen] at hal
    obtain ⟨b, hb, hbl, hbr⟩ := reads_segs r (o + n) (fun x hx => hL x (by simp [hx])) (fun y hy => ho y (by simp [offs, hy])) (by omega)
    refine ⟨a ++ b, ⟨a, b, rfl, hal, ha, hb⟩, by simp [total, hal, hbl], fun j p v hp hv => ?_⟩
    by_cases hj : j < n
    · rw [List.getElem?_append_left (by omega)] at hp
      refine har j p v hp ?_
      rw [List.getElem?_take_of_lt hj, List.getElem?_drop]; exact hv
    · rw [List.getElem?_append_right (by omega), hal] at hp
      refine hbr (j - n) p v hp ?_
      rw [← hv]; congr 1; omega

theorem reads_struct {P : Program} {t : TypeId} {fs : Array Field} (ht : P.underlying t = some (.struct fs)) (L : List (TypeId × Nat × (List PV → Prop))) (ho : fs.toList.map (fun f => (f.offset, f.type)) = offs L 0)
    (hL : ∀ x ∈ L, Reads P x.1 x.2.2 ∧ P.cellsOf x.1 = x.2.1) (hn : P.cellsOf t = total L) : Reads P t (RS L) := by
  intro H enc w spare held fuel cs x h
  obtain ⟨xs, n, rfl, _, hl, hxl, hx⟩ := DataW.trod_struct ht h
  have key : ∀ y ∈ offs L 0, ∃ z, DataW.trod enc P w 0 spare held n y.2 ((cs.drop y.1).take (P.cellsOf y.2)) = some z := by
    intro y hy
    rw [← ho] at hy
    obtain ⟨f, hf, rfl⟩ := List.mem_map.1 hy
    obtain ⟨i, hi, e⟩ := List.getElem_of_mem hf
    have hi' : i < fs.size := by simpa using hi
    have := hx i f (by rw [← e]; simp [hi'])
    simp only
    rw [this, List.getElem?_eq_getElem (by omega)]
    exact ⟨_, rfl⟩
  obtain ⟨qs, h1, h2, h3⟩ := reads_segs (enc := enc) (w := w) (spare := spare) (held := held) (m := n) (cs := cs) L 0 hL key (by omega)
  exact ⟨qs, h1, by omega, fun j p v hp hv => h3 j p v hp (by simpa using hv)⟩

theorem reads_array {P : Program} {t e : TypeId} {n sz : Nat} {S : List PV → Prop} (ht : P.underlying t = some (.array n e)) (he : Reads P e S) (hc : P.cellsOf e = sz) (hn : P.cellsOf t = n * sz) : Reads P t (RS (List.replicate n (e, sz, S))) := by
  intro H enc w spare held fuel cs x h
  obtain ⟨xs, m, rfl, _, hl, hxl, hx⟩ := DataW.trod_array ht h
  have htot : ∀ n, total (List.replicate n (e, sz, S)) = n * sz := by
    intro n; induction n with
    | zero => simp [total]
    | succ n ih => simp [List.replicate_succ, total, ih, Nat.succ_mul]; omega
  have hoff : ∀ n o, ∀ y ∈ offs (List.replicate n (e, sz, S)) o, ∃ i, i < n ∧ y = (o + i * sz, e) := by
    intro n; induction n with
    | zero => intro o y hy; simp [offs] at hy
    | succ n ih =>
      intro o y hy
      simp only [List.replicate_succ, offs, List.mem_cons] at hy
      rcases hy with rfl | hy
      · exact ⟨0, by omega, by simp⟩
      · obtain ⟨i, hi, rfl⟩ := ih _ y hy
        exact ⟨i + 1, by omega, by rw [Nat.succ_mul]; congr 1; omega⟩
  have key : ∀ y ∈ offs (List.replicate n (e, sz, S)) 0, ∃ z, DataW.trod enc P w 0 spare held m y.2 ((cs.drop y.1).take (P.cellsOf y.2)) = some z := by
    intro y hy
    obtain ⟨i, hi, rfl⟩ := hoff n 0 y hy
    have := hx i hi
    rw [hc] at this
    simp only [Nat.zero_add]
    rw [hc, this, List.getElem?_eq_getElem (by omega)]
    exact ⟨_, rfl⟩
  obtain ⟨qs, h1, h2, h3⟩ := reads_segs (enc := enc) (w := w) (spare := spare) (held := held) (m := m) (cs := cs) (List.replicate n (e, sz, S)) 0 (fun x hx => by simp [List.mem_replicate] at hx; obtain ⟨_, rfl⟩ := hx; exact ⟨he, hc⟩) key (by rw [htot]; omega)
  exact ⟨qs, h1, by rw [h2, htot]; omega, fun j p v hp hv => h3 j p v hp (by simpa using hv)⟩

/-- A slice: the elements' cells lie one behind the other. -/
theorem reads_slice {P : Program} {t e : TypeId} {sz : Nat} {S : List PV → Prop} (mk : List PV → PV) (hmk : ∀ qs, S qs → (mk qs).cells = qs) (ht : P.underlying t = some (.slice e)) (he : Reads P e S) (hc : P.cellsOf e = sz) (hz : 0 < sz) :
    Reads P t fun qs => ∃ es : List (List PV), (∀ q ∈ es, S q ∧ q.length = sz) ∧ es.length ≤ maxLen ∧ qs = [.slc sz (es.map mk)] := by
  intro H enc w spare held fuel cs x h
  rcases DataW.trod_slice ht h with ⟨rfl, _⟩ | ⟨a, len, cap, elems, rest, n, rfl, rfl, _, hb, hlc, hcm, hel, hx, _, _⟩
  · refine ⟨[.slc sz []], ⟨[], by simp, by simp, rfl⟩, rfl, fun j p v hp hv => ?_⟩
    cases j <;> simp at hp hv
    subst hp hv
    exact ⟨.slc0 _ _ _ _, rfl⟩
  · rcases Nat.eq_zero_or_pos len with h0 | h0
    · subst h0
      refine ⟨[.slc sz []], ⟨[], by simp, by simp, rfl⟩, rfl, fun j p v hp hv => ?_⟩
      cases j <;> simp at hp hv
      subst hp hv
      exact ⟨.slc0 _ _ _ _, rfl⟩
    · have hsome : ∀ i, i < len → ∃ ce z, w.cells? 0 (a.add (i * sz)) sz = some ce ∧ DataW.trod enc P w 0 spare held n e ce = some z := fun i hi => by
        have h1 := hx i hi
        rw [hc, List.getElem?_eq_getElem (by omega)] at h1
        cases h2 : w.cells? 0 (a.add (i * sz)) sz with
        | none => rw [h2] at h1; cases h1
        | some ce => rw [h2] at h1; exact ⟨ce, _, rfl, h1⟩
      have hqs : ∀ i, i < len → ∃ qs ce, w.cells? 0 (a.add (i * sz)) sz = some ce ∧ S qs ∧ qs.length = sz ∧ ce.length = sz ∧ ∀ (j : Nat) (p : PV) (v : Value), qs[j]? = some p → ce[j]? = some v → Rep w (fun b => b < w.heap.size) noMu p v ∧ v.oneCell' = true := fun i hi => by
        obtain ⟨ce, z, h1, h2⟩ := hsome i hi
        obtain ⟨qs, h3, h4, h5⟩ := he H enc w spare held n ce z h2
        have h6 := (World.cells?_some h1).2.1
        exact ⟨qs, ce, h1, h3, by omega, h6, h5⟩
      clear hsome hx h
      have hspot : a.spot = none := by
        obtain ⟨qs, ce, h1, _, _, h4, _⟩ := hqs 0 h0
        have h2 := (World.cells?_some h1).2.2 0 hz
        rw [Nat.zero_mul] at h2
        have e : (a.add 0).add 0 = a := rfl
        rw [e, List.getElem?_eq_getElem (by omega)] at h2
        unfold World.cell? at h2
        split at h2
        · split at h2
          · cases h2
          · rename_i hs; simpa using hs
        · cases h2
      have hadd : ∀ i k, (a.add i).add k = ⟨a.block, a.off + (i + k), none⟩ := fun i k => by
        obtain ⟨b, o, s⟩ := a
        simp only at hspot
        subst hspot
        unfold Addr.add
        split <;> split <;> simp <;> omega
      obtain ⟨f, hf⟩ : ∃ f : Nat → List PV, ∀ i, i < len → S (f i) ∧ (f i).length = sz ∧ ∀ (k : Nat) (p : PV), (f i)[k]? = some p → ∃ v, w.cell? ⟨a.block, a.off + (i * sz + k), none⟩ = some v ∧ Rep w (fun b => b < w.heap.size) noMu p v ∧ v.oneCell' = true := by
        refine ⟨fun i => if hi : i < len then (hqs i hi).choose else [], fun i hi => ?_⟩
        simp only [dif_pos hi]
        obtain ⟨ce, h1, h2, h3, h4, h5⟩ := (hqs i hi).choose_spec
        refine ⟨h2, h3, fun k p hp => ?_⟩
        have hk : k < sz := by rw [← h3]; exact (List.getElem?_eq_some_iff.1 hp).1
        have h6 := (World.cells?_some h1).2.2 k hk
        rw [hadd, List.getElem?_eq_getElem (by omega)] at h6
        exact ⟨_, h6, h5 k p _ hp (List.getElem?_eq_getElem _)⟩
      have hblk : a.block < w.heap.size := by
        obtain ⟨qs, ce, h1, _⟩ := hqs 0 h0
        have := World.cells?_block h1 hz
        rw [Nat.zero_mul] at this; exact this
      generalize hes : (List.range len).map f = es at *
      have hesl : es.length = len := by rw [← hes]; simp
      have hget : ∀ i, i < len → es[i]? = some (f i) := fun i hi => by rw [← hes]; simp [hi]
      have hmem : ∀ q ∈ es, S q ∧ q.length = sz := fun q hq => by
        rw [← hes] at hq
        obtain ⟨i, hi, rfl⟩ := List.mem_map.1 hq
        have := hf i (List.mem_range.1 hi)
        exact ⟨this.1, this.2.1⟩
      have hcl : ∀ e ∈ es.map mk, e.cells.length = sz := fun e he' => by
        obtain ⟨q, hq, rfl⟩ := List.mem_map.1 he'
        rw [hmk q (hmem q hq).1]; exact (hmem q hq).2
      have hfl := flat_length hcl
      have hall : ∀ (j : Nat) (p : PV), (flat (es.map mk))[j]? = some p → ∃ v, w.cell? ⟨a.block, a.off + j, none⟩ = some v ∧ Rep w (fun b => b < w.heap.size) noMu p v ∧ v.oneCell' = true := fun j p hp => by
        have hj : j < len * sz := by
          have := (List.getElem?_eq_some_iff.1 hp).1
          rw [hfl, List.length_map, hesl] at this; exact this
        have hi : j / sz < len := Nat.div_lt_of_lt_mul (by rw [Nat.mul_comm]; exact hj)
        have hjk : j / sz * sz + j % sz = j := by rw [Nat.mul_comm]; exact Nat.div_add_mod j sz
        have := flat_at (es := es.map mk) (j / sz) (j % sz) hcl (Nat.mod_lt _ hz)
        rw [hjk, hp, List.getElem?_map, hget _ hi] at this
        simp only [Option.map_some, Option.bind_some] at this
        rw [hmk _ (hf _ hi).1] at this
        obtain ⟨v, h1, h2⟩ := (hf _ hi).2.2 _ _ this.symm
        rw [hjk] at h1
        exact ⟨v, h1, h2⟩
      have hlt : ∀ j, j < (flat (es.map mk)).length → ∃ p, (flat (es.map mk))[j]? = some p := fun j hj => ⟨_, List.getElem?_eq_getElem hj⟩
      refine ⟨[.slc sz (es.map mk)], ⟨es, hmem, by omega, rfl⟩, rfl, fun j p v hp hv => ?_⟩
      cases j <;> simp at hp hv
      subst hp hv
      refine ⟨?_, rfl⟩
      have ea : a = ⟨a.block, a.off, none⟩ := by obtain ⟨b, o, s⟩ := a; simp only at hspot; subst hspot; rfl
      have el : (es.map mk).length = len := by rw [List.length_map, hesl]
      rw [ea, ← el]
      refine .slc noMu sz (es.map mk) a.block a.off cap (by omega) hblk (fun j => (w.cell? ⟨a.block, a.off + j, none⟩).getD Go.undef) hcl (fun j hj => ?_) (fun j hj => ?_) (fun j p hp => ?_)
      · obtain ⟨p, hp⟩ := hlt j hj
        obtain ⟨v, h1, _, h2⟩ := hall j p hp
        rw [h1]; exact h2
      · obtain ⟨p, hp⟩ := hlt j hj
        obtain ⟨v, h1, _, h2⟩ := hall j p hp
        rw [h1]; rfl
      · obtain ⟨v, h1, h2, _⟩ := hall j p hp
        rw [h1]; exact h2

/-- An argument of one cell. -/
theorem open_one {P : Program} {H : Type} {enc : TypeId × Value → H} {w : World} {spare : Nat → Bool} {held : Bool} {t : TypeId} {v : Value} {d : DataW H} {ps : List MemPlace} {S : List PV → Prop} (hR : Reads P t S) (hv : v.oneCell' = true)
    (h : DataW.Trod enc P w 0 spare held t v d ps) : ∃ q, S [q] ∧ Rep w (fun b => b < w.heap.size) noMu q v := by
  obtain ⟨fuel, hf⟩ := h
  have ec : v.cells.toList = [v] := by cases v <;> first | rfl | cases hv
  rw [ec] at hf
  obtain ⟨qs, h1, h2, h3⟩ := hR H enc w spare held fuel _ _ hf
  obtain ⟨q, rfl⟩ : ∃ q, qs = [q] := by
    match qs, h2 with
    | [q], _ => exact ⟨q, rfl⟩
  exact ⟨q, h1, (h3 0 q v rfl rfl).1⟩
/-- An argument of several cells. -/
theorem open_agg {P : Program} {H : Type} {enc : TypeId × Value → H} {w : World} {spare : Nat → Bool} {held : Bool} {t : TypeId} {cs : Array Value} {d : DataW H} {ps : List MemPlace} {S : List PV → Prop} (hR : Reads P t S)
    (h : DataW.Trod enc P w 0 spare held t (.agg cs) d ps) : ∃ qs, S qs ∧ Rep w (fun b => b < w.heap.size) noMu (.agg qs) (.agg cs) := by
  obtain ⟨fuel, hf⟩ := h
  have ec : (Value.agg cs).cells.toList = cs.toList := rfl
  rw [ec] at hf
  obtain ⟨qs, h1, h2, h3⟩ := hR H enc w spare held fuel _ _ hf
  refine ⟨qs, h1, .agg _ _ _ (by simpa using h2) (fun v hv => ?_) (fun j p v hp hv => (h3 j p v hp (by simpa using hv)).1)⟩
  obtain ⟨j, hj, rfl⟩ := List.getElem_of_mem hv
  exact (h3 j _ _ (List.getElem?_eq_getElem (by omega)) (List.getElem?_eq_getElem hj)).2
end Go.V
/- Rows: what the arguments of the statements read as. -/
set_option linter.unusedVariables false
set_option linter.unusedSimpArgs false
namespace Go.V
open Go.RowKit Go.WideShapes Go.ChangeShapes Go.Proofs

def IntS (qs : List PV) : Prop := ∃ n, (Lit.int .i64 n).wf = true ∧ qs = [.int .i64 n]
theorem wf_i64 {n : Int} (h : (Lit.int .i64 n).wf = true) : -9223372036854775808 ≤ n ∧ n ≤ 9223372036854775807 := by
  simpa [Lit.wf, IntKind.min, IntKind.max, IntKind.signed, IntKind.bits] using h
theorem rd_int : Reads Try.prog 3 IntS := reads_int Try.underlying3
theorem rd_bool : Reads Try.prog 4 fun qs => ∃ b, qs = [.bool b] := reads_bool Try.underlying4
theorem rd_bools : Reads Try.prog 22 fun qs => ∃ l : List Bool, l.length ≤ maxLen ∧ qs = [.slc 1 (bools l)] := by
  intro H enc w spare held fuel cs x h
  obtain ⟨qs, ⟨es, h1, h2, rfl⟩, h3⟩ := reads_slice (fun qs => qs.getD 0 .undef) (fun qs ⟨b, e⟩ => by rw [e]; rfl) Try.underlying22 rd_bool (by kernel_rfl) (by decide : 0 < 1) H enc w spare held fuel cs x h
  refine ⟨_, ⟨es.map fun q => match q with | [.bool b] => b | _ => false, by simpa using h2, ?_⟩, h3⟩
  congr 2
  simp only [bools, List.map_map]
  refine List.map_congr_left fun q hq => ?_
  obtain ⟨⟨b, rfl⟩, _⟩ := h1 q hq
  rfl
theorem rd_int2 : Reads Try.prog 26 fun qs => ∃ a b, (Lit.int .i64 a).wf = true ∧ (Lit.int .i64 b).wf = true ∧ qs = [.int .i64 a, .int .i64 b] := by
  intro H enc w spare held fuel cs x h
  obtain ⟨qs, h1, h2⟩ := reads_array Try.underlying26 rd_int (by kernel_rfl) (by kernel_rfl : Try.prog.cellsOf 26 = 2 * 1) H enc w spare held fuel cs x h
  obtain ⟨_, _, rfl, _, ⟨a, wa, rfl⟩, _, _, rfl, _, ⟨b, wb, rfl⟩, rfl⟩ := h1
  exact ⟨_, ⟨a, b, wa, wb, rfl⟩, h2⟩
theorem rd_int3 : Reads Try.prog 58 fun qs => ∃ a b c, (Lit.int .i64 a).wf = true ∧ (Lit.int .i64 b).wf = true ∧ (Lit.int .i64 c).wf = true ∧ qs = [.int .i64 a, .int .i64 b, .int .i64 c] := by
  intro H enc w spare held fuel cs x h
  obtain ⟨qs, h1, h2⟩ := reads_array Try.underlying58 rd_int (by kernel_rfl) (by kernel_rfl : Try.prog.cellsOf 58 = 3 * 1) H enc w spare held fuel cs x h
  obtain ⟨_, _, rfl, _, ⟨a, wa, rfl⟩, _, _, rfl, _, ⟨b, wb, rfl⟩, _, _, rfl, _, ⟨c, wc, rfl⟩, rfl⟩ := h1
  exact ⟨_, ⟨a, b, c, wa, wb, wc, rfl⟩, h2⟩
def Lnk.wf (l : Lnk) : Prop := (Lit.int .i64 l.a).wf = true ∧ (Lit.int .i64 l.b).wf = true ∧ (Lit.int .i64 l.c0).wf = true ∧ (Lit.int .i64 l.c1).wf = true ∧ (Lit.int .i64 l.cap).wf = true ∧ (Lit.int .i64 l.dl).wf = true ∧ (Lit.int .i64 l.gr).wf = true
theorem rd_link : Reads Try.prog 63 fun qs => ∃ l : Lnk, l.wf ∧ qs = (pvL l).cells := by
  intro H enc w spare held fuel cs x h
  obtain ⟨qs, h1, h2⟩ := reads_struct Try.underlying63 [(3, 1, IntS), (3, 1, IntS), (26, 2, fun qs => ∃ a b, (Lit.int .i64 a).wf = true ∧ (Lit.int .i64 b).wf = true ∧ qs = [.int .i64 a, .int .i64 b]), (3, 1, IntS), (3, 1, IntS), (3, 1, IntS)] rfl
    (fun x hx => by
      simp only [List.mem_cons, List.not_mem_nil, or_false] at hx
      rcases hx with rfl | rfl | rfl | rfl | rfl | rfl
      · exact ⟨rd_int, by kernel_rfl⟩
      · exact ⟨rd_int, by kernel_rfl⟩
      · exact ⟨rd_int2, by kernel_rfl⟩
      · exact ⟨rd_int, by kernel_rfl⟩
      · exact ⟨rd_int, by kernel_rfl⟩
      · exact ⟨rd_int, by kernel_rfl⟩) (by kernel_rfl) H enc w spare held fuel cs x h
  obtain ⟨_, _, rfl, _, ⟨a, wa, rfl⟩, _, _, rfl, _, ⟨b, wb, rfl⟩, _, _, rfl, _, ⟨c, d, wc, wd, rfl⟩, _, _, rfl, _, ⟨e, we, rfl⟩, _, _, rfl, _, ⟨f, wf, rfl⟩, _, _, rfl, _, ⟨g, wg, rfl⟩, rfl⟩ := h1
  exact ⟨_, ⟨⟨a, b, c, d, e, f, g⟩, ⟨wa, wb, wc, wd, we, wf, wg⟩, rfl⟩, h2⟩
theorem rd_links : Reads Try.prog 23 fun qs => ∃ l : List Lnk, (∀ x ∈ l, x.wf) ∧ l.length ≤ maxLen ∧ qs = [.slc 7 (l.map pvL)] := by
  intro H enc w spare held fuel cs x h
  obtain ⟨qs, ⟨es, h1, h2, rfl⟩, h3⟩ := reads_slice (fun qs => .agg qs) (fun qs _ => rfl) Try.underlying23 rd_link (by kernel_rfl) (by decide : 0 < 7) H enc w spare held fuel cs x h
  have key : ∀ es : List (List PV), (∀ q ∈ es, (∃ l : Lnk, l.wf ∧ q = (pvL l).cells) ∧ q.length = 7) → ∃ l : List Lnk, (∀ x ∈ l, x.wf) ∧ l.length = es.length ∧ es.map (fun qs => PV.agg qs) = l.map pvL := by
    intro es
    induction es with
    | nil => intro _; exact ⟨[], by simp, rfl, rfl⟩
    | cons q es ih =>
      intro hq
      obtain ⟨⟨l, wl, e⟩, _⟩ := hq q (by simp)
      obtain ⟨ls, a1, a2, a3⟩ := ih fun q hq' => hq q (by simp [hq'])
      refine ⟨l :: ls, fun x hx => ?_, by simp [a2], by rw [List.map_cons, List.map_cons, a3, e]; rfl⟩
      rcases List.mem_cons.1 hx with rfl | hx
      · exact wl
      · exact a1 x hx
  obtain ⟨l, a1, a2, a3⟩ := key es h1
  exact ⟨_, ⟨l, a1, by omega, by rw [a3]⟩, h3⟩
def Topo.wf (t : Topo) : Prop := (Lit.int .i64 t.n).wf = true ∧ t.ov.length ≤ maxLen ∧ (∀ x ∈ t.ls, x.wf) ∧ t.ls.length ≤ maxLen
theorem rd_topo : Reads Try.prog 25 fun qs => ∃ t : Topo, t.wf ∧ pvT t = .agg qs := by
  intro H enc w spare held fuel cs x h
  obtain ⟨qs, h1, h2⟩ := reads_struct Try.underlying25 [(3, 1, IntS), (22, 1, fun qs => ∃ l : List Bool, l.length ≤ maxLen ∧ qs = [.slc 1 (bools l)]), (23, 1, fun qs => ∃ l : List Lnk, (∀ x ∈ l, x.wf) ∧ l.length ≤ maxLen ∧ qs = [.slc 7 (l.map pvL)])] rfl
    (fun x hx => by
      simp only [List.mem_cons, List.not_mem_nil, or_false] at hx
      rcases hx with rfl | rfl | rfl
      · exact ⟨rd_int, by kernel_rfl⟩
      · exact ⟨rd_bools, by kernel_rfl⟩
      · exact ⟨rd_links, by kernel_rfl⟩) (by kernel_rfl) H enc w spare held fuel cs x h
  obtain ⟨_, _, rfl, _, ⟨a, wa, rfl⟩, _, _, rfl, _, ⟨b, wb, rfl⟩, _, _, rfl, _, ⟨c, wc, wd, rfl⟩, rfl⟩ := h1
  exact ⟨_, ⟨⟨a, b, c⟩, ⟨wa, wb, wc, wd⟩, rfl⟩, h2⟩
end Go.V
/- Rows: a law's step out of its contract. -/
set_option linter.unusedVariables false
set_option linter.unusedSimpArgs false
namespace Go.V
open Go.RowKit Go.WideShapes Go.ChangeShapes Go.ChangeAt

theorem law_contract {H : Type} {enc : TypeId × Value → H} {P : Program} {k : FuncId} {fn : Func} {s : ChangeSpec} {apart fresh handsOn again : Bool} {tb : TypeId} (hl : laidOutB P = true) (hts : ∀ t ∈ fn.params.toList, P.readableRec t = true ∧ t < P.types.size)
    (hres : fn.resultTypes = #[tb]) (hb : P.underlying tb = some .bool) (hvars : s.vars = [])
    (hsp : ∀ ds : List (DataW H), ds.length = fn.params.size → (s.fn H ds).results = [.lit (.bool true)] ∧ (s.fn H ds).args = ds ∧ (s.fn H ds).vars = [])
    (hopen : ∀ (W : World) (base : Nat) (vs : List Value) (ds : List (DataW H)) (ps : List MemPlace), (∀ (j : Nat) t v, fn.params[j]? = some t → vs[j]? = some v → Value.okWide P W .any base t v) →
      DataW.TrodAll enc P W 0 (fun _ => true) true fn.params.toList vs ds ps → ∃ qs : List PV, qs.length = vs.length ∧ (∀ (j : Nat) (p : PV) (v : Value), qs[j]? = some p → vs[j]? = some v → Rep W (fun b => b < W.heap.size) noMu p v) ∧ Good P k qs (.bool true)) :
    ∀ (W : World) (base : Nat) (args : Array Value) (ds gs : List (DataW H)) (before : List MemPlace),
      (∀ (j : Nat) t v, fn.params[j]? = some t → args[j]? = some v → Value.okWide P W .any base t v) →
      DataW.Whole enc P fn.params.toList s.vars apart W args.toList ds gs before →
      Calls P k args W fun e W' => ∃ v, e = .returned v ∧ s.post enc P fn apart fresh handsOn again W args v W' := by
  intro W base args ds gs before hval hW
  have hW' := hW
  obtain ⟨p, q, hA, hV, rfl, hfz, hnd⟩ := hW
  rw [hvars] at hV
  obtain ⟨rfl, rfl⟩ := trodVars_none hV
  simp only [List.append_nil] at hW'
  have hlen := trodAll_length hA
  obtain ⟨qs, h1, h2, h3⟩ := hopen W base args.toList ds p (fun j t v ht hv => hval j t v ht (by simpa using hv)) hA
  have hc := h3.2 W (fun b => b < W.heap.size) args.toList (fun _ h => h) h1.symm h2
  rw [Array.toArray_toList] at hc
  refine hc.mono fun e W' ⟨v, he, hbel, hrep⟩ => ?_
  obtain rfl : v = .bool true := by cases hrep; rfl
  refine ⟨_, he, ?_⟩
  obtain ⟨s1, s2, s3⟩ := hsp ds (by simpa using hlen.2)
  have hlt : ∀ x ∈ p, x.block < W.heap.size := fun x hx => hW'.lt x hx
  refine post_of_below (pa := p) (pv := []) hW' (fun b sp hd => ?_) (fun sp hsp' => ?_) (fun sp _ => ?_) (by simp) hbel ?_
  · rw [List.append_nil, s1, hres]
    exact trodAll_cons_mk (shut_bool hb _) trodAll_mk0
  · rw [List.append_nil, s2]
    exact trodAll_below hl hbel hts (fun x hx => ⟨hlt x hx, hsp' x hx⟩) hA
  · rw [List.append_nil, s3, hvars]; rfl
  · exact ok_one hres rfl (okWide_bool_mk hb _)
end Go.V
/- The rows' arguments, read. -/
set_option linter.unusedVariables false
set_option linter.unusedSimpArgs false
namespace Go.V
open Go.RowKit Go.WideShapes Go.ChangeShapes Go.Proofs

set_option maxRecDepth 100000 in
theorem ok_agg {W : World} {base : Nat} {T : TypeId} {d : TypeDesc} {v : Value} (hd : Try.prog.underlying T = some d) (hs : (∃ fs, d = .struct fs) ∨ ∃ n e, d = .array n e) (h : Value.okWide Try.prog W .any base T v) : ∃ c, v = .agg c := by
  unfold Value.okWide at h
  rw [hd] at h
  rcases hs with ⟨fs, rfl⟩ | ⟨n, e, rfl⟩
  · obtain ⟨c0, h, _⟩ := h
    exact ⟨c0, h⟩
  · obtain ⟨c0, h, _⟩ := h
    exact ⟨c0, h⟩

set_option maxRecDepth 100000 in
/-- A topology, a mask and two numbers. -/
theorem open_tm2 {H : Type} {enc : TypeId × Value → H} {W : World} {base : Nat} {vs : List Value} {ds : List (DataW H)} {ps : List MemPlace}
    (hval : ∀ (j : Nat) t v, [25, 22, 26][j]? = some t → vs[j]? = some v → Value.okWide Try.prog W .any base t v)
    (hA : DataW.TrodAll enc Try.prog W 0 (fun _ => true) true [25, 22, 26] vs ds ps) :
    ∃ (t : Topo) (down : List Bool) (a b : Int), t.wf ∧ down.length ≤ maxLen ∧ (Lit.int .i64 a).wf = true ∧ (Lit.int .i64 b).wf = true ∧ vs.length = 3 ∧
      ∀ (j : Nat) (p : PV) (v : Value), [pvT t, .slc 1 (bools down), .agg [.int .i64 a, .int .i64 b]][j]? = some p → vs[j]? = some v → Rep W (fun b => b < W.heap.size) noMu p v := by
  obtain ⟨v0, vs0, d0, ds0, p0, q0, rfl, rfl, rfl, h0, r0⟩ := trodAll_cons hA
  obtain ⟨v1, vs1, d1, ds1, p1, q1, rfl, rfl, rfl, h1, r1⟩ := trodAll_cons r0
  obtain ⟨v2, vs2, d2, ds2, p2, q2, rfl, rfl, rfl, h2, r2⟩ := trodAll_cons r1
  obtain ⟨rfl, rfl, rfl⟩ := trodAll_nil r2
  obtain ⟨c0, rfl⟩ := ok_agg Try.underlying25 (.inl ⟨_, rfl⟩) (hval 0 25 v0 (by simp) (by simp))
  obtain ⟨a1, l1, k1, rfl⟩ := okWide_slice Try.underlying22 (hval 1 22 v1 (by simp) (by simp))
  obtain ⟨c2, rfl⟩ := ok_agg Try.underlying26 (.inr ⟨_, _, rfl⟩) (hval 2 26 v2 (by simp) (by simp))
  obtain ⟨qs0, ⟨t, wt, et⟩, R0⟩ := open_agg rd_topo h0
  obtain ⟨qd, ⟨down, wd, ed⟩, R1⟩ := open_one rd_bools rfl h1
  obtain ⟨qs2, ⟨a, b, wa, wb, rfl⟩, R2⟩ := open_agg rd_int2 h2
  obtain rfl : qd = .slc 1 (bools down) := by simpa using ed
  rw [← et] at R0
  refine ⟨t, down, a, b, wt, wd, wa, wb, rfl, fun j p v hp hv => ?_⟩
  match j with
  | 0 => simp at hp hv; subst hp hv; exact R0
  | 1 => simp at hp hv; subst hp hv; exact R1
  | 2 => simp at hp hv; subst hp hv; exact R2
  | j + 3 => simp at hp
set_option maxRecDepth 100000 in
/-- A topology, a mask and three numbers. -/
theorem open_tm3 {H : Type} {enc : TypeId × Value → H} {W : World} {base : Nat} {vs : List Value} {ds : List (DataW H)} {ps : List MemPlace}
    (hval : ∀ (j : Nat) t v, [25, 22, 58][j]? = some t → vs[j]? = some v → Value.okWide Try.prog W .any base t v)
    (hA : DataW.TrodAll enc Try.prog W 0 (fun _ => true) true [25, 22, 58] vs ds ps) :
    ∃ (t : Topo) (down : List Bool) (a b c : Int), t.wf ∧ down.length ≤ maxLen ∧ (Lit.int .i64 a).wf = true ∧ (Lit.int .i64 b).wf = true ∧ (Lit.int .i64 c).wf = true ∧ vs.length = 3 ∧
      ∀ (j : Nat) (p : PV) (v : Value), [pvT t, .slc 1 (bools down), .agg [.int .i64 a, .int .i64 b, .int .i64 c]][j]? = some p → vs[j]? = some v → Rep W (fun b => b < W.heap.size) noMu p v := by
  obtain ⟨v0, vs0, d0, ds0, p0, q0, rfl, rfl, rfl, h0, r0⟩ := trodAll_cons hA
  obtain ⟨v1, vs1, d1, ds1, p1, q1, rfl, rfl, rfl, h1, r1⟩ := trodAll_cons r0
  obtain ⟨v2, vs2, d2, ds2, p2, q2, rfl, rfl, rfl, h2, r2⟩ := trodAll_cons r1
  obtain ⟨rfl, rfl, rfl⟩ := trodAll_nil r2
  obtain ⟨c0, rfl⟩ := ok_agg Try.underlying25 (.inl ⟨_, rfl⟩) (hval 0 25 v0 (by simp) (by simp))
  obtain ⟨a1, l1, k1, rfl⟩ := okWide_slice Try.underlying22 (hval 1 22 v1 (by simp) (by simp))
  obtain ⟨c2, rfl⟩ := ok_agg Try.underlying58 (.inr ⟨_, _, rfl⟩) (hval 2 58 v2 (by simp) (by simp))
  obtain ⟨qs0, ⟨t, wt, et⟩, R0⟩ := open_agg rd_topo h0
  obtain ⟨qd, ⟨down, wd, ed⟩, R1⟩ := open_one rd_bools rfl h1
  obtain ⟨qs2, ⟨a, b, c, wa, wb, wc, rfl⟩, R2⟩ := open_agg rd_int3 h2
  obtain rfl : qd = .slc 1 (bools down) := by simpa using ed
  rw [← et] at R0
  refine ⟨t, down, a, b, c, wt, wd, wa, wb, wc, rfl, fun j p v hp hv => ?_⟩
  match j with
  | 0 => simp at hp hv; subst hp hv; exact R0
  | 1 => simp at hp hv; subst hp hv; exact R1
  | 2 => simp at hp hv; subst hp hv; exact R2
  | j + 3 => simp at hp
theorem wf_hi {c : Int} (h : (Lit.int .i64 c).wf = true) : c ≤ 9223372036854775807 := by
  have h1 : IntKind.i64.max = 9223372036854775807 := by decide +kernel
  simp [Lit.wf, h1] at h
  omega
end Go.V
