import Derived.Test.YtjadcdikckmooaaMH
import Derived.Test.YtjadcdikckmooaaMA
/- A part of a proof, with no condition of its own. Merged texts: S0 S1 D0 D1 C3. -/
/- Shortest paths, in plain Lean: what the distances are; Bellman and Ford's and Dijkstra's steps keep what leads to them. -/
set_option linter.unusedVariables false
set_option linter.unusedSimpArgs false
namespace Go.V
namespace SP

/-- Arcs, each of which reaches a node by way of another one. -/
structure Gr where
  n : Nat
  m : Nat
  d : Nat
  x : Nat → Nat
  y : Nat → Nat
  c : Nat → Int
  use : Nat → Bool

structure Gr.Ok (G : Gr) : Prop where
  d : G.d < G.n
  few : G.n ≤ 64
  x : ∀ a, a < G.m → G.x a < G.n
  y : ∀ a, a < G.m → G.y a < G.n
  ne : ∀ a, a < G.m → G.x a ≠ G.y a
  c0 : ∀ a, a < G.m → 1 ≤ G.c a
  c1 : ∀ a, a < G.m → G.c a ≤ 65535

structure IsDist (G : Gr) (D : List Int) : Prop where
  len : D.length = G.n
  norm : ∀ v, v < G.n → -1 ≤ D.getD v (-1)
  bnd : ∀ v, v < G.n → D.getD v (-1) ≤ 4194240
  zero : D.getD G.d (-1) = 0
  stable : ∀ a, a < G.m → G.use a = true → 0 ≤ D.getD (G.y a) (-1) → 0 ≤ D.getD (G.x a) (-1) ∧ D.getD (G.x a) (-1) ≤ D.getD (G.y a) (-1) + G.c a
  just : ∀ v, v < G.n → v ≠ G.d → 0 ≤ D.getD v (-1) → ∃ a, a < G.m ∧ G.use a = true ∧ G.x a = v ∧ 0 ≤ D.getD (G.y a) (-1) ∧ D.getD v (-1) = D.getD (G.y a) (-1) + G.c a

variable {G : Gr} {D D' : List Int}

theorem IsDist.le (ok : G.Ok) (h : IsDist G D) (h' : IsDist G D') : ∀ (k v : Nat), v < G.n → D.getD v (-1) = (k : Nat) → 0 ≤ D'.getD v (-1) ∧ D'.getD v (-1) ≤ (k : Nat) := by
  intro k
  induction k using Nat.strongRecOn with
  | _ k ih =>
    intro v hv hk
    by_cases hd : v = G.d
    · rw [hd, h'.zero]; omega
    · obtain ⟨a, ha, hu, hx, hy, he⟩ := h.just v hv hd (by omega)
      have c0 := ok.c0 a ha
      have := ih (D.getD (G.y a) (-1)).toNat (by omega) (G.y a) (ok.y a ha) (by omega)
      have hs := h'.stable a ha hu this.1
      rw [hx] at hs
      omega

theorem IsDist.unique (ok : G.Ok) (h : IsDist G D) (h' : IsDist G D') : D = D' := by
  refine List.ext_getElem (by rw [h.len, h'.len]) fun v h1 h2 => ?_
  have e1 : D[v] = D.getD v (-1) := by simp [List.getD, h1]
  have e2 : D'[v] = D'.getD v (-1) := by simp [List.getD, h2]
  have hv : v < G.n := by rw [← h.len]; exact h1
  rw [e1, e2]
  have n1 := h.norm v hv
  have n2 := h'.norm v hv
  by_cases p1 : 0 ≤ D.getD v (-1)
  · have a1 := h.le ok h' (D.getD v (-1)).toNat v hv (by omega)
    have a2 := h'.le ok h (D'.getD v (-1)).toNat v hv (by omega)
    omega
  · by_cases p2 : 0 ≤ D'.getD v (-1)
    · have a2 := h'.le ok h (D'.getD v (-1)).toNat v hv (by omega)
      omega
    · omega

/-! ### Counting -/

def cnt : List Int → Nat
  | [] => 0
  | z :: l => (if 0 ≤ z then 1 else 0) + cnt l
def meas : List Int → Nat
  | [] => 0
  | z :: l => (if z < 0 then 4259840 else z.toNat) + meas l
theorem cnt_le : ∀ l : List Int, cnt l ≤ l.length
  | [] => Nat.le_refl _
  | z :: l => by have := cnt_le l; simp only [cnt, List.length_cons]; split <;> omega
theorem cnt_set : ∀ (l : List Int) (v : Nat) (z : Int), v < l.length → cnt (l.set v z) + (if 0 ≤ l.getD v (-1) then 1 else 0) = cnt l + (if 0 ≤ z then 1 else 0)
  | [], v, z, h => by simp at h
  | a :: l, 0, z, h => by simp only [List.set_cons_zero, cnt, List.getD_cons_zero]; omega
  | a :: l, v + 1, z, h => by
    have := cnt_set l v z (by simpa using h)
    simp only [List.set_cons_succ, cnt, List.getD_cons_succ]; omega
theorem meas_set : ∀ (l : List Int) (v : Nat) (z : Int), v < l.length → meas (l.set v z) + (if l.getD v (-1) < 0 then 4259840 else (l.getD v (-1)).toNat) = meas l + (if z < 0 then 4259840 else z.toNat)
  | [], v, z, h => by simp at h
  | a :: l, 0, z, h => by simp only [List.set_cons_zero, meas, List.getD_cons_zero]; omega
  | a :: l, v + 1, z, h => by
    have := meas_set l v z (by simpa using h)
    simp only [List.set_cons_succ, meas, List.getD_cons_succ]; omega
theorem cnt_pos : ∀ (l : List Int) (v : Nat), 0 ≤ l.getD v (-1) → 0 < cnt l
  | [], v, h => by simp at h
  | a :: l, 0, h => by simp only [List.getD_cons_zero] at h; simp only [cnt, if_pos h]; omega
  | a :: l, v + 1, h => by
    have := cnt_pos l v (by simpa using h)
    simp only [cnt]; omega
theorem cnt_lt : ∀ (l : List Int) (v : Nat), v < l.length → l.getD v (-1) < 0 → cnt l < l.length
  | [], v, h, _ => by simp at h
  | a :: l, 0, _, h => by
    have := cnt_le l
    simp only [List.getD_cons_zero] at h; simp only [cnt, if_neg (Int.not_le.2 h), List.length_cons]; omega
  | a :: l, v + 1, hv, h => by
    have := cnt_lt l v (by simpa using hv) (by simpa using h)
    simp only [cnt, List.length_cons]; split <;> omega
theorem cnt_replicate : ∀ n : Nat, cnt (List.replicate n (-1)) = 0
  | 0 => rfl
  | n + 1 => by rw [List.replicate_succ]; simp only [cnt, cnt_replicate n]; rfl
theorem getD_set' (l : List Int) (j k : Nat) (x : Int) (hj : j < l.length) : (l.set j x).getD k (-1) = if j = k then x else l.getD k (-1) := Heap.getD_set l j k x (-1) hj

/-! ### Bellman and Ford -/

structure BF (G : Gr) (D : List Int) : Prop where
  len : D.length = G.n
  norm : ∀ v, v < G.n → -1 ≤ D.getD v (-1)
  bnd : ∀ v, v < G.n → D.getD v (-1) ≤ 65535 * ((cnt D : Int) - 1)
  zero : D.getD G.d (-1) = 0
  weak : ∀ v, v < G.n → v ≠ G.d → 0 ≤ D.getD v (-1) → ∃ a, a < G.m ∧ G.use a = true ∧ G.x a = v ∧ 0 ≤ D.getD (G.y a) (-1) ∧ D.getD (G.y a) (-1) + G.c a ≤ D.getD v (-1)

def Stable (G : Gr) (D : List Int) (k : Nat) : Prop :=
  ∀ a, a < k → G.use a = true → 0 ≤ D.getD (G.y a) (-1) → 0 ≤ D.getD (G.x a) (-1) ∧ D.getD (G.x a) (-1) ≤ D.getD (G.y a) (-1) + G.c a

theorem BF.start (ok : G.Ok) : BF G ((List.replicate G.n (-1)).set G.d 0) := by
  have hd : G.d < (List.replicate G.n (-1 : Int)).length := by simpa using ok.d
  have hr : ∀ v, (List.replicate G.n (-1 : Int)).getD v (-1) = -1 := fun v => by
    simp only [List.getD_eq_getElem?_getD, List.getElem?_replicate]; split <;> rfl
  have hc := cnt_set _ G.d 0 hd
  rw [hr, cnt_replicate] at hc
  simp at hc
  refine ⟨by simp, fun v hv => ?_, fun v hv => ?_, ?_, fun v hv hne h0 => ?_⟩
  · rw [getD_set' _ _ _ _ hd, hr]; split <;> omega
  · rw [getD_set' _ _ _ _ hd, hr, hc]; split <;> simp
  · rw [getD_set' _ _ _ _ hd, if_pos rfl]
  · rw [getD_set' _ _ _ _ hd, hr, if_neg (Ne.symm hne)] at h0; omega

theorem BF.small (ok : G.Ok) (h : BF G D) (v : Nat) (hv : v < G.n) : D.getD v (-1) ≤ 4128705 := by
  have h1 := h.bnd v hv
  have h2 := cnt_le D
  have h3 := h.len
  have h4 := ok.few
  omega

theorem BF.step (ok : G.Ok) (h : BF G D) {a : Nat} (ha : a < G.m) (hu : G.use a = true) (hy : 0 ≤ D.getD (G.y a) (-1)) (hc : D.getD (G.x a) (-1) < 0 ∨ D.getD (G.y a) (-1) + G.c a < D.getD (G.x a) (-1)) :
    BF G (D.set (G.x a) (D.getD (G.y a) (-1) + G.c a)) ∧ meas (D.set (G.x a) (D.getD (G.y a) (-1) + G.c a)) < meas D := by
  have hx := ok.x a ha
  have hyn := ok.y a ha
  have hne := ok.ne a ha
  have c0 := ok.c0 a ha
  have c1 := ok.c1 a ha
  have hl : G.x a < D.length := by rw [h.len]; exact hx
  have hg := fun k => getD_set' D (G.x a) k (D.getD (G.y a) (-1) + G.c a) hl
  have hcs := cnt_set D (G.x a) (D.getD (G.y a) (-1) + G.c a) hl
  have hms := meas_set D (G.x a) (D.getD (G.y a) (-1) + G.c a) hl
  have hs := h.small ok (G.y a) hyn
  have hb := h.bnd (G.y a) hyn
  have hxd : G.x a ≠ G.d := by
    intro e
    rw [e, h.zero] at hc
    omega
  have hcnt : cnt D ≤ cnt (D.set (G.x a) (D.getD (G.y a) (-1) + G.c a)) := by
    rw [if_pos (show 0 ≤ D.getD (G.y a) (-1) + G.c a by omega)] at hcs
    split at hcs <;> omega
  refine ⟨⟨by simpa using h.len, fun v hv => ?_, fun v hv => ?_, ?_, fun v hv hvd h0 => ?_⟩, ?_⟩
  · rw [hg]; split
    · omega
    · exact h.norm v hv
  · rw [hg]
    rw [if_pos (show 0 ≤ D.getD (G.y a) (-1) + G.c a by omega)] at hcs
    split
    · rcases hc with hc | hc
      · rw [if_neg (by omega)] at hcs; omega
      · have := h.bnd (G.x a) hx; omega
    · have := h.bnd v hv; omega
  · rw [hg, if_neg hxd]; exact h.zero
  · by_cases hv' : G.x a = v
    · refine ⟨a, ha, hu, hv', ?_, ?_⟩
      · rw [hg, if_neg hne]; exact hy
      · rw [hg, if_neg hne, hg, if_pos hv']; exact Int.le_refl _
    · rw [hg, if_neg hv'] at h0
      obtain ⟨b, hb1, hb2, hb3, hb4, hb5⟩ := h.weak v hv hvd h0
      refine ⟨b, hb1, hb2, hb3, ?_, ?_⟩
      · rw [hg]; split <;> omega
      · rw [hg, hg, if_neg hv']
        split
        · rename_i e; rw [← e] at hb5 hb4; omega
        · exact hb5
  · rw [if_neg (show ¬ D.getD (G.y a) (-1) + G.c a < 0 by omega)] at hms
    split at hms <;> omega

theorem BF.isDist (ok : G.Ok) (h : BF G D) (hs : Stable G D G.m) : IsDist G D :=
  ⟨h.len, h.norm, fun v hv => by have := h.small ok v hv; omega, h.zero, hs, fun v hv hvd h0 => by
    obtain ⟨a, h1, h2, h3, h4, h5⟩ := h.weak v hv hvd h0
    have := hs a h1 h2 h4
    rw [h3] at this
    exact ⟨a, h1, h2, h3, h4, by omega⟩⟩

/-- There are distances. -/
theorem exists_dist (ok : G.Ok) : ∃ D, IsDist G D := by
  have key : ∀ (k : Nat) (D : List Int), meas D = k → BF G D → ∃ D, IsDist G D := by
    intro k
    induction k using Nat.strongRecOn with
    | _ k ih =>
      intro D hk h
      by_cases hs : Stable G D G.m
      · exact ⟨D, h.isDist ok hs⟩
      · have : ∃ a, a < G.m ∧ G.use a = true ∧ 0 ≤ D.getD (G.y a) (-1) ∧ (D.getD (G.x a) (-1) < 0 ∨ D.getD (G.y a) (-1) + G.c a < D.getD (G.x a) (-1)) := by
          refine Classical.byContradiction fun hno => hs fun a ha hu hy => ?_
          have h1 : ¬ (D.getD (G.x a) (-1) < 0 ∨ D.getD (G.y a) (-1) + G.c a < D.getD (G.x a) (-1)) := fun hc => hno ⟨a, ha, hu, hy, hc⟩
          omega
        obtain ⟨a, ha, hu, hy, hc⟩ := this
        obtain ⟨h1, h2⟩ := h.step ok ha hu hy hc
        exact ih _ (by omega) _ rfl h1
  exact key _ _ rfl (BF.start ok)

/-! ### Dijkstra -/

structure DJ (G : Gr) (D key : List Int) (held pend : Nat → Prop) : Prop where
  len : D.length = G.n
  klen : key.length = G.n
  norm : ∀ v, v < G.n → -1 ≤ D.getD v (-1)
  hn : ∀ v, held v → v < G.n ∧ D.getD v (-1) < 0 ∧ 0 ≤ key.getD v 0
  zero : D.getD G.d (-1) = 0 ∨ (held G.d ∧ key.getD G.d 0 = 0 ∧ ∀ v, v < G.n → D.getD v (-1) < 0)
  just : ∀ v, v < G.n → v ≠ G.d → 0 ≤ D.getD v (-1) → ∃ a, a < G.m ∧ G.use a = true ∧ G.x a = v ∧ 0 ≤ D.getD (G.y a) (-1) ∧ D.getD v (-1) = D.getD (G.y a) (-1) + G.c a
  hjust : ∀ v, held v → v ≠ G.d → ∃ a, a < G.m ∧ G.use a = true ∧ G.x a = v ∧ 0 ≤ D.getD (G.y a) (-1) ∧ key.getD v 0 = D.getD (G.y a) (-1) + G.c a
  mono : ∀ u v, u < G.n → 0 ≤ D.getD u (-1) → held v → D.getD u (-1) ≤ key.getD v 0
  edge : ∀ a, a < G.m → ¬ pend a → G.use a = true → 0 ≤ D.getD (G.y a) (-1) → (0 ≤ D.getD (G.x a) (-1) ∧ D.getD (G.x a) (-1) ≤ D.getD (G.y a) (-1) + G.c a) ∨ (held (G.x a) ∧ key.getD (G.x a) 0 ≤ D.getD (G.y a) (-1) + G.c a)
  bnd : ∀ v, v < G.n → 0 ≤ D.getD v (-1) → D.getD v (-1) ≤ 65535 * ((cnt D : Int) - 1)
  hb : ∀ v, held v → key.getD v 0 ≤ 65535 * (cnt D : Int)

theorem DJ.weaken {key : List Int} {held held' pend pend' : Nat → Prop} (h : DJ G D key held pend) (hh : ∀ v, held' v ↔ held v) (hp : ∀ a, a < G.m → pend a → G.use a = true → 0 ≤ D.getD (G.y a) (-1) → pend' a) : DJ G D key held' pend' := by
  have e : held' = held := funext fun v => propext (hh v)
  subst e
  exact ⟨h.len, h.klen, h.norm, h.hn, h.zero, h.just, h.hjust, h.mono, fun a ha hna hu hy => h.edge a ha (fun hpa => hna (hp a ha hpa hu hy)) hu hy, h.bnd, h.hb⟩

theorem DJ.start (ok : G.Ok) {key : List Int} (hk : key.length = G.n) (hk0 : key.getD G.d 0 = 0) {held : Nat → Prop} (hh : ∀ v, held v ↔ v = G.d) : DJ G (List.replicate G.n (-1)) key held (fun _ => False) := by
  have hr : ∀ v, (List.replicate G.n (-1 : Int)).getD v (-1) = -1 := fun v => by
    simp only [List.getD_eq_getElem?_getD, List.getElem?_replicate]; split <;> rfl
  refine ⟨by simp, hk, fun v _ => by rw [hr]; omega, fun v hv => ?_, .inr ⟨(hh _).2 rfl, hk0, fun v _ => by rw [hr]; omega⟩, fun v _ _ h => by rw [hr] at h; omega, fun v hv hne => absurd ((hh v).1 hv) hne, fun u v _ h => by rw [hr] at h; omega, fun a _ _ _ h => by rw [hr] at h; omega, fun v _ h => by rw [hr] at h; omega, fun v hv => ?_⟩
  · rw [(hh v).1 hv, hr, hk0]; exact ⟨ok.d, by omega, by omega⟩
  · rw [(hh v).1 hv, hk0, cnt_replicate]; simp

/-- The least item is taken: its key is its distance. -/
theorem DJ.pop (ok : G.Ok) {key : List Int} {held held' : Nat → Prop} (h : DJ G D key held (fun _ => False)) {v : Nat} (hv : held v) (hmin : ∀ w, held w → key.getD v 0 ≤ key.getD w 0) (hh : ∀ w, held' w ↔ (held w ∧ w ≠ v)) :
    DJ G (D.set v (key.getD v 0)) key held' (fun a => G.y a = v) ∧ (∀ u, u < G.n → (D.set v (key.getD v 0)).getD u (-1) ≤ (D.set v (key.getD v 0)).getD v (-1)) ∧ cnt (D.set v (key.getD v 0)) = cnt D + 1 := by
  obtain ⟨hvn, hneg, hk0⟩ := h.hn v hv
  have hl : v < D.length := by rw [h.len]; exact hvn
  have hg := fun k => getD_set' D v k (key.getD v 0) hl
  have hcs := cnt_set D v (key.getD v 0) hl
  rw [if_neg (by omega), if_pos hk0] at hcs
  have hcs : cnt (D.set v (key.getD v 0)) = cnt D + 1 := by omega
  have hkv := h.hb v hv
  refine ⟨⟨by simpa using h.len, h.klen, fun u hu => ?_, fun w hw => ?_, ?_, fun u hu hne h0 => ?_, fun w hw hne => ?_, fun u w hu h0 hw => ?_, fun a ha hna hus h0 => ?_, fun u hu h0 => ?_, fun w hw => ?_⟩, fun u hu => ?_, hcs⟩
  · rw [hg]; split
    · omega
    · exact h.norm u hu
  · obtain ⟨h1, h2⟩ := (hh w).1 hw
    rw [hg, if_neg (Ne.symm h2)]
    exact h.hn w h1
  · left
    rcases h.zero with hz | ⟨hz1, hz2, hz3⟩
    · rw [hg, if_neg (fun e => by rw [e] at hneg; omega)]; exact hz
    · rw [hg]
      by_cases e : v = G.d
      · rw [if_pos e, e]; exact hz2
      · obtain ⟨a, h1, h2, h3, h4, h5⟩ := h.hjust v hv e
        have := hz3 (G.y a) (ok.y a h1)
        omega
  · by_cases e : v = u
    · subst e
      obtain ⟨a, h1, h2, h3, h4, h5⟩ := h.hjust v hv hne
      refine ⟨a, h1, h2, h3, ?_, ?_⟩
      · rw [hg]; split <;> omega
      · have e2 : v ≠ G.y a := fun e2 => by rw [← e2] at h4; omega
        rw [hg, if_pos rfl, hg, if_neg e2]; exact h5
    · rw [hg, if_neg e] at h0
      obtain ⟨a, h1, h2, h3, h4, h5⟩ := h.just u hu hne h0
      have e2 : v ≠ G.y a := fun e2 => by rw [← e2] at h4; omega
      refine ⟨a, h1, h2, h3, ?_, ?_⟩
      · rw [hg, if_neg e2]; exact h4
      · rw [hg, if_neg e, hg, if_neg e2]; exact h5
  · obtain ⟨a, h1, h2, h3, h4, h5⟩ := h.hjust w ((hh w).1 hw).1 hne
    have e2 : v ≠ G.y a := fun e2 => by rw [← e2] at h4; omega
    refine ⟨a, h1, h2, h3, ?_, ?_⟩
    · rw [hg, if_neg e2]; exact h4
    · rw [hg, if_neg e2]; exact h5
  · obtain ⟨h1, h2⟩ := (hh w).1 hw
    rw [hg] at h0 ⊢
    split
    · exact hmin w h1
    · rename_i e; rw [if_neg e] at h0; exact h.mono u w hu h0 h1
  · have e2 : v ≠ G.y a := fun e => hna e.symm
    rw [hg, if_neg e2] at h0
    rw [hg, hg, if_neg e2]
    have hold := h.edge a ha (fun h => h) hus h0
    by_cases e : v = G.x a
    · rw [if_pos e]
      rcases hold with ⟨h1, h2⟩ | ⟨h1, h2⟩
      · rw [← e] at h1; omega
      · left; rw [e]; rw [e] at hk0; exact ⟨hk0, h2⟩
    · rw [if_neg e]
      rcases hold with h1 | ⟨h1, h2⟩
      · exact .inl h1
      · exact .inr ⟨(hh _).2 ⟨h1, Ne.symm e⟩, h2⟩
  · rw [hg] at h0 ⊢
    rw [hcs]
    split
    · omega
    · rename_i e; rw [if_neg e] at h0; have := h.bnd u hu h0; omega
  · have := h.hb w ((hh w).1 hw).1
    rw [hcs]; omega
  · rw [hg, hg, if_pos rfl]
    split
    · exact Int.le_refl _
    · by_cases h0 : 0 ≤ D.getD u (-1)
      · exact h.mono u v hu h0 hv
      · omega

/-- An arc is looked at that leads nowhere new. -/
theorem DJ.skip {key : List Int} {held pend pend' : Nat → Prop} (h : DJ G D key held pend) {a v : Nat} (hya : G.y a = v) (hp : ∀ b, b < G.m → pend b → b = a ∨ pend' b)
    (hmax : ∀ u, u < G.n → D.getD u (-1) ≤ D.getD v (-1)) (hxn : G.x a < G.n) (hc0 : 1 ≤ G.c a) (hs : G.use a = false ∨ 0 ≤ D.getD (G.x a) (-1) ∨ (held (G.x a) ∧ key.getD (G.x a) 0 ≤ D.getD v (-1) + G.c a)) : DJ G D key held pend' := by
  refine ⟨h.len, h.klen, h.norm, h.hn, h.zero, h.just, h.hjust, h.mono, fun b hb hnb hu h0 => ?_, h.bnd, h.hb⟩
  by_cases hpb : pend b
  · rcases hp b hb hpb with rfl | h1
    · rw [hya] at h0 ⊢
      rcases hs with h1 | h1 | h1
      · rw [h1] at hu; cases hu
      · have := hmax (G.x b) hxn
        exact .inl ⟨h1, by omega⟩
      · exact .inr h1
    · exact absurd h1 hnb
  · exact h.edge b hb hpb hu h0

/-- An arc is looked at that leads to a node in a new or shorter way. -/
theorem DJ.relax (ok : G.Ok) {key : List Int} {held held' pend pend' : Nat → Prop} (h : DJ G D key held pend) {a v : Nat} (ha : a < G.m) (hya : G.y a = v) (hu : G.use a = true) (hp : ∀ b, b < G.m → pend b → b = a ∨ pend' b) (hpa : ∀ b, b < G.m → pend b → G.y b = v)
    (hmax : ∀ u, u < G.n → D.getD u (-1) ≤ D.getD v (-1)) (hv0 : 0 ≤ D.getD v (-1)) (hx : D.getD (G.x a) (-1) < 0) (hk : ¬ held (G.x a) ∨ D.getD v (-1) + G.c a < key.getD (G.x a) 0)
    (hh : ∀ w, held' w ↔ (held w ∨ w = G.x a)) : DJ G D (key.set (G.x a) (D.getD v (-1) + G.c a)) held' pend' := by
  have hxn := ok.x a ha
  have hyn : v < G.n := by rw [← hya]; exact ok.y a ha
  have c0 := ok.c0 a ha
  have c1 := ok.c1 a ha
  have hl : G.x a < key.length := by rw [h.klen]; exact hxn
  have hg := fun k => Heap.getD_set key (G.x a) k (D.getD v (-1) + G.c a) 0 hl
  have hxd : G.x a ≠ G.d := by
    intro e
    rcases h.zero with hz | ⟨_, _, hz⟩
    · rw [e, hz] at hx; omega
    · have := hz v hyn; omega
  have hbv := h.bnd v hyn hv0
  refine ⟨h.len, by simpa using h.klen, h.norm, fun w hw => ?_, ?_, h.just, fun w hw hne => ?_, fun u w hun h0 hw => ?_, fun b hb hnb hub h0 => ?_, h.bnd, fun w hw => ?_⟩
  · rw [hg]
    rcases (hh w).1 hw with h1 | h1
    · obtain ⟨a1, a2, a3⟩ := h.hn w h1
      refine ⟨a1, a2, ?_⟩
      split <;> omega
    · subst h1
      rw [if_pos rfl]
      exact ⟨hxn, hx, by omega⟩
  · rcases h.zero with hz | ⟨h1, h2, h3⟩
    · exact .inl hz
    · have := h3 v hyn; omega
  · rw [hg]
    by_cases e : G.x a = w
    · rw [if_pos e]
      exact ⟨a, ha, hu, e, by rw [hya]; exact hv0, by rw [hya]⟩
    · rw [if_neg e]
      rcases (hh w).1 hw with h1 | h1
      · exact h.hjust w h1 hne
      · exact absurd h1.symm e
  · rw [hg]
    have := hmax u hun
    by_cases e : G.x a = w
    · rw [if_pos e]; omega
    · rw [if_neg e]
      rcases (hh w).1 hw with h1 | h1
      · exact h.mono u w hun h0 h1
      · exact absurd h1.symm e
  · rw [hg]
    by_cases hpb : pend b
    · rcases hp b hb hpb with rfl | h1
      · right
        rw [if_pos rfl, hya]
        exact ⟨(hh _).2 (.inr rfl), Int.le_refl _⟩
      · exact absurd h1 hnb
    · rcases h.edge b hb hpb hub h0 with h1 | ⟨h1, h2⟩
      · exact .inl h1
      · right
        refine ⟨(hh _).2 (.inl h1), ?_⟩
        by_cases e : G.x a = G.x b
        · rw [if_pos e]
          rcases hk with hk | hk
          · rw [e] at hk; exact absurd h1 hk
          · rw [e] at hk; omega
        · rw [if_neg e]; exact h2
  · rw [hg]
    by_cases e : G.x a = w
    · rw [if_pos e]; omega
    · rw [if_neg e]
      rcases (hh w).1 hw with h1 | h1
      · exact h.hb w h1
      · exact absurd h1.symm e

theorem DJ.isDist (ok : G.Ok) {key : List Int} {held pend : Nat → Prop} (h : DJ G D key held pend) (hno : ∀ v, v < G.n → ¬ held v) (hp : ∀ a, a < G.m → ¬ pend a) : IsDist G D := by
  refine ⟨h.len, h.norm, fun v hv => ?_, ?_, fun a ha hu h0 => ?_, h.just⟩
  · by_cases h0 : 0 ≤ D.getD v (-1)
    · have h1 := h.bnd v hv h0
      have h2 := cnt_le D
      have h3 := h.len
      have h4 := ok.few
      omega
    · omega
  · rcases h.zero with hz | ⟨h1, _, _⟩
    · exact hz
    · exact absurd h1 (hno _ ok.d)
  · rcases h.edge a ha (hp a ha) hu h0 with h1 | ⟨h1, _⟩
    · exact h1
    · exact absurd h1 (hno _ (ok.x a ha))

/-- The distances. -/
noncomputable def dist (G : Gr) : List Int := open Classical in if h : ∃ D, IsDist G D then h.choose else []
theorem dist_is (ok : G.Ok) : IsDist G (dist G) := by
  unfold dist
  rw [dif_pos (exists_dist ok)]
  exact (exists_dist ok).choose_spec
theorem IsDist.eq (ok : G.Ok) (h : IsDist G D) : D = dist G := h.unique ok (dist_is ok)
end SP
end Go.V
/- Sorting, in plain Lean: what insertion sort makes; lists in a strict order are determined by their elements. -/
set_option linter.unusedVariables false
set_option linter.unusedSimpArgs false
namespace Go.V
namespace SP

def insAt (lt : Int → Int → Bool) (pre : List Int) (x : Int) : Nat → List Int
  | 0 => x :: pre
  | j + 1 => if lt x (pre.getD j 0) = true then insAt lt pre x j else pre.take (j + 1) ++ x :: pre.drop (j + 1)
def isort (lt : Int → Int → Bool) (l : List Int) : List Int := l.foldl (fun pre x => insAt lt pre x pre.length) []

theorem insAt_perm (lt : Int → Int → Bool) (pre : List Int) (x : Int) : ∀ j, (insAt lt pre x j).Perm (x :: pre)
  | 0 => .refl _
  | j + 1 => by
    unfold insAt
    split
    · exact insAt_perm lt pre x j
    · have := List.perm_middle (a := x) (l₁ := pre.take (j + 1)) (l₂ := pre.drop (j + 1))
      rw [List.take_append_drop] at this
      exact this
theorem insAt_length (lt : Int → Int → Bool) (pre : List Int) (x : Int) (j : Nat) : (insAt lt pre x j).length = pre.length + 1 := by
  rw [(insAt_perm lt pre x j).length_eq]; rfl
theorem isort_snoc (lt : Int → Int → Bool) (l : List Int) (x : Int) : isort lt (l ++ [x]) = insAt lt (isort lt l) x (isort lt l).length := by
  simp [isort]
theorem isort_perm (lt : Int → Int → Bool) : ∀ n (l : List Int), l.length = n → (isort lt l).Perm l := by
  intro n
  induction n with
  | zero => intro l h; rw [List.eq_nil_of_length_eq_zero h]; exact .refl _
  | succ n ih =>
    intro l h
    have hne : l ≠ [] := fun e => by rw [e] at h; simp at h
    rw [← List.dropLast_concat_getLast hne, isort_snoc]
    refine (insAt_perm lt _ _ _).trans ?_
    have := ih l.dropLast (by simp; omega)
    exact (List.Perm.cons _ this).trans (List.perm_append_singleton _ _).symm

/-- Greater numbers first; among equals the lesser node first. -/
def Rk (f : Int → Int) (a b : Int) : Prop := f b < f a ∨ (f a = f b ∧ a < b)
theorem Rk.trans {f : Int → Int} {a b c : Int} (h : Rk f a b) (h' : Rk f b c) : Rk f a c := by unfold Rk at *; omega
theorem Rk.irrefl {f : Int → Int} {a : Int} : ¬ Rk f a a := by unfold Rk; omega

theorem insAt_sorted (f : Int → Int) (lt : Int → Int → Bool) (pre : List Int) (x : Int) (hlt : ∀ y ∈ pre, (lt x y = true ↔ f y < f x)) (hs : pre.Pairwise (Rk f)) (hx : ∀ y ∈ pre, y < x) :
    ∀ j, j ≤ pre.length → (∀ y ∈ pre.drop j, f y < f x) → (insAt lt pre x j).Pairwise (Rk f)
  | 0, _, hd => by
    unfold insAt
    exact List.pairwise_cons.2 ⟨fun y hy => .inl (hd y (by simpa using hy)), hs⟩
  | j + 1, hj, hd => by
    have hjl : j < pre.length := by omega
    have hg : pre.getD j 0 = pre[j] := by simp [List.getD, hjl]
    unfold insAt
    split
    · rename_i h
      refine insAt_sorted f lt pre x hlt hs hx j (by omega) fun y hy => ?_
      rw [List.drop_eq_getElem_cons hjl] at hy
      rcases List.mem_cons.1 hy with rfl | hy
      · rw [hg] at h; exact (hlt _ (List.getElem_mem hjl)).1 h
      · exact hd y hy
    · rename_i h
      rw [hg] at h
      have h' : ¬ f pre[j] < f x := fun hh => h ((hlt _ (List.getElem_mem hjl)).2 hh)
      have hs2 := hs
      rw [← List.take_append_drop (j + 1) pre] at hs2
      obtain ⟨p1, p2, p3⟩ := List.pairwise_append.1 hs2
      have htk : ∀ y ∈ pre.take (j + 1), f x ≤ f y := fun y hy => by
        rw [List.take_succ_eq_append_getElem hjl] at hy p1
        rcases List.mem_append.1 hy with hy | hy
        · have := (List.pairwise_append.1 p1).2.2 y hy pre[j] (by simp)
          unfold Rk at this; omega
        · simp at hy; subst hy; omega
      refine List.pairwise_append.2 ⟨p1, List.pairwise_cons.2 ⟨fun y hy => .inl (hd y hy), p2⟩, fun y hy z hz => ?_⟩
      rcases List.mem_cons.1 hz with rfl | hz
      · have h1 := htk y hy
        have h2 := hx y (List.mem_of_mem_take hy)
        unfold Rk; omega
      · exact p3 y hy z hz

theorem isort_sorted (f : Int → Int) (lt : Int → Int → Bool) : ∀ n (l : List Int), l.length = n → (∀ x ∈ l, ∀ y ∈ l, (lt x y = true ↔ f y < f x)) → l.Pairwise (· < ·) → (isort lt l).Pairwise (Rk f) := by
  intro n
  induction n with
  | zero => intro l h _ _; rw [List.eq_nil_of_length_eq_zero h]; exact .nil
  | succ n ih =>
    intro l h hlt hs
    have hne : l ≠ [] := fun e => by rw [e] at h; simp at h
    have e := List.dropLast_concat_getLast hne
    have hs2 := hs
    rw [← e] at hs2
    obtain ⟨p1, _, p3⟩ := List.pairwise_append.1 hs2
    have hm : ∀ y ∈ l.dropLast, y ∈ l := fun y hy => List.dropLast_subset _ hy
    have hperm := isort_perm lt n l.dropLast (by simp; omega)
    rw [← e, isort_snoc]
    refine insAt_sorted f lt _ _ (fun y hy => hlt _ (List.getLast_mem hne) y (hm y (hperm.mem_iff.1 hy))) (ih l.dropLast (by simp; omega) (fun x hx y hy => hlt x (hm x hx) y (hm y hy)) p1) (fun y hy => p3 y (hperm.mem_iff.1 hy) _ (by simp)) _ (Nat.le_refl _) (fun y hy => ?_)
    rw [List.drop_length] at hy; simp at hy

/-- Lists in a strict order are determined by their elements. -/
theorem sorted_unique {R : Int → Int → Prop} (hi : ∀ a, ¬ R a a) (ht : ∀ a b c, R a b → R b c → R a c) : ∀ (l l' : List Int), l.Pairwise R → l'.Pairwise R → (∀ x, x ∈ l ↔ x ∈ l') → l = l'
  | [], [], _, _, _ => rfl
  | [], b :: l', _, _, h => by have := (h b).2 (by simp); simp at this
  | a :: l, [], _, _, h => by have := (h a).1 (by simp); simp at this
  | a :: l, b :: l', h1, h2, h => by
    obtain ⟨a1, a2⟩ := List.pairwise_cons.1 h1
    obtain ⟨b1, b2⟩ := List.pairwise_cons.1 h2
    have hab : a = b := by
      rcases List.mem_cons.1 ((h a).1 (by simp)) with e | e
      · exact e
      · rcases List.mem_cons.1 ((h b).2 (by simp)) with e' | e'
        · exact e'.symm
        · exact absurd (ht _ _ _ (a1 b e') (b1 a e)) (hi a)
    subst hab
    rw [sorted_unique hi ht l l' a2 b2 fun x => ?_]
    constructor
    · intro hx
      rcases List.mem_cons.1 ((h x).1 (by simp [hx])) with e | e
      · subst e; exact absurd (a1 x hx) (hi x)
      · exact e
    · intro hx
      rcases List.mem_cons.1 ((h x).2 (by simp [hx])) with e | e
      · subst e; exact absurd (b1 x hx) (hi x)
      · exact e
end SP
end Go.V
/- Layer 11: the graph of a topology. -/
set_option linter.unusedVariables false
set_option linter.unusedSimpArgs false
namespace Go.V
open Go.RowKit Go.Proofs

theorem ints_get' {l : List Int} {j : Nat} (h : j < l.length) : (ints l).getD j .undef = .int .i64 (l.getD j (-1)) := by simp [ints, List.getD, h]
theorem getD_01 {l : List Int} {j : Nat} (h : j < l.length) : l.getD j 0 = l.getD j (-1) := by simp [List.getD, h]

/-- The node that an arc reaches in a search, and the one by way of which. -/
def Topo.X (t : Topo) (fwd : Bool) (a : Int) : Int := if fwd then t.head a else t.tail a
def Topo.Y (t : Topo) (fwd : Bool) (a : Int) : Int := if fwd then t.tail a else t.head a
def useB (t : Topo) (down : List Bool) (d : Int) (fwd : Bool) (a : Int) : Bool := upB down a && (decide (t.Y fwd a = d) || !t.over (t.Y fwd a))
def Topo.gr (t : Topo) (down : List Bool) (d : Int) (fwd : Bool) : SP.Gr where
  n := t.n.toNat
  m := 2 * t.ls.length
  d := d.toNat
  x := fun a => (t.X fwd a).toNat
  y := fun a => (t.Y fwd a).toNat
  c := fun a => t.cost a
  use := fun a => useB t down d fwd a
theorem Topo.X_in {t : Topo} (ht : t.ok = true) {a : Int} (ha : t.arc a) (fwd : Bool) : 0 ≤ t.X fwd a ∧ t.X fwd a < t.n := by
  unfold Topo.X; split; exact t.head_in ht ha; exact t.tail_in ht ha
theorem Topo.Y_in {t : Topo} (ht : t.ok = true) {a : Int} (ha : t.arc a) (fwd : Bool) : 0 ≤ t.Y fwd a ∧ t.Y fwd a < t.n := by
  unfold Topo.Y; split; exact t.tail_in ht ha; exact t.head_in ht ha
theorem Topo.XY_ne {t : Topo} (ht : t.ok = true) {a : Int} (ha : t.arc a) (fwd : Bool) : t.X fwd a ≠ t.Y fwd a := by
  have := t.tail_ne ht ha
  unfold Topo.X Topo.Y; split; exact Ne.symm this; exact this
theorem Topo.gr_ok {t : Topo} (ht : t.ok = true) (down : List Bool) {d : Int} (h0 : 0 ≤ d) (h1 : d < t.n) (fwd : Bool) : (t.gr down d fwd).Ok := by
  have hf := Topo.frame_n (Topo.ok_frame ht)
  have ha : ∀ a : Nat, a < 2 * t.ls.length → t.arc a := fun a h => ⟨by omega, by omega⟩
  refine ⟨by simp only [Topo.gr]; omega, by simp only [Topo.gr]; omega, fun a h => ?_, fun a h => ?_, fun a h => ?_, fun a h => ?_, fun a h => ?_⟩
  · have := t.X_in ht (ha a h) fwd; simp only [Topo.gr]; omega
  · have := t.Y_in ht (ha a h) fwd; simp only [Topo.gr]; omega
  · have h1 := t.XY_ne ht (ha a h) fwd
    have h2 := t.X_in ht (ha a h) fwd
    have h3 := t.Y_in ht (ha a h) fwd
    simp only [Topo.gr]; omega
  · exact (t.cost_in ht (ha a h)).1
  · exact (t.cost_in ht (ha a h)).2

noncomputable def distL (t : Topo) (down : List Bool) (d : Int) (fwd : Bool) : List Int := SP.dist (t.gr down d fwd)
theorem distL_is {t : Topo} (ht : t.ok = true) (down : List Bool) {d : Int} (h0 : 0 ≤ d) (h1 : d < t.n) (fwd : Bool) : SP.IsDist (t.gr down d fwd) (distL t down d fwd) :=
  SP.dist_is (Topo.gr_ok ht down h0 h1 fwd)
theorem isDist_ok {t : Topo} {down : List Bool} {d : Int} {fwd : Bool} {D : List Int} (ht : t.ok = true) (h : SP.IsDist (t.gr down d fwd) D) : distOk t D := by
  have hf := Topo.frame_n (Topo.ok_frame ht)
  have hl := h.len
  simp only [Topo.gr] at hl
  refine ⟨by omega, fun x hx => ?_⟩
  obtain ⟨j, hj, rfl⟩ := List.getElem_of_mem hx
  have e : D[j] = D.getD j (-1) := by simp [List.getD, hj]
  have h1 := h.norm j (by simp only [Topo.gr]; omega)
  have h2 := h.bnd j (by simp only [Topo.gr]; omega)
  rw [e]; omega

/-- What a search answers. -/
noncomputable def distR (t : Topo) (down : List Bool) (n : Int) (fwd : Bool) : PV :=
  if maskOk t down = true then if 0 ≤ n ∧ n < t.n then .tup [.slc 1 (ints (distL t down n fwd)), .int .i64 0] else .tup [.slc 1 [], .int .i64 2] else .tup [.slc 1 [], .int .i64 1]
theorem maskOk_ok {t : Topo} {down : List Bool} (h : maskOk t down = true) : t.ok = true := by simp [maskOk] at h; exact h.1
theorem maskOk_len {t : Topo} {down : List Bool} (h : maskOk t down = true) : down.length = 0 ∨ down.length = 2 * t.ls.length := by simp [maskOk] at h; simpa using h.2
end Go.V
/- Layer 9: the arcs of a node. -/
set_option linter.unusedVariables false
set_option linter.unusedSimpArgs false
namespace Go.V
open Go.RowKit Go.Proofs
attribute [local irreducible] wp seqK lexK opK callK upd sto Good

theorem ints_take_all (l : List Int) : (ints l).take l.length = ints l := List.take_of_length_le (by rw [ints_length]; exact Nat.le_refl _)
theorem ints_snoc (l : List Int) (x : Int) : ints l ++ [.int .i64 x] = ints (l ++ [x]) := by rw [ints_append]; rfl
theorem ints_one (x : Int) : [PV.int .i64 x] = ints [x] := rfl
theorem rep1' {α : Type} (a : α) : List.replicate 1 a = [a] := rfl
theorem no_room (n : Nat) : ¬ n + 1 ≤ n := by omega
theorem no_room0 (n : Nat) : ¬ 0 + n + 1 ≤ n := by omega
theorem osl_nil (id : Nat) : osl id [] = .nilS := rfl
theorem osl_some {id : Nat} {l : List Int} (h : l ≠ []) : osl id l = .sref id 1 0 l.length false := if_neg h
theorem oslG_nil (id T : Nat) : oslG id T [] = [] := rfl
theorem oslG_some {id T : Nat} {l : List Int} (h : l ≠ []) : oslG id T l = [(id, .row T 1 (ints l))] := if_neg h
theorem osl_cons (id : Nat) (x : Int) (l : List Int) : osl id (x :: l) = .sref id 1 0 (l.length + 1) false := rfl
theorem oslG_cons (id T : Nat) (x : Int) (l : List Int) : oslG id T (x :: l) = [(id, .row T 1 (ints (x :: l)))] := rfl
theorem osl_snoc (id : Nat) (l : List Int) (x : Int) : osl id (l ++ [x]) = .sref id 1 0 (l.length + 1) false := by rw [osl_some (by simp)]; simp
theorem oslG_snoc (id T : Nat) (l : List Int) (x : Int) : oslG id T (l ++ [x]) = [(id, .row T 1 (ints (l ++ [x])))] := oslG_some (by simp)

/-- The arc over a link that begins, or ends, at a node. -/
def arcF (t : Topo) (n : Int) (out : Bool) (i : Nat) : List Int :=
  if (t.ls.getD i default).a = n then [if out then 2 * (i : Int) else 2 * (i : Int) + 1]
  else if (t.ls.getD i default).b = n then [if out then 2 * (i : Int) + 1 else 2 * (i : Int)] else []
def arcsK (t : Topo) (n : Int) (out : Bool) (k : Nat) : List Int := (List.range k).flatMap (arcF t n out)
def arcsL (t : Topo) (n : Int) (out : Bool) : List Int := arcsK t n out t.ls.length
theorem arcsK_succ (t : Topo) (n : Int) (out : Bool) (k : Nat) : arcsK t n out (k + 1) = arcsK t n out k ++ arcF t n out k := by
  simp [arcsK, List.range_succ]
theorem arcsK_length (t : Topo) (n : Int) (out : Bool) (k : Nat) : (arcsK t n out k).length ≤ k := by
  induction k with
  | zero => simp [arcsK]
  | succ k ih =>
    rw [arcsK_succ, List.length_append]
    have : (arcF t n out k).length ≤ 1 := by unfold arcF; split <;> (try split) <;> simp
    omega

set_option maxHeartbeats 2000000 in
theorem tarcs_good (t : Topo) (n : Int) (out : Bool) (ht : t.ok = true) : Good Try.prog 83 [pvT t, .int .i64 n, .bool out] (.slc 1 (ints (arcsL t n out))) := by
  refine v_enter ttok mixed Try.func83 (by kernel_rfl) rfl Try.ntmps83 Try.results83 (by simp) ?_; rw [fresh_sto]; simp only [argEnv, List.range, List.range.loop, List.length_cons, List.length_nil, List.zip_cons_cons, List.zip_nil_left]
  have hf := Topo.frame_n (Topo.ok_frame ht)
  obtain ⟨h1, h2, h3, h4⟩ := hf
  have hv := valid_good t
  rw [ht] at hv
  (repeat (first | refine Stp.go ?_ | refine v_region ?_ | refine v_regionD ?_ | refine v_blocky (by decide) ?_ | ((first | refine v_o rfl ?_ ?_ | refine v_oD rfl ?_ ?_); (focus (simp only [pvT, ite_bool, List.length_map, go_sem]; done)); simp only [Env.put]) | ((first | refine v_u rfl fun K hK => ?_ | refine v_g rfl fun K hK => ?_ | refine v_uD rfl fun K hK => ?_ | refine v_gD rfl fun K hK => ?_); simp only [pvT, ite_bool, List.length_map, go_sem]) | ((refine callK_pure (fun hc => hv) rfl ?_; simp only [upds, eq_self, true_or, true_and])) | refine v_end ?_ | refine v_endD (by kernel_rfl) ?_ | (refine hK _ _ ?_; clear hK K) | refine ⟨by (first | trivial | assumption | omega | (intros; first | assumption | omega)), ?_⟩ | (apply v_condb; (focus (simp only [pvT, ite_bool, List.length_map, go_sem]; first | exact pvt | exact pvf)); simp only [cond_true, cond_false]) | fail))
  refine v_loop [1, 2, 7, 14, 15, 16] (fun k : Nat => k ≤ t.ls.length) (fun k => t.ls.length - k)
    (fun k => [.int .i64 n, .bool out, osl 101 (arcsK t n out k), .slc 7 (t.ls.map pvL), .int .i64 t.ls.length, .int .i64 k]) (fun k => oslG 101 3 (arcsK t n out k)) 0 (Nat.zero_le _) ?_ ?_
  · exact (fits_sto _ id (by simp [Env.get, PV.renL, PV.ren , pvT, arcsK, osl_nil, oslG_nil]) (by simp [PV.refsL, PV.refs , pvT, arcsK, osl_nil, oslG_nil]) (by simp [SC.live, SC.ren, SC.refs, PV.renL, PV.ren, PV.refsL, PV.refs, sto_cons, sto_nil , pvT, arcsK, osl_nil, oslG_nil]) (by simp [arcsK, oslG_nil]))
  · intro k hk
    simp only [List.zip_cons_cons, List.zip_nil_left]
    have hlen := arcsK_length t n out k
    have hsucc := arcsK_succ t n out k
    have e0 : (t.ls.map pvL).getD k .undef = pvL (t.ls.getD k default) ∨ ¬ k < t.ls.length := by
      by_cases h : k < t.ls.length
      · exact .inl (links_get h)
      · exact .inr h
    by_cases hc : k < t.ls.length
    · have w1 : (k : Int) < t.ls.length := by omega
      have w2 : (0 : Int) ≤ k := by omega
      have w3 : IntKind.i64.wrap ((k : Int) + 1) = ((k + 1 : Nat) : Int) := by rw [wrap_i64 (by omega) (by omega)]; omega
      have w4 : IntKind.i64.wrap (2 * (k : Int)) = 2 * (k : Int) := wrap_i64 (by omega) (by omega)
      have w5 : IntKind.i64.wrap (2 * (k : Int) + 1) = 2 * (k : Int) + 1 := wrap_i64 (by omega) (by omega)
      have e := links_get hc
      clear e0
      unfold arcF at hsucc
      generalize hl : t.ls.getD k default = lk at *
      have hok := Lnk.ok_iff (t.ok_link ht (l := lk) (by rw [← hl]; simp [List.getD, hc]))
      generalize hL : arcsK t n out k = l at *
      have f1 : (l.length + 1) * 8 ≤ 140737488355328 := by omega
      have f2 : l.length + 1 ≤ 140737488355328 := by omega
      have f3 := ints_take_all l
      have f4 := no_room l.length
      have f5 : l.length ≤ l.length := Nat.le_refl _
      by_cases ca : lk.a = n
      · rw [if_pos ca] at hsucc
        cases out
        · simp only [if_true, if_false, Bool.false_eq_true] at hsucc
          by_cases hnil : l = []
          · subst hnil
            rw [osl_nil, oslG_nil]
            (repeat (first | refine Stp.go ?_ | refine v_region ?_ | refine v_regionD ?_ | refine v_blocky (by decide) ?_ | ((first | refine v_o rfl ?_ ?_ | refine v_oD rfl ?_ ?_); (focus (simp only [pvT, pvL, ite_bool, List.length_map, ints_length, w1, w2, w3, w4, w5, e, ca, rep1', go_sem]; done)); simp only [Env.put]) | ((first | refine v_u rfl fun K hK => ?_ | refine v_g rfl fun K hK => ?_ | refine v_uD rfl fun K hK => ?_ | refine v_gD rfl fun K hK => ?_); simp only [pvT, pvL, ite_bool, List.length_map, ints_length, w1, w2, w3, w4, w5, e, ca, rep1', go_sem]) | (fail) | refine v_end ?_ | refine v_endD (by kernel_rfl) ?_ | (refine hK _ _ ?_; clear hK K) | refine ⟨by (first | trivial | assumption | omega | (intros; first | assumption | omega)), ?_⟩ | (apply v_condb; (focus (simp only [pvT, pvL, ite_bool, List.length_map, ints_length, w1, w2, w3, w4, w5, e, ca, rep1', go_sem]; first | exact pvt | exact pvf)); simp only [cond_true, cond_false]) | fail))
            refine v_round (k + 1) hc (by omega) (fits_sto _ (fun x => if x = 101 then 11005 else x) (by simp [Env.get, PV.renL, PV.ren , hsucc, osl_cons, oslG_cons, ints]) (by simp [PV.refsL, PV.refs , hsucc, osl_cons, oslG_cons, ints]) (by simp [SC.live, SC.ren, SC.refs, PV.renL, PV.ren, PV.refsL, PV.refs, sto_cons, sto_nil , hsucc, osl_cons, oslG_cons, ints]) (by simp [hsucc, oslG_cons]))
          · rw [osl_some hnil, oslG_some hnil]
            (repeat (first | refine Stp.go ?_ | refine v_region ?_ | refine v_regionD ?_ | refine v_blocky (by decide) ?_ | ((first | refine v_o rfl ?_ ?_ | refine v_oD rfl ?_ ?_); (focus (simp only [pvT, pvL, ite_bool, List.length_map, ints_length, w1, w2, w3, w4, w5, e, ca, rep1', f1, f2, f3, f4, f5, go_sem]; done)); simp only [Env.put]) | ((first | refine v_u rfl fun K hK => ?_ | refine v_g rfl fun K hK => ?_ | refine v_uD rfl fun K hK => ?_ | refine v_gD rfl fun K hK => ?_); simp only [pvT, pvL, ite_bool, List.length_map, ints_length, w1, w2, w3, w4, w5, e, ca, rep1', f1, f2, f3, f4, f5, go_sem]) | (fail) | refine v_end ?_ | refine v_endD (by kernel_rfl) ?_ | (refine hK _ _ ?_; clear hK K) | refine ⟨by (first | trivial | assumption | omega | (intros; first | assumption | omega)), ?_⟩ | (apply v_condb; (focus (simp only [pvT, pvL, ite_bool, List.length_map, ints_length, w1, w2, w3, w4, w5, e, ca, rep1', f1, f2, f3, f4, f5, go_sem]; first | exact pvt | exact pvf)); simp only [cond_true, cond_false]) | fail))
            refine v_round (k + 1) hc (by omega) (fits_sto _ (fun x => if x = 101 then 11005 else x) (by simp [Env.get, PV.renL, PV.ren , hsucc, osl_snoc, oslG_snoc, ints_snoc, renL_ints, refsL_ints]) (by simp [PV.refsL, PV.refs , hsucc, osl_snoc, oslG_snoc, ints_snoc, renL_ints, refsL_ints]) (by simp [SC.live, SC.ren, SC.refs, PV.renL, PV.ren, PV.refsL, PV.refs, sto_cons, sto_nil , hsucc, osl_snoc, oslG_snoc, ints_snoc, renL_ints, refsL_ints]) (by simp [hsucc, oslG_snoc]))
        · simp only [if_true, if_false, Bool.false_eq_true] at hsucc
          by_cases hnil : l = []
          · subst hnil
            rw [osl_nil, oslG_nil]
            (repeat (first | refine Stp.go ?_ | refine v_region ?_ | refine v_regionD ?_ | refine v_blocky (by decide) ?_ | ((first | refine v_o rfl ?_ ?_ | refine v_oD rfl ?_ ?_); (focus (simp only [pvT, pvL, ite_bool, List.length_map, ints_length, w1, w2, w3, w4, w5, e, ca, rep1', go_sem]; done)); simp only [Env.put]) | ((first | refine v_u rfl fun K hK => ?_ | refine v_g rfl fun K hK => ?_ | refine v_uD rfl fun K hK => ?_ | refine v_gD rfl fun K hK => ?_); simp only [pvT, pvL, ite_bool, List.length_map, ints_length, w1, w2, w3, w4, w5, e, ca, rep1', go_sem]) | (fail) | refine v_end ?_ | refine v_endD (by kernel_rfl) ?_ | (refine hK _ _ ?_; clear hK K) | refine ⟨by (first | trivial | assumption | omega | (intros; first | assumption | omega)), ?_⟩ | (apply v_condb; (focus (simp only [pvT, pvL, ite_bool, List.length_map, ints_length, w1, w2, w3, w4, w5, e, ca, rep1', go_sem]; first | exact pvt | exact pvf)); simp only [cond_true, cond_false]) | fail))
            refine v_round (k + 1) hc (by omega) (fits_sto _ (fun x => if x = 101 then 9004 else x) (by simp [Env.get, PV.renL, PV.ren , hsucc, osl_cons, oslG_cons, ints]) (by simp [PV.refsL, PV.refs , hsucc, osl_cons, oslG_cons, ints]) (by simp [SC.live, SC.ren, SC.refs, PV.renL, PV.ren, PV.refsL, PV.refs, sto_cons, sto_nil , hsucc, osl_cons, oslG_cons, ints]) (by simp [hsucc, oslG_cons]))
          · rw [osl_some hnil, oslG_some hnil]
            (repeat (first | refine Stp.go ?_ | refine v_region ?_ | refine v_regionD ?_ | refine v_blocky (by decide) ?_ | ((first | refine v_o rfl ?_ ?_ | refine v_oD rfl ?_ ?_); (focus (simp only [pvT, pvL, ite_bool, List.length_map, ints_length, w1, w2, w3, w4, w5, e, ca, rep1', f1, f2, f3, f4, f5, go_sem]; done)); simp only [Env.put]) | ((first | refine v_u rfl fun K hK => ?_ | refine v_g rfl fun K hK => ?_ | refine v_uD rfl fun K hK => ?_ | refine v_gD rfl fun K hK => ?_); simp only [pvT, pvL, ite_bool, List.length_map, ints_length, w1, w2, w3, w4, w5, e, ca, rep1', f1, f2, f3, f4, f5, go_sem]) | (fail) | refine v_end ?_ | refine v_endD (by kernel_rfl) ?_ | (refine hK _ _ ?_; clear hK K) | refine ⟨by (first | trivial | assumption | omega | (intros; first | assumption | omega)), ?_⟩ | (apply v_condb; (focus (simp only [pvT, pvL, ite_bool, List.length_map, ints_length, w1, w2, w3, w4, w5, e, ca, rep1', f1, f2, f3, f4, f5, go_sem]; first | exact pvt | exact pvf)); simp only [cond_true, cond_false]) | fail))
            refine v_round (k + 1) hc (by omega) (fits_sto _ (fun x => if x = 101 then 9004 else x) (by simp [Env.get, PV.renL, PV.ren , hsucc, osl_snoc, oslG_snoc, ints_snoc, renL_ints, refsL_ints]) (by simp [PV.refsL, PV.refs , hsucc, osl_snoc, oslG_snoc, ints_snoc, renL_ints, refsL_ints]) (by simp [SC.live, SC.ren, SC.refs, PV.renL, PV.ren, PV.refsL, PV.refs, sto_cons, sto_nil , hsucc, osl_snoc, oslG_snoc, ints_snoc, renL_ints, refsL_ints]) (by simp [hsucc, oslG_snoc]))
      · rw [if_neg ca] at hsucc
        by_cases cb : lk.b = n
        · rw [if_pos cb] at hsucc
          cases out
          · simp only [if_true, if_false, Bool.false_eq_true] at hsucc
            by_cases hnil : l = []
            · subst hnil
              rw [osl_nil, oslG_nil]
              (repeat (first | refine Stp.go ?_ | refine v_region ?_ | refine v_regionD ?_ | refine v_blocky (by decide) ?_ | ((first | refine v_o rfl ?_ ?_ | refine v_oD rfl ?_ ?_); (focus (simp only [pvT, pvL, ite_bool, List.length_map, ints_length, w1, w2, w3, w4, w5, e, ca, cb, rep1', go_sem]; done)); simp only [Env.put]) | ((first | refine v_u rfl fun K hK => ?_ | refine v_g rfl fun K hK => ?_ | refine v_uD rfl fun K hK => ?_ | refine v_gD rfl fun K hK => ?_); simp only [pvT, pvL, ite_bool, List.length_map, ints_length, w1, w2, w3, w4, w5, e, ca, cb, rep1', go_sem]) | (fail) | refine v_end ?_ | refine v_endD (by kernel_rfl) ?_ | (refine hK _ _ ?_; clear hK K) | refine ⟨by (first | trivial | assumption | omega | (intros; first | assumption | omega)), ?_⟩ | (apply v_condb; (focus (simp only [pvT, pvL, ite_bool, List.length_map, ints_length, w1, w2, w3, w4, w5, e, ca, cb, rep1', go_sem]; first | exact pvt | exact pvf)); simp only [cond_true, cond_false]) | fail))
              refine v_round (k + 1) hc (by omega) (fits_sto _ (fun x => if x = 101 then 9004 else x) (by simp [Env.get, PV.renL, PV.ren , hsucc, osl_cons, oslG_cons, ints]) (by simp [PV.refsL, PV.refs , hsucc, osl_cons, oslG_cons, ints]) (by simp [SC.live, SC.ren, SC.refs, PV.renL, PV.ren, PV.refsL, PV.refs, sto_cons, sto_nil , hsucc, osl_cons, oslG_cons, ints]) (by simp [hsucc, oslG_cons]))
            · rw [osl_some hnil, oslG_some hnil]
              (repeat (first | refine Stp.go ?_ | refine v_region ?_ | refine v_regionD ?_ | refine v_blocky (by decide) ?_ | ((first | refine v_o rfl ?_ ?_ | refine v_oD rfl ?_ ?_); (focus (simp only [pvT, pvL, ite_bool, List.length_map, ints_length, w1, w2, w3, w4, w5, e, ca, cb, rep1', f1, f2, f3, f4, f5, go_sem]; done)); simp only [Env.put]) | ((first | refine v_u rfl fun K hK => ?_ | refine v_g rfl fun K hK => ?_ | refine v_uD rfl fun K hK => ?_ | refine v_gD rfl fun K hK => ?_); simp only [pvT, pvL, ite_bool, List.length_map, ints_length, w1, w2, w3, w4, w5, e, ca, cb, rep1', f1, f2, f3, f4, f5, go_sem]) | (fail) | refine v_end ?_ | refine v_endD (by kernel_rfl) ?_ | (refine hK _ _ ?_; clear hK K) | refine ⟨by (first | trivial | assumption | omega | (intros; first | assumption | omega)), ?_⟩ | (apply v_condb; (focus (simp only [pvT, pvL, ite_bool, List.length_map, ints_length, w1, w2, w3, w4, w5, e, ca, cb, rep1', f1, f2, f3, f4, f5, go_sem]; first | exact pvt | exact pvf)); simp only [cond_true, cond_false]) | fail))
              refine v_round (k + 1) hc (by omega) (fits_sto _ (fun x => if x = 101 then 9004 else x) (by simp [Env.get, PV.renL, PV.ren , hsucc, osl_snoc, oslG_snoc, ints_snoc, renL_ints, refsL_ints]) (by simp [PV.refsL, PV.refs , hsucc, osl_snoc, oslG_snoc, ints_snoc, renL_ints, refsL_ints]) (by simp [SC.live, SC.ren, SC.refs, PV.renL, PV.ren, PV.refsL, PV.refs, sto_cons, sto_nil , hsucc, osl_snoc, oslG_snoc, ints_snoc, renL_ints, refsL_ints]) (by simp [hsucc, oslG_snoc]))
          · simp only [if_true, if_false, Bool.false_eq_true] at hsucc
            by_cases hnil : l = []
            · subst hnil
              rw [osl_nil, oslG_nil]
              (repeat (first | refine Stp.go ?_ | refine v_region ?_ | refine v_regionD ?_ | refine v_blocky (by decide) ?_ | ((first | refine v_o rfl ?_ ?_ | refine v_oD rfl ?_ ?_); (focus (simp only [pvT, pvL, ite_bool, List.length_map, ints_length, w1, w2, w3, w4, w5, e, ca, cb, rep1', go_sem]; done)); simp only [Env.put]) | ((first | refine v_u rfl fun K hK => ?_ | refine v_g rfl fun K hK => ?_ | refine v_uD rfl fun K hK => ?_ | refine v_gD rfl fun K hK => ?_); simp only [pvT, pvL, ite_bool, List.length_map, ints_length, w1, w2, w3, w4, w5, e, ca, cb, rep1', go_sem]) | (fail) | refine v_end ?_ | refine v_endD (by kernel_rfl) ?_ | (refine hK _ _ ?_; clear hK K) | refine ⟨by (first | trivial | assumption | omega | (intros; first | assumption | omega)), ?_⟩ | (apply v_condb; (focus (simp only [pvT, pvL, ite_bool, List.length_map, ints_length, w1, w2, w3, w4, w5, e, ca, cb, rep1', go_sem]; first | exact pvt | exact pvf)); simp only [cond_true, cond_false]) | fail))
              refine v_round (k + 1) hc (by omega) (fits_sto _ (fun x => if x = 101 then 11005 else x) (by simp [Env.get, PV.renL, PV.ren , hsucc, osl_cons, oslG_cons, ints]) (by simp [PV.refsL, PV.refs , hsucc, osl_cons, oslG_cons, ints]) (by simp [SC.live, SC.ren, SC.refs, PV.renL, PV.ren, PV.refsL, PV.refs, sto_cons, sto_nil , hsucc, osl_cons, oslG_cons, ints]) (by simp [hsucc, oslG_cons]))
            · rw [osl_some hnil, oslG_some hnil]
              (repeat (first | refine Stp.go ?_ | refine v_region ?_ | refine v_regionD ?_ | refine v_blocky (by decide) ?_ | ((first | refine v_o rfl ?_ ?_ | refine v_oD rfl ?_ ?_); (focus (simp only [pvT, pvL, ite_bool, List.length_map, ints_length, w1, w2, w3, w4, w5, e, ca, cb, rep1', f1, f2, f3, f4, f5, go_sem]; done)); simp only [Env.put]) | ((first | refine v_u rfl fun K hK => ?_ | refine v_g rfl fun K hK => ?_ | refine v_uD rfl fun K hK => ?_ | refine v_gD rfl fun K hK => ?_); simp only [pvT, pvL, ite_bool, List.length_map, ints_length, w1, w2, w3, w4, w5, e, ca, cb, rep1', f1, f2, f3, f4, f5, go_sem]) | (fail) | refine v_end ?_ | refine v_endD (by kernel_rfl) ?_ | (refine hK _ _ ?_; clear hK K) | refine ⟨by (first | trivial | assumption | omega | (intros; first | assumption | omega)), ?_⟩ | (apply v_condb; (focus (simp only [pvT, pvL, ite_bool, List.length_map, ints_length, w1, w2, w3, w4, w5, e, ca, cb, rep1', f1, f2, f3, f4, f5, go_sem]; first | exact pvt | exact pvf)); simp only [cond_true, cond_false]) | fail))
              refine v_round (k + 1) hc (by omega) (fits_sto _ (fun x => if x = 101 then 11005 else x) (by simp [Env.get, PV.renL, PV.ren , hsucc, osl_snoc, oslG_snoc, ints_snoc, renL_ints, refsL_ints]) (by simp [PV.refsL, PV.refs , hsucc, osl_snoc, oslG_snoc, ints_snoc, renL_ints, refsL_ints]) (by simp [SC.live, SC.ren, SC.refs, PV.renL, PV.ren, PV.refsL, PV.refs, sto_cons, sto_nil , hsucc, osl_snoc, oslG_snoc, ints_snoc, renL_ints, refsL_ints]) (by simp [hsucc, oslG_snoc]))
        · rw [if_neg cb] at hsucc
          simp only [List.append_nil] at hsucc
          cases out
          all_goals
            by_cases hnil : l = []
            · subst hnil
              rw [osl_nil, oslG_nil]
              (repeat (first | refine Stp.go ?_ | refine v_region ?_ | refine v_regionD ?_ | refine v_blocky (by decide) ?_ | ((first | refine v_o rfl ?_ ?_ | refine v_oD rfl ?_ ?_); (focus (simp only [pvT, pvL, ite_bool, List.length_map, ints_length, w1, w2, w3, w4, w5, e, ca, cb, rep1', go_sem]; done)); simp only [Env.put]) | ((first | refine v_u rfl fun K hK => ?_ | refine v_g rfl fun K hK => ?_ | refine v_uD rfl fun K hK => ?_ | refine v_gD rfl fun K hK => ?_); simp only [pvT, pvL, ite_bool, List.length_map, ints_length, w1, w2, w3, w4, w5, e, ca, cb, rep1', go_sem]) | (fail) | refine v_end ?_ | refine v_endD (by kernel_rfl) ?_ | (refine hK _ _ ?_; clear hK K) | refine ⟨by (first | trivial | assumption | omega | (intros; first | assumption | omega)), ?_⟩ | (apply v_condb; (focus (simp only [pvT, pvL, ite_bool, List.length_map, ints_length, w1, w2, w3, w4, w5, e, ca, cb, rep1', go_sem]; first | exact pvt | exact pvf)); simp only [cond_true, cond_false]) | fail))
              refine v_round (k + 1) hc (by omega) (fits_sto _ id (by simp [Env.get, PV.renL, PV.ren , hsucc, osl_nil, oslG_nil, ints]) (by simp [PV.refsL, PV.refs , hsucc, osl_nil, oslG_nil, ints]) (by simp [SC.live, SC.ren, SC.refs, PV.renL, PV.ren, PV.refsL, PV.refs, sto_cons, sto_nil , hsucc, osl_nil, oslG_nil, ints]) (by simp [hsucc, oslG_nil]))
            · rw [osl_some hnil, oslG_some hnil]
              (repeat (first | refine Stp.go ?_ | refine v_region ?_ | refine v_regionD ?_ | refine v_blocky (by decide) ?_ | ((first | refine v_o rfl ?_ ?_ | refine v_oD rfl ?_ ?_); (focus (simp only [pvT, pvL, ite_bool, List.length_map, ints_length, w1, w2, w3, w4, w5, e, ca, cb, rep1', go_sem]; done)); simp only [Env.put]) | ((first | refine v_u rfl fun K hK => ?_ | refine v_g rfl fun K hK => ?_ | refine v_uD rfl fun K hK => ?_ | refine v_gD rfl fun K hK => ?_); simp only [pvT, pvL, ite_bool, List.length_map, ints_length, w1, w2, w3, w4, w5, e, ca, cb, rep1', go_sem]) | (fail) | refine v_end ?_ | refine v_endD (by kernel_rfl) ?_ | (refine hK _ _ ?_; clear hK K) | refine ⟨by (first | trivial | assumption | omega | (intros; first | assumption | omega)), ?_⟩ | (apply v_condb; (focus (simp only [pvT, pvL, ite_bool, List.length_map, ints_length, w1, w2, w3, w4, w5, e, ca, cb, rep1', go_sem]; first | exact pvt | exact pvf)); simp only [cond_true, cond_false]) | fail))
              refine v_round (k + 1) hc (by omega) (fits_sto _ id (by simp [Env.get, PV.renL, PV.ren , hsucc, osl_some hnil, oslG_some hnil, renL_ints, refsL_ints]) (by simp [PV.refsL, PV.refs , hsucc, osl_some hnil, oslG_some hnil, renL_ints, refsL_ints]) (by simp [SC.live, SC.ren, SC.refs, PV.renL, PV.ren, PV.refsL, PV.refs, sto_cons, sto_nil , hsucc, osl_some hnil, oslG_some hnil, renL_ints, refsL_ints]) (by simp [hsucc, oslG_some hnil]))
    · have w1 : ¬ (k : Int) < t.ls.length := by omega
      have hkn : k = t.ls.length := by omega
      have eL : arcsL t n out = arcsK t n out k := by rw [hkn]; rfl
      rw [eL]
      generalize arcsK t n out k = l at *
      by_cases hnil : l = []
      · subst hnil
        rw [osl_nil, oslG_nil]
        (repeat (first | refine Stp.go ?_ | refine v_region ?_ | refine v_regionD ?_ | refine v_blocky (by decide) ?_ | ((first | refine v_o rfl ?_ ?_ | refine v_oD rfl ?_ ?_); (focus (simp only [pvT, ite_bool, List.length_map, ints_length, w1, go_sem]; done)); simp only [Env.put]) | ((first | refine v_u rfl fun K hK => ?_ | refine v_g rfl fun K hK => ?_ | refine v_uD rfl fun K hK => ?_ | refine v_gD rfl fun K hK => ?_); simp only [pvT, ite_bool, List.length_map, ints_length, w1, go_sem]) | (refine v_loopx ?_) | refine v_end ?_ | refine v_endD (by kernel_rfl) ?_ | (refine hK _ _ ?_; clear hK K) | refine ⟨by (first | trivial | assumption | omega | (intros; first | assumption | omega)), ?_⟩ | (apply v_condb; (focus (simp only [pvT, ite_bool, List.length_map, ints_length, w1, go_sem]; first | exact pvt | exact pvf)); simp only [cond_true, cond_false]) | fail))
        (first | refine v_fin_n ?_ | refine v_fin_r ?_); simp only [ resK, one, PV.snap, go_sem]
        exact Wk.nil 1
      · rw [osl_some hnil, oslG_some hnil]
        (repeat (first | refine Stp.go ?_ | refine v_region ?_ | refine v_regionD ?_ | refine v_blocky (by decide) ?_ | ((first | refine v_o rfl ?_ ?_ | refine v_oD rfl ?_ ?_); (focus (simp only [pvT, ite_bool, List.length_map, ints_length, w1, go_sem]; done)); simp only [Env.put]) | ((first | refine v_u rfl fun K hK => ?_ | refine v_g rfl fun K hK => ?_ | refine v_uD rfl fun K hK => ?_ | refine v_gD rfl fun K hK => ?_); simp only [pvT, ite_bool, List.length_map, ints_length, w1, go_sem]) | (refine v_loopx ?_) | refine v_end ?_ | refine v_endD (by kernel_rfl) ?_ | (refine hK _ _ ?_; clear hK K) | refine ⟨by (first | trivial | assumption | omega | (intros; first | assumption | omega)), ?_⟩ | (apply v_condb; (focus (simp only [pvT, ite_bool, List.length_map, ints_length, w1, go_sem]; first | exact pvt | exact pvf)); simp only [cond_true, cond_false]) | fail))
        (first | refine v_fin_n ?_ | refine v_fin_r ?_); simp only [ resK, one, PV.snap, go_sem]
        refine wk_eq ?_
        simp [ints_length, List.take_of_length_le, snap_ints]

theorem in_good (t : Topo) (n : Int) (ht : t.ok = true) : Good Try.prog 81 [pvT t, .int .i64 n] (.slc 1 (ints (arcsL t n false))) := by
  refine v_enter ttok mixed Try.func81 (by kernel_rfl) rfl Try.ntmps81 Try.results81 (by simp) ?_; rw [fresh_sto]; simp only [argEnv, List.range, List.range.loop, List.length_cons, List.length_nil, List.zip_cons_cons, List.zip_nil_left]
  (repeat (first | refine Stp.go ?_ | refine v_region ?_ | refine v_regionD ?_ | refine v_blocky (by decide) ?_ | ((first | refine v_o rfl ?_ ?_ | refine v_oD rfl ?_ ?_); (focus (simp only [pvT, go_sem]; done)); simp only [Env.put]) | ((first | refine v_u rfl fun K hK => ?_ | refine v_g rfl fun K hK => ?_ | refine v_uD rfl fun K hK => ?_ | refine v_gD rfl fun K hK => ?_); simp only [pvT, go_sem]) | ((refine callK_pure (fun hc => tarcs_good t n false ht) rfl ?_; simp only [upds, eq_self, true_or, true_and])) | refine v_end ?_ | refine v_endD (by kernel_rfl) ?_ | (refine hK _ _ ?_; clear hK K) | refine ⟨by (first | trivial | assumption | omega | (intros; first | assumption | omega)), ?_⟩ | (apply v_condb; (focus (simp only [pvT, go_sem]; first | exact pvt | exact pvf)); simp only [cond_true, cond_false]) | fail))
  (first | refine v_fin_n ?_ | refine v_fin_r ?_); simp only [ resK, one, PV.snap, go_sem]
  exact Wk.refl _
theorem out_good (t : Topo) (n : Int) (ht : t.ok = true) : Good Try.prog 63 [pvT t, .int .i64 n] (.slc 1 (ints (arcsL t n true))) := by
  refine v_enter ttok mixed Try.func63 (by kernel_rfl) rfl Try.ntmps63 Try.results63 (by simp) ?_; rw [fresh_sto]; simp only [argEnv, List.range, List.range.loop, List.length_cons, List.length_nil, List.zip_cons_cons, List.zip_nil_left]
  (repeat (first | refine Stp.go ?_ | refine v_region ?_ | refine v_regionD ?_ | refine v_blocky (by decide) ?_ | ((first | refine v_o rfl ?_ ?_ | refine v_oD rfl ?_ ?_); (focus (simp only [pvT, go_sem]; done)); simp only [Env.put]) | ((first | refine v_u rfl fun K hK => ?_ | refine v_g rfl fun K hK => ?_ | refine v_uD rfl fun K hK => ?_ | refine v_gD rfl fun K hK => ?_); simp only [pvT, go_sem]) | ((refine callK_pure (fun hc => tarcs_good t n true ht) rfl ?_; simp only [upds, eq_self, true_or, true_and])) | refine v_end ?_ | refine v_endD (by kernel_rfl) ?_ | (refine hK _ _ ?_; clear hK K) | refine ⟨by (first | trivial | assumption | omega | (intros; first | assumption | omega)), ?_⟩ | (apply v_condb; (focus (simp only [pvT, go_sem]; first | exact pvt | exact pvf)); simp only [cond_true, cond_false]) | fail))
  (first | refine v_fin_n ?_ | refine v_fin_r ?_); simp only [ resK, one, PV.snap, go_sem]
  exact Wk.refl _
end Go.V
/- Layer 11: the document's search computes the distances. -/
set_option linter.unusedVariables false
set_option linter.unusedSimpArgs false
namespace Go.V
open Go.RowKit Go.Proofs
attribute [local irreducible] wp seqK lexK opK callK upd sto Good

def rsobj (t : Topo) (D : List Int) : List (Nat × SC) := [(101, .row 25 3 [pvT t]), (102, .row 3 1 (ints D))]

theorem stable_next {G : SP.Gr} {D : List Int} {k : Nat} (hs : SP.Stable G D k) (h : G.use k = false ∨ D.getD (G.y k) (-1) < 0 ∨ (0 ≤ D.getD (G.x k) (-1) ∧ D.getD (G.x k) (-1) ≤ D.getD (G.y k) (-1) + G.c k)) : SP.Stable G D (k + 1) := by
  intro a ha hu hy
  by_cases e : a = k
  · subst e
    rcases h with h | h | h
    · rw [h] at hu; cases hu
    · omega
    · exact h
  · exact hs a (by omega) hu hy

set_option maxHeartbeats 4000000 in
theorem rsearch_good (t : Topo) (down : List Bool) (n : Int) (fwd : Bool) : Good Try.prog 43 [pvT t, .slc 1 (bools down), .int .i64 n, .bool fwd] (distR t down n fwd) := by
  refine v_enter ttok mixed Try.func43 (by kernel_rfl) rfl Try.ntmps43 Try.results43 (by simp) ?_; rw [fresh_sto]; simp only [argEnv, List.range, List.range.loop, List.length_cons, List.length_nil, List.zip_cons_cons, List.zip_nil_left]
  have hfit := rfits_good t down
  unfold distR
  by_cases hm : maskOk t down = true
  · rw [hm] at hfit
    rw [if_pos hm]
    have ht := maskOk_ok hm
    have hml := maskOk_len hm
    obtain ⟨hn1, hn2, hn3, hn4⟩ := Topo.frame_n (Topo.ok_frame ht)
    by_cases hn : 0 ≤ n ∧ n < t.n
    · rw [if_pos hn]
      obtain ⟨w1, w2⟩ := hn
      have ok := Topo.gr_ok ht down w1 w2 fwd
      have v1 : ¬ n < 0 := by omega
      have v2 : ¬ t.n ≤ n := by omega
      have v3 : 0 ≤ t.n := by omega
      have v4 : t.n.toNat * 8 ≤ 140737488355328 := by omega
      have v5 : t.n ≤ 140737488355328 := by omega
      obtain ⟨N, hN⟩ : ∃ N : Nat, t.n = N := ⟨t.n.toNat, by omega⟩
      have hnn : t.n.toNat = N := by omega
      (repeat (first | refine Stp.go ?_ | refine v_region ?_ | refine v_regionD ?_ | refine v_blocky (by decide) ?_ | ((first | refine v_o rfl ?_ ?_ | refine v_oD rfl ?_ ?_); (focus (simp only [pvT, ite_bool, v1, v2, v3, v4, v5, hnn, ints_replicate, ints_length, List.length_replicate, go_sem]; done)); simp only [Env.put]) | ((first | refine v_u rfl fun K hK => ?_ | refine v_g rfl fun K hK => ?_ | refine v_uD rfl fun K hK => ?_ | refine v_gD rfl fun K hK => ?_); simp only [pvT, ite_bool, v1, v2, v3, v4, v5, hnn, ints_replicate, ints_length, List.length_replicate, go_sem]) | ((refine callK_pure (fun hc => hfit) rfl ?_; simp only [upds, eq_self, true_or, true_and])) | refine v_end ?_ | refine v_endD (by kernel_rfl) ?_ | (refine hK _ _ ?_; clear hK K) | refine ⟨by (first | trivial | assumption | omega | (intros; first | assumption | omega)), ?_⟩ | (apply v_condb; (focus (simp only [pvT, ite_bool, v1, v2, v3, v4, v5, hnn, ints_replicate, ints_length, List.length_replicate, go_sem]; first | exact pvt | exact pvf)); simp only [cond_true, cond_false]) | fail))
      refine v_loop [1, 2, 3, 4, 10, 11] (fun k : Nat => k ≤ N) (fun k => N - k) (fun k => [.slc 1 (bools down), .int .i64 n, .bool fwd, .ptr 101 3 0 0, .sref 102 1 0 N false, .int .i64 k])
        (fun k => rsobj t (List.replicate k (-1) ++ List.replicate (N - k) 0)) 0 (Nat.zero_le _) ?_ ?_
      · exact (fits_sto _ (fun x => if x = 101 then 1000 else if x = 102 then 6002 else x) (by simp [Env.get, PV.renL, PV.ren , rsobj, pvT, renL_ints, refsL_ints]) (by simp [PV.refsL, PV.refs , rsobj, pvT, renL_ints, refsL_ints]) (by simp [SC.live, SC.ren, SC.refs, PV.renL, PV.ren, PV.refsL, PV.refs, sto_cons, sto_nil , rsobj, pvT, renL_ints, refsL_ints]) (by simp [rsobj]))
      · intro k hk
        have hlen : (List.replicate k (-1 : Int) ++ List.replicate (N - k) 0).length = N := by simp; omega
        simp only [List.zip_cons_cons, List.zip_nil_left]
        by_cases hc : k < N
        · have x1 : (k : Int) < N := by omega
          have x2 : (0 : Int) ≤ k := by omega
          have x3 : IntKind.i64.wrap ((k : Int) + 1) = ((k + 1 : Nat) : Int) := by rw [wrap_i64 (by omega) (by omega)]; omega
          have x4 : k < (List.replicate k (-1 : Int) ++ List.replicate (N - k) 0).length := by omega
          have x5 := ints_get x4
          have x6 : (List.replicate k (-1 : Int) ++ List.replicate (N - k) 0).set k (-1) = List.replicate (k + 1) (-1) ++ List.replicate (N - (k + 1)) 0 := by
            have : N - k = (N - (k + 1)) + 1 := by omega
            rw [this, List.replicate_succ, List.replicate_succ', List.set_append_right _ _ (by simp)]
            simp
          unfold rsobj
          (repeat (first | refine Stp.go ?_ | refine v_region ?_ | refine v_regionD ?_ | refine v_blocky (by decide) ?_ | ((first | refine v_o rfl ?_ ?_ | refine v_oD rfl ?_ ?_); (focus (simp only [x1, x2, x3, x4, x5, ints_length, ints_set, hlen, go_sem]; done)); simp only [Env.put]) | ((first | refine v_u rfl fun K hK => ?_ | refine v_g rfl fun K hK => ?_ | refine v_uD rfl fun K hK => ?_ | refine v_gD rfl fun K hK => ?_); simp only [x1, x2, x3, x4, x5, ints_length, ints_set, hlen, go_sem]) | (fail) | refine v_end ?_ | refine v_endD (by kernel_rfl) ?_ | (refine hK _ _ ?_; clear hK K) | refine ⟨by (first | trivial | assumption | omega | (intros; first | assumption | omega)), ?_⟩ | (apply v_condb; (focus (simp only [x1, x2, x3, x4, x5, ints_length, ints_set, hlen, go_sem]; first | exact pvt | exact pvf)); simp only [cond_true, cond_false]) | fail))
          refine v_round (k + 1) hc (by omega) (fits_sto _ id (by simp [Env.get, PV.renL, PV.ren , rsobj, pvT, renL_ints, refsL_ints, x6]) (by simp [PV.refsL, PV.refs , rsobj, pvT, renL_ints, refsL_ints, x6]) (by simp [SC.live, SC.ren, SC.refs, PV.renL, PV.ren, PV.refsL, PV.refs, sto_cons, sto_nil , rsobj, pvT, renL_ints, refsL_ints, x6]) (by simp [rsobj]))
        · have hkn : k = N := by omega
          subst hkn
          generalize hM : k = M at *
          have x1 : ¬ (M : Int) < M := by omega
          have e : List.replicate M (-1 : Int) ++ List.replicate (M - M) 0 = List.replicate M (-1) := by simp
          have hnk : n.toNat < (List.replicate M (-1 : Int)).length := by simp; omega
          have hnk' : n < (M : Int) := by omega
          have e5 := ints_get hnk
          have hb := SP.BF.start ok
          have hgn : (t.gr down n fwd).n = M := by simp only [Topo.gr]; omega
          have hgd : (t.gr down n fwd).d = n.toNat := rfl
          rw [hgn, hgd] at hb
          rw [e]
          unfold rsobj
          (repeat (first | refine Stp.go ?_ | refine v_region ?_ | refine v_regionD ?_ | refine v_blocky (by decide) ?_ | ((first | refine v_o rfl ?_ ?_ | refine v_oD rfl ?_ ?_); (focus (simp only [x1, ints_length, List.length_replicate, w1, hnk, hnk', e5, ints_set,  go_sem]; done)); simp only [Env.put]) | ((first | refine v_u rfl fun K hK => ?_ | refine v_g rfl fun K hK => ?_ | refine v_uD rfl fun K hK => ?_ | refine v_gD rfl fun K hK => ?_); simp only [x1, ints_length, List.length_replicate, w1, hnk, hnk', e5, ints_set,  go_sem]) | (refine v_loopx ?_) | refine v_end ?_ | refine v_endD (by kernel_rfl) ?_ | (refine hK _ _ ?_; clear hK K) | refine ⟨by (first | trivial | assumption | omega | (intros; first | assumption | omega)), ?_⟩ | (apply v_condb; (focus (simp only [x1, ints_length, List.length_replicate, w1, hnk, hnk', e5, ints_set,  go_sem]; first | exact pvt | exact pvf)); simp only [cond_true, cond_false]) | fail))
          refine v_loop [1, 2, 3, 4, 10, 12] (fun s : List Int × Bool => SP.BF (t.gr down n fwd) s.1 ∧ (s.2 = false → SP.Stable (t.gr down n fwd) s.1 (2 * t.ls.length))) (fun s => SP.meas s.1 + if s.2 then 1 else 0)
            (fun s => [.slc 1 (bools down), .int .i64 n, .bool fwd, .ptr 101 3 0 0, .sref 102 1 0 M false, .bool s.2]) (fun s => rsobj t s.1) (_, true) ⟨hb, fun h => Bool.noConfusion h⟩ ?_ ?_
          · exact (fits_sto _ id (by simp [Env.get, PV.renL, PV.ren , rsobj, pvT, renL_ints, refsL_ints]) (by simp [PV.refsL, PV.refs , rsobj, pvT, renL_ints, refsL_ints]) (by simp [SC.live, SC.ren, SC.refs, PV.renL, PV.ren, PV.refsL, PV.refs, sto_cons, sto_nil , rsobj, pvT, renL_ints, refsL_ints]) (by simp [rsobj]))
          · rintro ⟨D0, ch0⟩ ⟨hb0, hst0⟩
            simp only at hb0 hst0
            simp only [List.zip_cons_cons, List.zip_nil_left]
            cases ch0 with
            | false =>
              unfold rsobj
              (repeat (first | refine Stp.go ?_ | refine v_region ?_ | refine v_regionD ?_ | refine v_blocky (by decide) ?_ | ((first | refine v_o rfl ?_ ?_ | refine v_oD rfl ?_ ?_); (focus (simp only [ints_length, go_sem]; done)); simp only [Env.put]) | ((first | refine v_u rfl fun K hK => ?_ | refine v_g rfl fun K hK => ?_ | refine v_uD rfl fun K hK => ?_ | refine v_gD rfl fun K hK => ?_); simp only [ints_length, go_sem]) | (refine v_loopx ?_) | refine v_end ?_ | refine v_endD (by kernel_rfl) ?_ | (refine hK _ _ ?_; clear hK K) | refine ⟨by (first | trivial | assumption | omega | (intros; first | assumption | omega)), ?_⟩ | (apply v_condb; (focus (simp only [ints_length, go_sem]; first | exact pvt | exact pvf)); simp only [cond_true, cond_false]) | fail))
              (first | refine v_fin_n ?_ | refine v_fin_r ?_); simp only [ resK, one, PV.snap, go_sem]
              have hD := (hb0.isDist ok (hst0 rfl)).eq ok
              have hl0 := hb0.len
              rw [hgn] at hl0
              subst hl0
              refine Wk.two (wk_eq ?_) (.refl _)
              rw [hD]
              simp [sto_cons, ints_length, List.take_of_length_le, snap_ints, distL]
            | true =>
              unfold rsobj
              (repeat (first | refine Stp.go ?_ | refine v_region ?_ | refine v_regionD ?_ | refine v_blocky (by decide) ?_ | ((first | refine v_o rfl ?_ ?_ | refine v_oD rfl ?_ ?_); (focus (simp only [ints_length, go_sem]; done)); simp only [Env.put]) | ((first | refine v_u rfl fun K hK => ?_ | refine v_g rfl fun K hK => ?_ | refine v_uD rfl fun K hK => ?_ | refine v_gD rfl fun K hK => ?_); simp only [ints_length, go_sem]) | (fail) | refine v_end ?_ | refine v_endD (by kernel_rfl) ?_ | (refine hK _ _ ?_; clear hK K) | refine ⟨by (first | trivial | assumption | omega | (intros; first | assumption | omega)), ?_⟩ | (apply v_condb; (focus (simp only [ints_length, go_sem]; first | exact pvt | exact pvf)); simp only [cond_true, cond_false]) | fail))
              refine v_loop [1, 2, 3, 4, 10, 12, 13] (fun s : Nat × List Int × Bool => s.1 ≤ 2 * t.ls.length ∧ SP.BF (t.gr down n fwd) s.2.1 ∧ (s.2.2 = false → s.2.1 = D0 ∧ SP.Stable (t.gr down n fwd) D0 s.1) ∧ (s.2.2 = true → SP.meas s.2.1 < SP.meas D0)) (fun s => 2 * t.ls.length - s.1)
                (fun s => [.slc 1 (bools down), .int .i64 n, .bool fwd, .ptr 101 3 0 0, .sref 102 1 0 M false, .bool s.2.2, .int .i64 s.1]) (fun s => rsobj t s.2.1) (0, D0, false) ⟨Nat.zero_le _, hb0, fun _ => ⟨rfl, fun a ha => absurd ha (Nat.not_lt_zero a)⟩, fun h => Bool.noConfusion h⟩ ?_ ?_
              · exact (fits_sto _ id (by simp [Env.get, PV.renL, PV.ren , rsobj, pvT, renL_ints, refsL_ints]) (by simp [PV.refsL, PV.refs , rsobj, pvT, renL_ints, refsL_ints]) (by simp [SC.live, SC.ren, SC.refs, PV.renL, PV.ren, PV.refsL, PV.refs, sto_cons, sto_nil , rsobj, pvT, renL_ints, refsL_ints]) (by simp [rsobj]))
              · rintro ⟨k, D, ch⟩ ⟨hk, hb2, h1, h2⟩
                simp only at hk hb2 h1 h2
                simp only [List.zip_cons_cons, List.zip_nil_left]
                have z1 : IntKind.i64.wrap (2 * (t.ls.length : Int)) = 2 * (t.ls.length : Int) := wrap_i64 (by omega) (by omega)
                have hlD := hb2.len
                rw [hgn] at hlD
                unfold rsobj
                by_cases hc : k < 2 * t.ls.length
                · have ha : t.arc k := ⟨by omega, by omega⟩
                  have z2 : (k : Int) < 2 * (t.ls.length : Int) := by omega
                  have z3 : IntKind.i64.wrap ((k : Int) + 1) = ((k + 1 : Nat) : Int) := by rw [wrap_i64 (by omega) (by omega)]; omega
                  have z4 : (0 : Int) ≤ k := by omega
                  have hup := rup_good down k (by omega) (by rcases hml with h | h; exact .inl h; exact .inr (by omega))
                  have hcst := t.cost_in ht ha
                  have hsm := hb2.small ok
                  have hle : SP.meas D ≤ SP.meas D0 := by
                    cases ch with
                    | false => rw [(h1 rfl).1]; exact Nat.le_refl _
                    | true => exact Nat.le_of_lt (h2 rfl)
                  have hst : ch = false → SP.Stable (t.gr down n fwd) D k := fun h => by obtain ⟨e1, e2⟩ := h1 h; rw [e1]; exact e2
                  cases fwd
                  · have u1 : 0 ≤ t.head k := (t.Y_in ht ha false).1
                    have u2 : t.head k < (M : Nat) := by have := (t.Y_in ht ha false).2; simp only [Topo.Y] at this; simp at this; omega
                    have u3 : 0 ≤ t.tail k := (t.X_in ht ha false).1
                    have u4 : t.tail k < (M : Nat) := by have := (t.X_in ht ha false).2; simp only [Topo.X] at this; simp at this; omega
                    have hY : (ints D).getD (t.head k).toNat .undef = .int .i64 (D.getD (t.head k).toNat (-1)) := ints_get' (by omega)
                    have hX : (ints D).getD (t.tail k).toNat .undef = .int .i64 (D.getD (t.tail k).toNat (-1)) := ints_get' (by omega)
                    have htr := transit_good t (t.head k) n ht
                    have guse : (t.gr down n false).use k = (upB down k && (decide (t.head k = n) || !t.over (t.head k))) := rfl
                    have gx : (t.gr down n false).x k = (t.tail k).toNat := rfl
                    have gy : (t.gr down n false).y k = (t.head k).toNat := rfl
                    have gc : (t.gr down n false).c k = t.cost k := rfl
                    have hskk : ch = false → ((t.gr down n false).use k = false ∨ D.getD (t.head k).toNat (-1) < 0 ∨ (0 ≤ D.getD (t.tail k).toNat (-1) ∧ D.getD (t.tail k).toNat (-1) ≤ D.getD (t.head k).toNat (-1) + t.cost k)) → D = D0 ∧ SP.Stable (t.gr down n false) D0 (k + 1) := fun h h' => by
                      have e1 := (h1 h).1
                      refine ⟨e1, ?_⟩
                      rw [← e1]
                      exact stable_next (hst h) h'
                    have hstp : (t.gr down n false).use k = true → 0 ≤ D.getD (t.head k).toNat (-1) → (D.getD (t.tail k).toNat (-1) < 0 ∨ D.getD (t.head k).toNat (-1) + t.cost k < D.getD (t.tail k).toNat (-1)) → SP.BF (t.gr down n false) (D.set (t.tail k).toNat (D.getD (t.head k).toNat (-1) + t.cost k)) ∧ SP.meas (D.set (t.tail k).toNat (D.getD (t.head k).toNat (-1) + t.cost k)) < SP.meas D := fun hu hy hc' => hb2.step ok hc hu hy hc'
                    have hsY : D.getD (t.head k).toNat (-1) ≤ 4128705 := hsm (t.head k).toNat (by simp only [Topo.gr]; omega)
                    have hcg := rcost_good t k ht ha
                    generalize upB down k = ub at *
                    generalize t.over (t.head k) = oy at *
                    generalize hdn : decide (t.head k = n) = dn at *
                    generalize t.cost k = c at *
                    have u5 : (t.tail k).toNat < D.length := by omega
                    have u6 : (t.head k).toNat < D.length := by omega
                    generalize hdy : D.getD (t.head k).toNat (-1) = dy at *
                    generalize hdx : D.getD (t.tail k).toNat (-1) = dx at *
                    (repeat (first | refine Stp.go ?_ | refine v_region ?_ | refine v_regionD ?_ | refine v_blocky (by decide) ?_ | ((first | refine v_o rfl ?_ ?_ | refine v_oD rfl ?_ ?_); (focus (simp only [pvT, ite_bool, bools_length, List.length_map, ints_length, z1, z2, z3, z4, u1, u2, u3, u4, u5, u6, hY, hX, go_sem]; done)); simp only [Env.put]) | ((first | refine v_u rfl fun K hK => ?_ | refine v_g rfl fun K hK => ?_ | refine v_uD rfl fun K hK => ?_ | refine v_gD rfl fun K hK => ?_); simp only [pvT, ite_bool, bools_length, List.length_map, ints_length, z1, z2, z3, z4, u1, u2, u3, u4, u5, u6, hY, hX, go_sem]) | (first | (refine callK_pure (fun hc => rtail_good t k ht ha) rfl ?_; simp only [upds, eq_self, true_or, true_and]) | (refine callK_pure (fun hc => rhead_good t k ht ha) rfl ?_; simp only [upds, eq_self, true_or, true_and]) | (refine callK_pure (fun hc => hup) rfl ?_; simp only [upds, eq_self, true_or, true_and]) | (refine callK_pure (fun hc => htr) rfl ?_; simp only [upds, eq_self, true_or, true_and]) | (refine callK_pure (fun hc => hcg) rfl ?_; simp only [upds, eq_self, true_or, true_and])) | refine v_end ?_ | refine v_endD (by kernel_rfl) ?_ | (refine hK _ _ ?_; clear hK K) | refine ⟨by (first | trivial | assumption | omega | (intros; first | assumption | omega)), ?_⟩ | (apply v_condb; (focus (simp only [pvT, ite_bool, bools_length, List.length_map, ints_length, z1, z2, z3, z4, u1, u2, u3, u4, u5, u6, hY, hX, go_sem]; first | exact pvt | exact pvf)); simp only [cond_true, cond_false]) | fail))
                    refine v_cond rfl (fun hx => ?_) (fun hx => ?_)
                    · have hcase : ub = false ∨ dy < 0 ∨ (dn || !oy) = false := by
                        cases ub <;> cases dn <;> cases oy <;> by_cases h : dy < 0 <;> (try simp_all) <;> (try omega)
                      clear hx
                      (repeat (first | refine Stp.go ?_ | refine v_region ?_ | refine v_regionD ?_ | refine v_blocky (by decide) ?_ | ((first | refine v_o rfl ?_ ?_ | refine v_oD rfl ?_ ?_); (focus (simp only [pvT, ite_bool, bools_length, List.length_map, ints_length, z1, z2, z3, z4, u1, u2, u3, u4, u5, u6, pvT, go_sem]; done)); simp only [Env.put]) | ((first | refine v_u rfl fun K hK => ?_ | refine v_g rfl fun K hK => ?_ | refine v_uD rfl fun K hK => ?_ | refine v_gD rfl fun K hK => ?_); simp only [pvT, ite_bool, bools_length, List.length_map, ints_length, z1, z2, z3, z4, u1, u2, u3, u4, u5, u6, pvT, go_sem]) | (first | (refine callK_pure (fun hc => rtail_good t k ht ha) rfl ?_; simp only [upds, eq_self, true_or, true_and]) | (refine callK_pure (fun hc => rhead_good t k ht ha) rfl ?_; simp only [upds, eq_self, true_or, true_and]) | (refine callK_pure (fun hc => hup) rfl ?_; simp only [upds, eq_self, true_or, true_and]) | (refine callK_pure (fun hc => htr) rfl ?_; simp only [upds, eq_self, true_or, true_and]) | (refine callK_pure (fun hc => hcg) rfl ?_; simp only [upds, eq_self, true_or, true_and])) | refine v_end ?_ | refine v_endD (by kernel_rfl) ?_ | (refine hK _ _ ?_; clear hK K) | refine ⟨by (first | trivial | assumption | omega | (intros; first | assumption | omega)), ?_⟩ | (apply v_condb; (focus (simp only [pvT, ite_bool, bools_length, List.length_map, ints_length, z1, z2, z3, z4, u1, u2, u3, u4, u5, u6, pvT, go_sem]; first | exact pvt | exact pvf)); simp only [cond_true, cond_false]) | fail))
                      refine v_round (k + 1, D, ch) ⟨hc, hb2, fun h => hskk h ?_, h2⟩ (by simp only; omega) (fits_sto _ id (by simp [Env.get, PV.renL, PV.ren , rsobj, pvT, renL_ints, refsL_ints]) (by simp [PV.refsL, PV.refs , rsobj, pvT, renL_ints, refsL_ints]) (by simp [SC.live, SC.ren, SC.refs, PV.renL, PV.ren, PV.refsL, PV.refs, sto_cons, sto_nil , rsobj, pvT, renL_ints, refsL_ints]) (by simp [rsobj]))
                      rcases hcase with h | h | h
                      · exact .inl (by rw [guse, h]; rfl)
                      · exact .inr (.inl h)
                      · exact .inl (by rw [guse, h, Bool.and_false])
                    · have hcase : ub = true ∧ ¬ dy < 0 ∧ (dn || !oy) = true := by
                        cases ub <;> cases dn <;> cases oy <;> by_cases h : dy < 0 <;> (try simp_all) <;> (try omega)
                      obtain ⟨c0, c1, c2⟩ := hcase
                      clear hx
                      have u7 : IntKind.i64.wrap (dy + c) = dy + c := wrap_i64 (by omega) (by omega)
                      (repeat (first | refine Stp.go ?_ | refine v_region ?_ | refine v_regionD ?_ | refine v_blocky (by decide) ?_ | ((first | refine v_o rfl ?_ ?_ | refine v_oD rfl ?_ ?_); (focus (simp only [pvT, ite_bool, bools_length, List.length_map, ints_length, z1, z2, z3, z4, u1, u2, u3, u4, u5, u6, hY, hX, u7, go_sem]; done)); simp only [Env.put]) | ((first | refine v_u rfl fun K hK => ?_ | refine v_g rfl fun K hK => ?_ | refine v_uD rfl fun K hK => ?_ | refine v_gD rfl fun K hK => ?_); simp only [pvT, ite_bool, bools_length, List.length_map, ints_length, z1, z2, z3, z4, u1, u2, u3, u4, u5, u6, hY, hX, u7, go_sem]) | (first | (refine callK_pure (fun hc => rtail_good t k ht ha) rfl ?_; simp only [upds, eq_self, true_or, true_and]) | (refine callK_pure (fun hc => rhead_good t k ht ha) rfl ?_; simp only [upds, eq_self, true_or, true_and]) | (refine callK_pure (fun hc => hup) rfl ?_; simp only [upds, eq_self, true_or, true_and]) | (refine callK_pure (fun hc => htr) rfl ?_; simp only [upds, eq_self, true_or, true_and]) | (refine callK_pure (fun hc => hcg) rfl ?_; simp only [upds, eq_self, true_or, true_and])) | refine v_end ?_ | refine v_endD (by kernel_rfl) ?_ | (refine hK _ _ ?_; clear hK K) | refine ⟨by (first | trivial | assumption | omega | (intros; first | assumption | omega)), ?_⟩ | (apply v_condb; (focus (simp only [pvT, ite_bool, bools_length, List.length_map, ints_length, z1, z2, z3, z4, u1, u2, u3, u4, u5, u6, hY, hX, u7, go_sem]; first | exact pvt | exact pvf)); simp only [cond_true, cond_false]) | fail))
                      refine v_cond rfl (fun hx => ?_) (fun hx => ?_)
                      · have hcase : dx < 0 ∨ dy + c < dx := by by_cases h : dx < 0 <;> (try simp_all) <;> (try omega)
                        clear hx
                        obtain ⟨g1, g2⟩ := hstp (by rw [guse, c0, c2]; rfl) (by omega) hcase
                        (repeat (first | refine Stp.go ?_ | refine v_region ?_ | refine v_regionD ?_ | refine v_blocky (by decide) ?_ | ((first | refine v_o rfl ?_ ?_ | refine v_oD rfl ?_ ?_); (focus (simp only [pvT, ite_bool, bools_length, List.length_map, ints_length, z1, z2, z3, z4, u1, u2, u3, u4, u5, u6, hY, hX, u7, ints_set, go_sem]; done)); simp only [Env.put]) | ((first | refine v_u rfl fun K hK => ?_ | refine v_g rfl fun K hK => ?_ | refine v_uD rfl fun K hK => ?_ | refine v_gD rfl fun K hK => ?_); simp only [pvT, ite_bool, bools_length, List.length_map, ints_length, z1, z2, z3, z4, u1, u2, u3, u4, u5, u6, hY, hX, u7, ints_set, go_sem]) | (first | (refine callK_pure (fun hc => rtail_good t k ht ha) rfl ?_; simp only [upds, eq_self, true_or, true_and]) | (refine callK_pure (fun hc => rhead_good t k ht ha) rfl ?_; simp only [upds, eq_self, true_or, true_and]) | (refine callK_pure (fun hc => hup) rfl ?_; simp only [upds, eq_self, true_or, true_and]) | (refine callK_pure (fun hc => htr) rfl ?_; simp only [upds, eq_self, true_or, true_and]) | (refine callK_pure (fun hc => hcg) rfl ?_; simp only [upds, eq_self, true_or, true_and])) | refine v_end ?_ | refine v_endD (by kernel_rfl) ?_ | (refine hK _ _ ?_; clear hK K) | refine ⟨by (first | trivial | assumption | omega | (intros; first | assumption | omega)), ?_⟩ | (apply v_condb; (focus (simp only [pvT, ite_bool, bools_length, List.length_map, ints_length, z1, z2, z3, z4, u1, u2, u3, u4, u5, u6, hY, hX, u7, ints_set, go_sem]; first | exact pvt | exact pvf)); simp only [cond_true, cond_false]) | fail))
                        exact v_round (k + 1, D.set (t.tail k).toNat (dy + c), true) ⟨hc, g1, fun h => Bool.noConfusion h, fun _ => by simp only; omega⟩ (by simp only; omega) (fits_sto _ id (by simp [Env.get, PV.renL, PV.ren , rsobj, pvT, renL_ints, refsL_ints]) (by simp [PV.refsL, PV.refs , rsobj, pvT, renL_ints, refsL_ints]) (by simp [SC.live, SC.ren, SC.refs, PV.renL, PV.ren, PV.refsL, PV.refs, sto_cons, sto_nil , rsobj, pvT, renL_ints, refsL_ints]) (by simp [rsobj]))
                      · have hcase : ¬ dx < 0 ∧ ¬ dy + c < dx := by by_cases h : dx < 0 <;> (try simp_all) <;> (try omega)
                        obtain ⟨c3, c4⟩ := hcase
                        clear hx
                        (repeat (first | refine Stp.go ?_ | refine v_region ?_ | refine v_regionD ?_ | refine v_blocky (by decide) ?_ | ((first | refine v_o rfl ?_ ?_ | refine v_oD rfl ?_ ?_); (focus (simp only [pvT, ite_bool, bools_length, List.length_map, ints_length, z1, z2, z3, z4, u1, u2, u3, u4, u5, u6, pvT, go_sem]; done)); simp only [Env.put]) | ((first | refine v_u rfl fun K hK => ?_ | refine v_g rfl fun K hK => ?_ | refine v_uD rfl fun K hK => ?_ | refine v_gD rfl fun K hK => ?_); simp only [pvT, ite_bool, bools_length, List.length_map, ints_length, z1, z2, z3, z4, u1, u2, u3, u4, u5, u6, pvT, go_sem]) | (first | (refine callK_pure (fun hc => rtail_good t k ht ha) rfl ?_; simp only [upds, eq_self, true_or, true_and]) | (refine callK_pure (fun hc => rhead_good t k ht ha) rfl ?_; simp only [upds, eq_self, true_or, true_and]) | (refine callK_pure (fun hc => hup) rfl ?_; simp only [upds, eq_self, true_or, true_and]) | (refine callK_pure (fun hc => htr) rfl ?_; simp only [upds, eq_self, true_or, true_and]) | (refine callK_pure (fun hc => hcg) rfl ?_; simp only [upds, eq_self, true_or, true_and])) | refine v_end ?_ | refine v_endD (by kernel_rfl) ?_ | (refine hK _ _ ?_; clear hK K) | refine ⟨by (first | trivial | assumption | omega | (intros; first | assumption | omega)), ?_⟩ | (apply v_condb; (focus (simp only [pvT, ite_bool, bools_length, List.length_map, ints_length, z1, z2, z3, z4, u1, u2, u3, u4, u5, u6, pvT, go_sem]; first | exact pvt | exact pvf)); simp only [cond_true, cond_false]) | fail))
                        exact v_round (k + 1, D, ch) ⟨hc, hb2, fun h => hskk h (.inr (.inr ⟨by omega, by omega⟩)), h2⟩ (by simp only; omega) (fits_sto _ id (by simp [Env.get, PV.renL, PV.ren , rsobj, pvT, renL_ints, refsL_ints]) (by simp [PV.refsL, PV.refs , rsobj, pvT, renL_ints, refsL_ints]) (by simp [SC.live, SC.ren, SC.refs, PV.renL, PV.ren, PV.refsL, PV.refs, sto_cons, sto_nil , rsobj, pvT, renL_ints, refsL_ints]) (by simp [rsobj]))
                  · have u1 : 0 ≤ t.tail k := (t.Y_in ht ha true).1
                    have u2 : t.tail k < (M : Nat) := by have := (t.Y_in ht ha true).2; simp only [Topo.Y] at this; simp at this; omega
                    have u3 : 0 ≤ t.head k := (t.X_in ht ha true).1
                    have u4 : t.head k < (M : Nat) := by have := (t.X_in ht ha true).2; simp only [Topo.X] at this; simp at this; omega
                    have hY : (ints D).getD (t.tail k).toNat .undef = .int .i64 (D.getD (t.tail k).toNat (-1)) := ints_get' (by omega)
                    have hX : (ints D).getD (t.head k).toNat .undef = .int .i64 (D.getD (t.head k).toNat (-1)) := ints_get' (by omega)
                    have htr := transit_good t (t.tail k) n ht
                    have guse : (t.gr down n true).use k = (upB down k && (decide (t.tail k = n) || !t.over (t.tail k))) := rfl
                    have gx : (t.gr down n true).x k = (t.head k).toNat := rfl
                    have gy : (t.gr down n true).y k = (t.tail k).toNat := rfl
                    have gc : (t.gr down n true).c k = t.cost k := rfl
                    have hskk : ch = false → ((t.gr down n true).use k = false ∨ D.getD (t.tail k).toNat (-1) < 0 ∨ (0 ≤ D.getD (t.head k).toNat (-1) ∧ D.getD (t.head k).toNat (-1) ≤ D.getD (t.tail k).toNat (-1) + t.cost k)) → D = D0 ∧ SP.Stable (t.gr down n true) D0 (k + 1) := fun h h' => by
                      have e1 := (h1 h).1
                      refine ⟨e1, ?_⟩
                      rw [← e1]
                      exact stable_next (hst h) h'
                    have hstp : (t.gr down n true).use k = true → 0 ≤ D.getD (t.tail k).toNat (-1) → (D.getD (t.head k).toNat (-1) < 0 ∨ D.getD (t.tail k).toNat (-1) + t.cost k < D.getD (t.head k).toNat (-1)) → SP.BF (t.gr down n true) (D.set (t.head k).toNat (D.getD (t.tail k).toNat (-1) + t.cost k)) ∧ SP.meas (D.set (t.head k).toNat (D.getD (t.tail k).toNat (-1) + t.cost k)) < SP.meas D := fun hu hy hc' => hb2.step ok hc hu hy hc'
                    have hsY : D.getD (t.tail k).toNat (-1) ≤ 4128705 := hsm (t.tail k).toNat (by simp only [Topo.gr]; omega)
                    have hcg := rcost_good t k ht ha
                    generalize upB down k = ub at *
                    generalize t.over (t.tail k) = oy at *
                    generalize hdn : decide (t.tail k = n) = dn at *
                    generalize t.cost k = c at *
                    have u5 : (t.head k).toNat < D.length := by omega
                    have u6 : (t.tail k).toNat < D.length := by omega
                    generalize hdy : D.getD (t.tail k).toNat (-1) = dy at *
                    generalize hdx : D.getD (t.head k).toNat (-1) = dx at *
                    (repeat (first | refine Stp.go ?_ | refine v_region ?_ | refine v_regionD ?_ | refine v_blocky (by decide) ?_ | ((first | refine v_o rfl ?_ ?_ | refine v_oD rfl ?_ ?_); (focus (simp only [pvT, ite_bool, bools_length, List.length_map, ints_length, z1, z2, z3, z4, u1, u2, u3, u4, u5, u6, hY, hX, go_sem]; done)); simp only [Env.put]) | ((first | refine v_u rfl fun K hK => ?_ | refine v_g rfl fun K hK => ?_ | refine v_uD rfl fun K hK => ?_ | refine v_gD rfl fun K hK => ?_); simp only [pvT, ite_bool, bools_length, List.length_map, ints_length, z1, z2, z3, z4, u1, u2, u3, u4, u5, u6, hY, hX, go_sem]) | (first | (refine callK_pure (fun hc => rtail_good t k ht ha) rfl ?_; simp only [upds, eq_self, true_or, true_and]) | (refine callK_pure (fun hc => rhead_good t k ht ha) rfl ?_; simp only [upds, eq_self, true_or, true_and]) | (refine callK_pure (fun hc => hup) rfl ?_; simp only [upds, eq_self, true_or, true_and]) | (refine callK_pure (fun hc => htr) rfl ?_; simp only [upds, eq_self, true_or, true_and]) | (refine callK_pure (fun hc => hcg) rfl ?_; simp only [upds, eq_self, true_or, true_and])) | refine v_end ?_ | refine v_endD (by kernel_rfl) ?_ | (refine hK _ _ ?_; clear hK K) | refine ⟨by (first | trivial | assumption | omega | (intros; first | assumption | omega)), ?_⟩ | (apply v_condb; (focus (simp only [pvT, ite_bool, bools_length, List.length_map, ints_length, z1, z2, z3, z4, u1, u2, u3, u4, u5, u6, hY, hX, go_sem]; first | exact pvt | exact pvf)); simp only [cond_true, cond_false]) | fail))
                    refine v_cond rfl (fun hx => ?_) (fun hx => ?_)
                    · have hcase : ub = false ∨ dy < 0 ∨ (dn || !oy) = false := by
                        cases ub <;> cases dn <;> cases oy <;> by_cases h : dy < 0 <;> (try simp_all) <;> (try omega)
                      clear hx
                      (repeat (first | refine Stp.go ?_ | refine v_region ?_ | refine v_regionD ?_ | refine v_blocky (by decide) ?_ | ((first | refine v_o rfl ?_ ?_ | refine v_oD rfl ?_ ?_); (focus (simp only [pvT, ite_bool, bools_length, List.length_map, ints_length, z1, z2, z3, z4, u1, u2, u3, u4, u5, u6, pvT, go_sem]; done)); simp only [Env.put]) | ((first | refine v_u rfl fun K hK => ?_ | refine v_g rfl fun K hK => ?_ | refine v_uD rfl fun K hK => ?_ | refine v_gD rfl fun K hK => ?_); simp only [pvT, ite_bool, bools_length, List.length_map, ints_length, z1, z2, z3, z4, u1, u2, u3, u4, u5, u6, pvT, go_sem]) | (first | (refine callK_pure (fun hc => rtail_good t k ht ha) rfl ?_; simp only [upds, eq_self, true_or, true_and]) | (refine callK_pure (fun hc => rhead_good t k ht ha) rfl ?_; simp only [upds, eq_self, true_or, true_and]) | (refine callK_pure (fun hc => hup) rfl ?_; simp only [upds, eq_self, true_or, true_and]) | (refine callK_pure (fun hc => htr) rfl ?_; simp only [upds, eq_self, true_or, true_and]) | (refine callK_pure (fun hc => hcg) rfl ?_; simp only [upds, eq_self, true_or, true_and])) | refine v_end ?_ | refine v_endD (by kernel_rfl) ?_ | (refine hK _ _ ?_; clear hK K) | refine ⟨by (first | trivial | assumption | omega | (intros; first | assumption | omega)), ?_⟩ | (apply v_condb; (focus (simp only [pvT, ite_bool, bools_length, List.length_map, ints_length, z1, z2, z3, z4, u1, u2, u3, u4, u5, u6, pvT, go_sem]; first | exact pvt | exact pvf)); simp only [cond_true, cond_false]) | fail))
                      refine v_round (k + 1, D, ch) ⟨hc, hb2, fun h => hskk h ?_, h2⟩ (by simp only; omega) (fits_sto _ id (by simp [Env.get, PV.renL, PV.ren , rsobj, pvT, renL_ints, refsL_ints]) (by simp [PV.refsL, PV.refs , rsobj, pvT, renL_ints, refsL_ints]) (by simp [SC.live, SC.ren, SC.refs, PV.renL, PV.ren, PV.refsL, PV.refs, sto_cons, sto_nil , rsobj, pvT, renL_ints, refsL_ints]) (by simp [rsobj]))
                      rcases hcase with h | h | h
                      · exact .inl (by rw [guse, h]; rfl)
                      · exact .inr (.inl h)
                      · exact .inl (by rw [guse, h, Bool.and_false])
                    · have hcase : ub = true ∧ ¬ dy < 0 ∧ (dn || !oy) = true := by
                        cases ub <;> cases dn <;> cases oy <;> by_cases h : dy < 0 <;> (try simp_all) <;> (try omega)
                      obtain ⟨c0, c1, c2⟩ := hcase
                      clear hx
                      have u7 : IntKind.i64.wrap (dy + c) = dy + c := wrap_i64 (by omega) (by omega)
                      (repeat (first | refine Stp.go ?_ | refine v_region ?_ | refine v_regionD ?_ | refine v_blocky (by decide) ?_ | ((first | refine v_o rfl ?_ ?_ | refine v_oD rfl ?_ ?_); (focus (simp only [pvT, ite_bool, bools_length, List.length_map, ints_length, z1, z2, z3, z4, u1, u2, u3, u4, u5, u6, hY, hX, u7, go_sem]; done)); simp only [Env.put]) | ((first | refine v_u rfl fun K hK => ?_ | refine v_g rfl fun K hK => ?_ | refine v_uD rfl fun K hK => ?_ | refine v_gD rfl fun K hK => ?_); simp only [pvT, ite_bool, bools_length, List.length_map, ints_length, z1, z2, z3, z4, u1, u2, u3, u4, u5, u6, hY, hX, u7, go_sem]) | (first | (refine callK_pure (fun hc => rtail_good t k ht ha) rfl ?_; simp only [upds, eq_self, true_or, true_and]) | (refine callK_pure (fun hc => rhead_good t k ht ha) rfl ?_; simp only [upds, eq_self, true_or, true_and]) | (refine callK_pure (fun hc => hup) rfl ?_; simp only [upds, eq_self, true_or, true_and]) | (refine callK_pure (fun hc => htr) rfl ?_; simp only [upds, eq_self, true_or, true_and]) | (refine callK_pure (fun hc => hcg) rfl ?_; simp only [upds, eq_self, true_or, true_and])) | refine v_end ?_ | refine v_endD (by kernel_rfl) ?_ | (refine hK _ _ ?_; clear hK K) | refine ⟨by (first | trivial | assumption | omega | (intros; first | assumption | omega)), ?_⟩ | (apply v_condb; (focus (simp only [pvT, ite_bool, bools_length, List.length_map, ints_length, z1, z2, z3, z4, u1, u2, u3, u4, u5, u6, hY, hX, u7, go_sem]; first | exact pvt | exact pvf)); simp only [cond_true, cond_false]) | fail))
                      refine v_cond rfl (fun hx => ?_) (fun hx => ?_)
                      · have hcase : dx < 0 ∨ dy + c < dx := by by_cases h : dx < 0 <;> (try simp_all) <;> (try omega)
                        clear hx
                        obtain ⟨g1, g2⟩ := hstp (by rw [guse, c0, c2]; rfl) (by omega) hcase
                        (repeat (first | refine Stp.go ?_ | refine v_region ?_ | refine v_regionD ?_ | refine v_blocky (by decide) ?_ | ((first | refine v_o rfl ?_ ?_ | refine v_oD rfl ?_ ?_); (focus (simp only [pvT, ite_bool, bools_length, List.length_map, ints_length, z1, z2, z3, z4, u1, u2, u3, u4, u5, u6, hY, hX, u7, ints_set, go_sem]; done)); simp only [Env.put]) | ((first | refine v_u rfl fun K hK => ?_ | refine v_g rfl fun K hK => ?_ | refine v_uD rfl fun K hK => ?_ | refine v_gD rfl fun K hK => ?_); simp only [pvT, ite_bool, bools_length, List.length_map, ints_length, z1, z2, z3, z4, u1, u2, u3, u4, u5, u6, hY, hX, u7, ints_set, go_sem]) | (first | (refine callK_pure (fun hc => rtail_good t k ht ha) rfl ?_; simp only [upds, eq_self, true_or, true_and]) | (refine callK_pure (fun hc => rhead_good t k ht ha) rfl ?_; simp only [upds, eq_self, true_or, true_and]) | (refine callK_pure (fun hc => hup) rfl ?_; simp only [upds, eq_self, true_or, true_and]) | (refine callK_pure (fun hc => htr) rfl ?_; simp only [upds, eq_self, true_or, true_and]) | (refine callK_pure (fun hc => hcg) rfl ?_; simp only [upds, eq_self, true_or, true_and])) | refine v_end ?_ | refine v_endD (by kernel_rfl) ?_ | (refine hK _ _ ?_; clear hK K) | refine ⟨by (first | trivial | assumption | omega | (intros; first | assumption | omega)), ?_⟩ | (apply v_condb; (focus (simp only [pvT, ite_bool, bools_length, List.length_map, ints_length, z1, z2, z3, z4, u1, u2, u3, u4, u5, u6, hY, hX, u7, ints_set, go_sem]; first | exact pvt | exact pvf)); simp only [cond_true, cond_false]) | fail))
                        exact v_round (k + 1, D.set (t.head k).toNat (dy + c), true) ⟨hc, g1, fun h => Bool.noConfusion h, fun _ => by simp only; omega⟩ (by simp only; omega) (fits_sto _ id (by simp [Env.get, PV.renL, PV.ren , rsobj, pvT, renL_ints, refsL_ints]) (by simp [PV.refsL, PV.refs , rsobj, pvT, renL_ints, refsL_ints]) (by simp [SC.live, SC.ren, SC.refs, PV.renL, PV.ren, PV.refsL, PV.refs, sto_cons, sto_nil , rsobj, pvT, renL_ints, refsL_ints]) (by simp [rsobj]))
                      · have hcase : ¬ dx < 0 ∧ ¬ dy + c < dx := by by_cases h : dx < 0 <;> (try simp_all) <;> (try omega)
                        obtain ⟨c3, c4⟩ := hcase
                        clear hx
                        (repeat (first | refine Stp.go ?_ | refine v_region ?_ | refine v_regionD ?_ | refine v_blocky (by decide) ?_ | ((first | refine v_o rfl ?_ ?_ | refine v_oD rfl ?_ ?_); (focus (simp only [pvT, ite_bool, bools_length, List.length_map, ints_length, z1, z2, z3, z4, u1, u2, u3, u4, u5, u6, pvT, go_sem]; done)); simp only [Env.put]) | ((first | refine v_u rfl fun K hK => ?_ | refine v_g rfl fun K hK => ?_ | refine v_uD rfl fun K hK => ?_ | refine v_gD rfl fun K hK => ?_); simp only [pvT, ite_bool, bools_length, List.length_map, ints_length, z1, z2, z3, z4, u1, u2, u3, u4, u5, u6, pvT, go_sem]) | (first | (refine callK_pure (fun hc => rtail_good t k ht ha) rfl ?_; simp only [upds, eq_self, true_or, true_and]) | (refine callK_pure (fun hc => rhead_good t k ht ha) rfl ?_; simp only [upds, eq_self, true_or, true_and]) | (refine callK_pure (fun hc => hup) rfl ?_; simp only [upds, eq_self, true_or, true_and]) | (refine callK_pure (fun hc => htr) rfl ?_; simp only [upds, eq_self, true_or, true_and]) | (refine callK_pure (fun hc => hcg) rfl ?_; simp only [upds, eq_self, true_or, true_and])) | refine v_end ?_ | refine v_endD (by kernel_rfl) ?_ | (refine hK _ _ ?_; clear hK K) | refine ⟨by (first | trivial | assumption | omega | (intros; first | assumption | omega)), ?_⟩ | (apply v_condb; (focus (simp only [pvT, ite_bool, bools_length, List.length_map, ints_length, z1, z2, z3, z4, u1, u2, u3, u4, u5, u6, pvT, go_sem]; first | exact pvt | exact pvf)); simp only [cond_true, cond_false]) | fail))
                        exact v_round (k + 1, D, ch) ⟨hc, hb2, fun h => hskk h (.inr (.inr ⟨by omega, by omega⟩)), h2⟩ (by simp only; omega) (fits_sto _ id (by simp [Env.get, PV.renL, PV.ren , rsobj, pvT, renL_ints, refsL_ints]) (by simp [PV.refsL, PV.refs , rsobj, pvT, renL_ints, refsL_ints]) (by simp [SC.live, SC.ren, SC.refs, PV.renL, PV.ren, PV.refsL, PV.refs, sto_cons, sto_nil , rsobj, pvT, renL_ints, refsL_ints]) (by simp [rsobj]))
                · have z2 : ¬ (k : Int) < 2 * (t.ls.length : Int) := by omega
                  have hke : k = 2 * t.ls.length := by omega
                  (repeat (first | refine Stp.go ?_ | refine v_region ?_ | refine v_regionD ?_ | refine v_blocky (by decide) ?_ | ((first | refine v_o rfl ?_ ?_ | refine v_oD rfl ?_ ?_); (focus (simp only [z1, z2, pvT, List.length_map, go_sem]; done)); simp only [Env.put]) | ((first | refine v_u rfl fun K hK => ?_ | refine v_g rfl fun K hK => ?_ | refine v_uD rfl fun K hK => ?_ | refine v_gD rfl fun K hK => ?_); simp only [z1, z2, pvT, List.length_map, go_sem]) | (refine v_loopx ?_) | refine v_end ?_ | refine v_endD (by kernel_rfl) ?_ | (refine hK _ _ ?_; clear hK K) | refine ⟨by (first | trivial | assumption | omega | (intros; first | assumption | omega)), ?_⟩ | (apply v_condb; (focus (simp only [z1, z2, pvT, List.length_map, go_sem]; first | exact pvt | exact pvf)); simp only [cond_true, cond_false]) | fail))
                  refine v_round (D, ch) ⟨hb2, fun h => ?_⟩ ?_ (fits_sto _ id (by simp [Env.get, PV.renL, PV.ren , rsobj, pvT, renL_ints, refsL_ints]) (by simp [PV.refsL, PV.refs , rsobj, pvT, renL_ints, refsL_ints]) (by simp [SC.live, SC.ren, SC.refs, PV.renL, PV.ren, PV.refsL, PV.refs, sto_cons, sto_nil , rsobj, pvT, renL_ints, refsL_ints]) (by simp [rsobj]))
                  · obtain ⟨e1, e2⟩ := h1 h
                    simp only at h ⊢
                    rw [e1, ← hke]; exact e2
                  · cases ch with
                    | false => have := (h1 rfl).1; subst this; simp
                    | true => have := h2 rfl; simp; omega
    · rw [if_neg hn]
      have v : (n < 0) = True ∨ (n < 0) = False ∧ t.n ≤ n := by
        by_cases h : n < 0
        · exact .inl (by simp [h])
        · exact .inr ⟨by simp [h], by omega⟩
      rcases v with v | ⟨v, v'⟩
      · (repeat (first | refine Stp.go ?_ | refine v_region ?_ | refine v_regionD ?_ | refine v_blocky (by decide) ?_ | ((first | refine v_o rfl ?_ ?_ | refine v_oD rfl ?_ ?_); (focus (simp only [pvT, ite_bool, v,  go_sem]; done)); simp only [Env.put]) | ((first | refine v_u rfl fun K hK => ?_ | refine v_g rfl fun K hK => ?_ | refine v_uD rfl fun K hK => ?_ | refine v_gD rfl fun K hK => ?_); simp only [pvT, ite_bool, v,  go_sem]) | ((refine callK_pure (fun hc => hfit) rfl ?_; simp only [upds, eq_self, true_or, true_and])) | refine v_end ?_ | refine v_endD (by kernel_rfl) ?_ | (refine hK _ _ ?_; clear hK K) | refine ⟨by (first | trivial | assumption | omega | (intros; first | assumption | omega)), ?_⟩ | (apply v_condb; (focus (simp only [pvT, ite_bool, v,  go_sem]; first | exact pvt | exact pvf)); simp only [cond_true, cond_false]) | fail))
        (first | refine v_fin_n ?_ | refine v_fin_r ?_); simp only [ resK, one, PV.snap, go_sem]
        exact Wk.two (Wk.nil 1) (.refl _)
      · (repeat (first | refine Stp.go ?_ | refine v_region ?_ | refine v_regionD ?_ | refine v_blocky (by decide) ?_ | ((first | refine v_o rfl ?_ ?_ | refine v_oD rfl ?_ ?_); (focus (simp only [pvT, ite_bool, v, v',  go_sem]; done)); simp only [Env.put]) | ((first | refine v_u rfl fun K hK => ?_ | refine v_g rfl fun K hK => ?_ | refine v_uD rfl fun K hK => ?_ | refine v_gD rfl fun K hK => ?_); simp only [pvT, ite_bool, v, v',  go_sem]) | ((refine callK_pure (fun hc => hfit) rfl ?_; simp only [upds, eq_self, true_or, true_and])) | refine v_end ?_ | refine v_endD (by kernel_rfl) ?_ | (refine hK _ _ ?_; clear hK K) | refine ⟨by (first | trivial | assumption | omega | (intros; first | assumption | omega)), ?_⟩ | (apply v_condb; (focus (simp only [pvT, ite_bool, v, v',  go_sem]; first | exact pvt | exact pvf)); simp only [cond_true, cond_false]) | fail))
        (first | refine v_fin_n ?_ | refine v_fin_r ?_); simp only [ resK, one, PV.snap, go_sem]
        exact Wk.two (Wk.nil 1) (.refl _)
  · rw [if_neg hm]
    have hm' : maskOk t down = false := by simpa using hm
    rw [hm'] at hfit
    (repeat (first | refine Stp.go ?_ | refine v_region ?_ | refine v_regionD ?_ | refine v_blocky (by decide) ?_ | ((first | refine v_o rfl ?_ ?_ | refine v_oD rfl ?_ ?_); (focus (simp only [pvT, ite_bool,  go_sem]; done)); simp only [Env.put]) | ((first | refine v_u rfl fun K hK => ?_ | refine v_g rfl fun K hK => ?_ | refine v_uD rfl fun K hK => ?_ | refine v_gD rfl fun K hK => ?_); simp only [pvT, ite_bool,  go_sem]) | ((refine callK_pure (fun hc => hfit) rfl ?_; simp only [upds, eq_self, true_or, true_and])) | refine v_end ?_ | refine v_endD (by kernel_rfl) ?_ | (refine hK _ _ ?_; clear hK K) | refine ⟨by (first | trivial | assumption | omega | (intros; first | assumption | omega)), ?_⟩ | (apply v_condb; (focus (simp only [pvT, ite_bool,  go_sem]; first | exact pvt | exact pvf)); simp only [cond_true, cond_false]) | fail))
    (first | refine v_fin_n ?_ | refine v_fin_r ?_); simp only [ resK, one, PV.snap, go_sem]
    exact Wk.two (Wk.nil 1) (.refl _)
end Go.V
