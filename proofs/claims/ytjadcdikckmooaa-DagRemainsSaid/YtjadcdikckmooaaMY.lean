import Derived.Test.YtjadcdikckmooaaMP1
/- A part of a proof, with no condition of its own. Merged texts: L6 L7 L8. -/
/- Layer 12: unique shortest paths, in plain Lean. -/
set_option linter.unusedVariables false
set_option linter.unusedSimpArgs false
namespace Go.V
open Go.RowKit Go.Proofs

/-- The first shortest path, of at most k arcs. -/
def fpF (t : Topo) (down : List Bool) (dist : List Int) (d : Int) : Nat → Int → List Int
  | 0, _ => []
  | k + 1, n => if n = d then [] else match nextL t down dist n d with
    | [] => []
    | a :: _ => a :: fpF t down dist d k (t.head a)
def fpath (t : Topo) (down : List Bool) (dist : List Int) (d n : Int) : List Int := fpF t down dist d dist.length n
/-- The arcs are the only next ones. -/
def Only (t : Topo) (down : List Bool) (dist : List Int) (d : Int) : Int → List Int → Prop
  | n, [] => n = d
  | n, a :: p => n ≠ d ∧ nextL t down dist n d = [a] ∧ Only t down dist d (t.head a) p

section
variable {t : Topo} {down : List Bool} {d : Int} {dist : List Int}
theorem next_rank (ht : t.ok = true) (hI : SP.IsDist (t.gr down d false) dist) {n a : Int} (h : a ∈ nextL t down dist n d) : rankN dist (t.head a) < rankN dist n := by
  obtain ⟨_, _, _, _, _, h6, h7, h8, h9, h10⟩ := next_down ht hI h
  have hl := gr_n ht hI
  exact rankN_lt (dist := dist) (x := n) h6 (by omega) h8 (by omega)
theorem fpF_enough (ht : t.ok = true) (hI : SP.IsDist (t.gr down d false) dist) : ∀ (k : Nat) (n : Int), rankN dist n < k → fpF t down dist d k n = fpF t down dist d (k + 1) n
  | 0, n, h => by omega
  | k + 1, n, h => by
    rw [fpF, fpF]
    by_cases hd : n = d
    · rw [if_pos hd, if_pos hd]
    · rw [if_neg hd, if_neg hd]
      cases hn : nextL t down dist n d with
      | nil => rfl
      | cons a l =>
        have := next_rank ht hI (n := n) (a := a) (by rw [hn]; simp)
        simp only
        rw [fpF_enough ht hI k (t.head a) (by omega)]
theorem fpath_dest (hl : 0 < dist.length) : fpath t down dist d d = [] := by
  unfold fpath
  obtain ⟨k, hk⟩ : ∃ k, dist.length = k + 1 := ⟨dist.length - 1, by omega⟩
  rw [hk, fpF, if_pos rfl]
theorem fpath_step (ht : t.ok = true) (hI : SP.IsDist (t.gr down d false) dist) {n a : Int} {l : List Int} (h0 : 0 ≤ n) (h1 : n < t.n) (hr : 0 ≤ dist.getD n.toNat (-1)) (hd : n ≠ d) (hn : nextL t down dist n d = a :: l) :
    fpath t down dist d n = a :: fpath t down dist d (t.head a) := by
  have hl := gr_n ht hI
  have hra := rankN_all (dist := dist) h0 (by omega) hr
  have hra2 := next_rank ht hI (n := n) (a := a) (by rw [hn]; simp)
  unfold fpath
  rw [fpF_enough ht hI _ _ hra, fpF, if_neg hd, hn]
theorem fpF_length (t : Topo) (down : List Bool) (dist : List Int) (d : Int) : ∀ (k : Nat) (n : Int), (fpF t down dist d k n).length ≤ k
  | 0, n => by simp [fpF]
  | k + 1, n => by
    rw [fpF]
    split
    · simp
    · split
      · simp
      · have := fpF_length t down dist d k
        rename_i a _ _
        have := this (t.head a)
        simp; omega
theorem fpath_length (t : Topo) (down : List Bool) (dist : List Int) (d n : Int) : (fpath t down dist d n).length ≤ dist.length := fpF_length ..

/-- A path of only next arcs is the first shortest one. -/
theorem Only.fpath_eq (ht : t.ok = true) (hI : SP.IsDist (t.gr down d false) dist) : ∀ {p : List Int} {n : Int}, 0 ≤ n → n < t.n → 0 ≤ dist.getD n.toNat (-1) → Only t down dist d n p → fpath t down dist d n = p
  | [], n, h0, h1, hr, h => by
    have hl := gr_n ht hI
    obtain rfl : n = d := h
    exact fpath_dest (by omega)
  | a :: p, n, h0, h1, hr, ⟨hd, hn, h⟩ => by
    obtain ⟨_, _, _, _, _, h6, h7, h8, _, _⟩ := next_down ht hI (n := n) (a := a) (by rw [hn]; simp)
    rw [fpath_step ht hI h0 h1 hr hd hn, Only.fpath_eq ht hI h6 h7 h8 h]
theorem Only.drop (ht : t.ok = true) (hI : SP.IsDist (t.gr down d false) dist) : ∀ {p : List Int} {n : Int} (i : Nat), i ≤ p.length → Only t down dist d n p → Only t down dist d (pEnd t n (p.take i)) (p.drop i)
  | p, n, 0, _, h => by simpa [pEnd] using h
  | [], n, i + 1, hi, h => by simp at hi
  | a :: p, n, i + 1, hi, ⟨hd, hn, h⟩ => by
    have := Only.drop ht hI (p := p) (n := t.head a) i (by simpa using hi) h
    simpa [pEnd] using this
/-- The ends of the arcs of a path. -/
theorem Only.arc (ht : t.ok = true) (hI : SP.IsDist (t.gr down d false) dist) : ∀ {p : List Int} {n : Int} {i : Nat}, i < p.length → Only t down dist d n p → p.getD i 0 ∈ nextL t down dist (pEnd t n (p.take i)) d ∧ pEnd t n (p.take (i + 1)) = t.head (p.getD i 0)
  | [], n, i, hi, h => by simp at hi
  | a :: p, n, 0, hi, ⟨hd, hn, h⟩ => by simp [pEnd, hn]
  | a :: p, n, i + 1, hi, ⟨hd, hn, h⟩ => by
    have := Only.arc ht hI (p := p) (n := t.head a) (i := i) (by simpa using hi) h
    simpa [pEnd] using this

/-- The numbers of shortest paths, of those that can reach the destination. -/
def cntC (t : Topo) (down : List Bool) (dist : List Int) (d most : Int) (n : Int) : Int := (cntL t down dist d most (orderL dist)).getD n.toNat 0
theorem cnt_pos (ht : t.ok = true) (hI : SP.IsDist (t.gr down d false) dist) (hd0 : 0 ≤ d) (hd1 : d < t.n) {most : Int} (hm : 1 ≤ most) : ∀ (k : Nat) (n : Int), rankN dist n < k → 0 ≤ n → n < t.n → 0 ≤ dist.getD n.toNat (-1) → 1 ≤ cntC t down dist d most n
  | 0, n, h, _, _, _ => by omega
  | k + 1, n, h, h0, h1, hr => by
    by_cases hd : n = d
    · subst hd
      unfold cntC
      rw [cnt_dest ht hI (by omega) hd0 hd1 _ ord_el]
      split <;> omega
    · obtain ⟨m, rfl⟩ : ∃ m : Nat, n = m := ⟨n.toNat, by omega⟩
      have hs := cnt_sum ht hI (most := most) (by omega) hd0 hd1 m h1 hd
      have hne := next_some ht hI (n := m) h1 hd0 hd hr
      have hel : ∀ a ∈ nextL t down dist m d, 1 ≤ (cntL t down dist d most (orderL dist)).getD (t.head a).toNat 0 := fun a ha => by
        obtain ⟨_, _, _, _, _, h6, h7, h8, _, _⟩ := next_down ht hI ha
        have hr2 := next_rank ht hI ha
        exact cnt_pos ht hI hd0 hd1 hm k (t.head a) (by omega) h6 h7 h8
      unfold cntC
      rw [Int.toNat_natCast, hs]
      cases hn : nextL t down dist m d with
      | nil => exact absurd hn hne
      | cons a l =>
        rw [hn] at hel
        have hb := sum_bound (most := most) (l.map fun a => (cntL t down dist d most (orderL dist)).getD (t.head a).toNat 0) fun x hx => by
          obtain ⟨y, _, rfl⟩ := List.mem_map.1 hx
          exact ⟨(CntOk.all (by omega) _).lo _, (CntOk.all (by omega) _).hi _⟩
        have := hel a (by simp)
        simp only [List.map_cons, List.sum_cons]
        split <;> omega
/-- One path alone: one next arc alone. -/
theorem uniq_next (ht : t.ok = true) (hI : SP.IsDist (t.gr down d false) dist) (hd0 : 0 ≤ d) (hd1 : d < t.n) {n : Int} (h0 : 0 ≤ n) (h1 : n < t.n) (hr : 0 ≤ dist.getD n.toNat (-1)) (hd : n ≠ d) (hc : cntC t down dist d 2 n = 1) :
    ∃ a, nextL t down dist n d = [a] ∧ cntC t down dist d 2 (t.head a) = 1 := by
  obtain ⟨m, rfl⟩ : ∃ m : Nat, n = m := ⟨n.toNat, by omega⟩
  have hs := cnt_sum ht hI (most := 2) (by omega) hd0 hd1 m h1 hd
  have hne := next_some ht hI (n := m) h1 hd0 hd hr
  have hel : ∀ a ∈ nextL t down dist m d, 1 ≤ (cntL t down dist d 2 (orderL dist)).getD (t.head a).toNat 0 := fun a ha => by
    obtain ⟨_, _, _, _, _, h6, h7, h8, _, _⟩ := next_down ht hI ha
    exact cnt_pos ht hI hd0 hd1 (most := 2) (by decide) _ (t.head a) (Nat.lt_succ_self _) h6 h7 h8
  unfold cntC at hc ⊢
  rw [Int.toNat_natCast, hs] at hc
  cases hn : nextL t down dist m d with
  | nil => exact absurd hn hne
  | cons a l =>
    rw [hn] at hel hc
    simp only [List.map_cons, List.sum_cons] at hc
    have ha := hel a (by simp)
    cases l with
    | nil =>
      refine ⟨a, rfl, ?_⟩
      simp only [List.map_nil, List.sum_nil] at hc
      split at hc <;> omega
    | cons b l =>
      exfalso
      have hb := hel b (by simp)
      have hb2 := sum_bound (most := 2) (l.map fun a => (cntL t down dist d 2 (orderL dist)).getD (t.head a).toNat 0) fun x hx => by
        obtain ⟨y, _, rfl⟩ := List.mem_map.1 hx
        exact ⟨(CntOk.all (by omega) _).lo _, (CntOk.all (by omega) _).hi _⟩
      simp only [List.map_cons, List.sum_cons] at hc
      split at hc <;> omega
theorem uniq_only (ht : t.ok = true) (hI : SP.IsDist (t.gr down d false) dist) (hd0 : 0 ≤ d) (hd1 : d < t.n) : ∀ (k : Nat) (n : Int), rankN dist n < k → 0 ≤ n → n < t.n → 0 ≤ dist.getD n.toNat (-1) → cntC t down dist d 2 n = 1 → Only t down dist d n (fpath t down dist d n)
  | 0, n, h, _, _, _, _ => by omega
  | k + 1, n, h, h0, h1, hr, hc => by
    have hl := gr_n ht hI
    by_cases hd : n = d
    · subst hd
      rw [fpath_dest (by omega)]; rfl
    · obtain ⟨a, hn, hc2⟩ := uniq_next ht hI hd0 hd1 h0 h1 hr hd hc
      have ha : a ∈ nextL t down dist n d := by rw [hn]; simp
      obtain ⟨_, _, _, _, _, h6, h7, h8, _, _⟩ := next_down ht hI ha
      have hr2 := next_rank ht hI ha
      rw [fpath_step ht hI h0 h1 hr hd hn]
      exact ⟨hd, hn, uniq_only ht hI hd0 hd1 k (t.head a) (by omega) h6 h7 h8 hc2⟩
theorem only_uniq (ht : t.ok = true) (hI : SP.IsDist (t.gr down d false) dist) (hd0 : 0 ≤ d) (hd1 : d < t.n) : ∀ (p : List Int) (n : Int), 0 ≤ n → n < t.n → Only t down dist d n p → cntC t down dist d 2 n = 1
  | [], n, h0, h1, h => by
    obtain rfl : n = d := h
    unfold cntC
    rw [cnt_dest ht hI (by omega) hd0 hd1 _ ord_el]; rfl
  | a :: p, n, h0, h1, ⟨hd, hn, h⟩ => by
    obtain ⟨m, rfl⟩ : ∃ m : Nat, n = m := ⟨n.toNat, by omega⟩
    obtain ⟨_, _, _, _, _, h6, h7, h8, _, _⟩ := next_down ht hI (n := m) (a := a) (by rw [hn]; simp)
    have ih := only_uniq ht hI hd0 hd1 p (t.head a) h6 h7 h
    unfold cntC at ih ⊢
    rw [Int.toNat_natCast, cnt_sum ht hI (most := 2) (by omega) hd0 hd1 m h1 hd, hn]
    simp only [List.map_cons, List.map_nil, List.sum_cons, List.sum_nil, ih]
    rfl
end

theorem nextL_nodup (t : Topo) (down : List Bool) (dist : List Int) (n d : Int) : (nextL t down dist n d).Pairwise (· ≠ ·) := by
  unfold nextL nextK
  refine List.Pairwise.filter _ ?_
  rw [List.pairwise_map]
  exact List.Pairwise.imp (fun {a b} h => by omega) (List.pairwise_lt_range (n := 2 * t.ls.length))
theorem eq_single {l : List Int} {a : Int} (h1 : a ∈ l) (h2 : ∀ b ∈ l, b = a) (hn : l.Pairwise (· ≠ ·)) : l = [a] := by
  match l, hn with
  | [], _ => cases h1
  | [x], _ => rw [h2 x (by simp)]
  | x :: y :: l, hn =>
    exfalso
    have hx := h2 x (by simp)
    have hy := h2 y (by simp)
    exact (List.pairwise_cons.1 hn).1 y (by simp) (by rw [hx, hy])

/-! Two graphs: what is up in the second one is up in the first one, and the second one's destination may lie on a path of the first one. -/
section
variable {t : Topo} {down down' : List Bool} {d d' : Int} {dist dist' : List Int}
theorem two_le (ht : t.ok = true) (hI : SP.IsDist (t.gr down d false) dist) (hI' : SP.IsDist (t.gr down' d' false) dist') (hd0 : 0 ≤ d) (hd0' : 0 ≤ d') (hd1' : d' < t.n)
    (hup : ∀ a, t.arc a → upB down' a = true → upB down a = true) (hov : d' = d ∨ t.over d' = false) (hK : 0 ≤ dist.getD d'.toNat (-1)) :
    ∀ (k v : Nat), (v : Int) < t.n → 0 ≤ dist'.getD v (-1) → dist'.getD v (-1) ≤ (k : Int) → 0 ≤ dist.getD v (-1) ∧ dist.getD v (-1) ≤ dist'.getD v (-1) + dist.getD d'.toNat (-1) := by
  intro k
  induction k using Nat.strongRecOn with
  | _ k ih =>
    intro v hv h0 hk
    have hl' := gr_n ht hI'
    have hln' := hI'.len
    by_cases hd : v = d'.toNat
    · subst hd
      exact ⟨hK, by omega⟩
    · obtain ⟨a, ha, hu, hx, hy, he⟩ := hI'.just v (by rw [← hln']; omega) (by simp only [Topo.gr]; omega) h0
      simp only [Topo.gr, Topo.X, Topo.Y, Bool.false_eq_true, if_false] at ha hu hx hy he
      have harc : t.arc a := ⟨by omega, by omega⟩
      have b1 := t.tail_in ht harc
      have b2 := t.head_in ht harc
      have b3 := t.cost_in ht harc
      simp only [useB, Topo.Y, Bool.false_eq_true, if_false, Bool.and_eq_true, Bool.or_eq_true, decide_eq_true_eq, Bool.not_eq_true'] at hu
      obtain ⟨i1, i2⟩ := ih (dist'.getD (t.head a).toNat (-1)).toNat (by omega) (t.head a).toNat (by omega) hy (by omega)
      have hs := hI.stable a ha (by
        simp only [Topo.gr, useB, Topo.Y, Bool.false_eq_true, if_false, Bool.and_eq_true, Bool.or_eq_true, decide_eq_true_eq, Bool.not_eq_true']
        refine ⟨hup a harc hu.1, ?_⟩
        rcases hu.2 with h | h
        · rw [h]; exact hov
        · exact .inr h) (by simpa only [Topo.gr, Topo.Y, Bool.false_eq_true, if_false] using i1)
      simp only [Topo.gr, Topo.X, Topo.Y, Bool.false_eq_true, if_false] at hs
      rw [hx] at hs
      omega
theorem two_only (ht : t.ok = true) (hI : SP.IsDist (t.gr down d false) dist) (hI' : SP.IsDist (t.gr down' d' false) dist') (hd0 : 0 ≤ d) (hd0' : 0 ≤ d') (hd1' : d' < t.n)
    (hup : ∀ a, t.arc a → upB down' a = true → upB down a = true) (hov : d' = d ∨ t.over d' = false) (hK : 0 ≤ dist.getD d'.toNat (-1)) :
    ∀ (p rest : List Int) (x : Int), 0 ≤ x → x < t.n → Only t down dist d x (p ++ rest) → pEnd t x p = d' → (∀ a ∈ p, upB down' a = true) →
      Only t down' dist' d' x p ∧ 0 ≤ dist'.getD x.toNat (-1) ∧ dist.getD x.toNat (-1) = dist'.getD x.toNat (-1) + dist.getD d'.toNat (-1)
  | [], rest, x, h0, h1, ho, he, hu => by
    obtain rfl : x = d' := he
    have hz : dist'.getD x.toNat (-1) = 0 := hI'.zero
    exact ⟨rfl, by omega, by omega⟩
  | a :: p, rest, x, h0, h1, ⟨hd, hn, ho⟩, he, hu => by
    have hl := gr_n ht hI
    have hl' := gr_n ht hI'
    have ha : a ∈ nextL t down dist x d := by rw [hn]; simp
    obtain ⟨q1, q2, q3, q4, q5, q6, q7, q8, q9, q10⟩ := next_down ht hI ha
    have hon := on_iff.1 ((mem_next ht).1 ha).2.2
    obtain ⟨i1, i2, i3⟩ := two_only ht hI hI' hd0 hd0' hd1' hup hov hK p rest (t.head a) q6 q7 ho (by simpa [pEnd] using he) (fun b hb => hu b (by simp [hb]))
    have hxd : x ≠ d' := fun e => by
      subst e
      omega
    have hover : t.head a = d' ∨ t.over (t.head a) = false := by
      rcases hon.2.2.2.1 with h | h
      · left
        cases p with
        | nil => simpa [pEnd] using he
        | cons b p =>
          obtain ⟨w1, _⟩ := ho
          exact absurd h w1
      · exact .inr h
    have ht1 : ((t.tail a).toNat : Nat) = x.toNat := by rw [q2]
    obtain ⟨an, rfl⟩ : ∃ m : Nat, a = m := ⟨a.toNat, by have := q1.1; omega⟩
    have hs := hI'.stable an (by have := q1.2; simp only [Topo.gr]; omega) (by
      simp only [Topo.gr, useB, Topo.Y, Bool.false_eq_true, if_false, Bool.and_eq_true, Bool.or_eq_true, decide_eq_true_eq, Bool.not_eq_true']
      exact ⟨hu an (by simp), hover⟩) (by simpa only [Topo.gr, Topo.Y, Bool.false_eq_true, if_false] using i2)
    simp only [Topo.gr, Topo.X, Topo.Y, Bool.false_eq_true, if_false] at hs
    rw [ht1] at hs
    have hle := two_le ht hI hI' hd0 hd0' hd1' hup hov hK (dist'.getD x.toNat (-1)).toNat x.toNat (by omega) hs.1 (by omega)
    have heq : dist.getD x.toNat (-1) = dist'.getD x.toNat (-1) + dist.getD d'.toNat (-1) := by omega
    have hmem : (an : Int) ∈ nextL t down' dist' x d' := (mem_next ht).2 ⟨q1, q2, on_iff.2 ⟨hu an (by simp), by rw [q2]; exact hxd, by rw [getD_01 (by omega)]; exact i2, hover, by
      rw [q2, getD_01 (by omega), getD_01 (by omega)]; omega⟩⟩
    have hall : ∀ b ∈ nextL t down' dist' x d', b = (an : Int) := fun b hb => by
      obtain ⟨r1, r2, r3, r4, r5, r6, r7, r8, r9, r10⟩ := next_down ht hI' hb
      have hon' := on_iff.1 ((mem_next ht).1 hb).2.2
      have hle2 := two_le ht hI hI' hd0 hd0' hd1' hup hov hK (dist'.getD (t.head b).toNat (-1)).toNat (t.head b).toNat (by omega) r8 (by omega)
      have hov2 : t.head b = d ∨ t.over (t.head b) = false := by
        rcases hon'.2.2.2.1 with h | h
        · rw [h]; exact hov
        · exact .inr h
      obtain ⟨bn, rfl⟩ : ∃ m : Nat, b = m := ⟨b.toNat, by have := r1.1; omega⟩
      have hs2 := hI.stable bn (by have := r1.2; simp only [Topo.gr]; omega) (by
        simp only [Topo.gr, useB, Topo.Y, Bool.false_eq_true, if_false, Bool.and_eq_true, Bool.or_eq_true, decide_eq_true_eq, Bool.not_eq_true']
        exact ⟨hup bn r1 hon'.1, hov2⟩) (by simpa only [Topo.gr, Topo.Y, Bool.false_eq_true, if_false] using hle2.1)
      simp only [Topo.gr, Topo.X, Topo.Y, Bool.false_eq_true, if_false] at hs2
      rw [r2] at hs2
      have : (bn : Int) ∈ nextL t down dist x d := (mem_next ht).2 ⟨r1, r2, on_iff.2 ⟨hup bn r1 hon'.1, by rw [r2]; exact hd, by rw [getD_01 (by omega)]; exact hle2.1, hov2, by
        rw [r2, getD_01 (by omega), getD_01 (by omega)]; omega⟩⟩
      rw [hn] at this
      simpa using this
    exact ⟨⟨hxd, eq_single hmem hall (nextL_nodup ..), i1⟩, hs.1, heq⟩
end
end Go.V
/- Path of layer 11's document. -/
set_option linter.unusedVariables false
set_option linter.unusedSimpArgs false
namespace Go.V
open Go.RowKit Go.Proofs
attribute [local irreducible] wp seqK lexK opK callK upd sto Good GoodR

noncomputable def ptV (t : Topo) (down : List Bool) (s d : Int) : List Int :=
  if distE t down d = 0 then if 0 ≤ s ∧ s < t.n then if 0 ≤ (distL t down d false).getD s.toNat (-1) then fpath t down (distL t down d false) d s else [] else [] else []
noncomputable def ptE (t : Topo) (down : List Bool) (s d : Int) : Int :=
  if distE t down d = 0 then if 0 ≤ s ∧ s < t.n then if 0 ≤ (distL t down d false).getD s.toNat (-1) then 0 else 11 else 2 else distE t down d
theorem nextK_first {t : Topo} {down : List Bool} {dist : List Int} {n d : Int} {k : Nat} (hk : k < 2 * t.ls.length) (h0 : nextK t down dist n d k = []) (hp : nextP t down dist n d k = true) : ∃ l, nextL t down dist n d = (k : Int) :: l := by
  have key : ∀ m, ∃ l, nextK t down dist n d (k + 1 + m) = (k : Int) :: l := by
    intro m
    induction m with
    | zero => exact ⟨[], by rw [Nat.add_zero, nextK_succ, h0, hp]; rfl⟩
    | succ m ih =>
      obtain ⟨l, hl⟩ := ih
      exact ⟨_, by rw [← Nat.add_assoc, nextK_succ, hl]; rfl⟩
  obtain ⟨l, hl⟩ := key (2 * t.ls.length - (k + 1))
  exact ⟨l, by rw [show k + 1 + (2 * t.ls.length - (k + 1)) = 2 * t.ls.length by omega] at hl; exact hl⟩

structure PthI (t : Topo) (down : List Bool) (dist : List Int) (d s n : Int) (p : List Int) : Prop where
  n0 : 0 ≤ n
  n1 : n < t.n
  r : 0 ≤ dist.getD n.toNat (-1)
  all : p ++ fpath t down dist d n = fpath t down dist d s
theorem PthI.step {t : Topo} {down : List Bool} {dist : List Int} {d s n a : Int} {p l : List Int} (ht : t.ok = true) (hI : SP.IsDist (t.gr down d false) dist) (h : PthI t down dist d s n p) (hd : n ≠ d) (hn : nextL t down dist n d = a :: l) :
    PthI t down dist d s (t.head a) (p ++ [a]) ∧ rankN dist (t.head a) < rankN dist n := by
  have ha : a ∈ nextL t down dist n d := by rw [hn]; simp
  obtain ⟨_, _, _, _, _, h6, h7, h8, _, _⟩ := next_down ht hI ha
  refine ⟨⟨h6, h7, h8, ?_⟩, next_rank ht hI ha⟩
  have := h.all
  rw [fpath_step ht hI h.n0 h.n1 h.r hd hn] at this
  rw [← this]; simp

set_option maxHeartbeats 4000000 in
theorem path11_good (t : Topo) (down : List Bool) (s d : Int) : Good Try.prog 36 [pvT t, .slc 1 (bools down), .int .i64 s, .int .i64 d] (.tup [.slc 1 (ints (ptV t down s d)), .int .i64 (ptE t down s d)]) := by
  have hs := rdist_good t down d
  refine v_enter ttok mixed Try.func36 (by kernel_rfl) rfl Try.ntmps36 Try.results36 (by simp) ?_; rw [fresh_sto]; simp only [argEnv, List.range, List.range.loop, List.length_cons, List.length_nil, List.zip_cons_cons, List.zip_nil_left]
  unfold ptV ptE
  rcases distR_cases t down d false with ⟨h1, h2, h3, h4, h5⟩ | ⟨e, h1, h2, h5⟩
  · rw [h5] at hs
    rw [if_pos h4, if_pos h4]
    have ht := maskOk_ok h1
    have hml := maskOk_len h1
    have hI := distL_is ht down h2 h3 false
    have hDok := isDist_ok ht hI
    have hln := gr_n ht hI
    obtain ⟨hn1, hn2, hn3, hn4⟩ := Topo.frame_n (Topo.ok_frame ht)
    generalize distL t down d false = dist at *
    by_cases c1 : s < 0
    · rw [if_neg (by omega), if_neg (by omega)]
      (repeat (first | refine Stp.go ?_ | refine v_region ?_ | refine v_regionD ?_ | refine v_blocky (by decide) ?_ | ((first | refine v_o rfl ?_ ?_ | refine v_oD rfl ?_ ?_); (focus (simp only [pvT, ite_bool, c1, go_sem]; done)); simp only [Env.put]) | ((first | refine v_u rfl fun K hK => ?_ | refine v_g rfl fun K hK => ?_ | refine v_uD rfl fun K hK => ?_ | refine v_gD rfl fun K hK => ?_); simp only [pvT, ite_bool, c1, go_sem]) | ((refine callK_pure (fun hc => hs) rfl ?_; simp only [upds, eq_self, true_or, true_and])) | refine v_end ?_ | refine v_endD (by kernel_rfl) ?_ | (refine hK _ _ ?_; clear hK K) | refine ⟨by (first | trivial | assumption | omega | (intros; first | assumption | omega)), ?_⟩ | (apply v_condb; (focus (simp only [pvT, ite_bool, c1, go_sem]; first | exact pvt | exact pvf)); simp only [cond_true, cond_false]) | fail))
      (first | refine v_fin_n ?_ | refine v_fin_r ?_); simp only [ resK, one, PV.snap, go_sem]
      exact Wk.two (Wk.nil 1) (.refl _)
    · by_cases c2 : t.n ≤ s
      · rw [if_neg (by omega), if_neg (by omega)]
        (repeat (first | refine Stp.go ?_ | refine v_region ?_ | refine v_regionD ?_ | refine v_blocky (by decide) ?_ | ((first | refine v_o rfl ?_ ?_ | refine v_oD rfl ?_ ?_); (focus (simp only [pvT, ite_bool, c1, c2, go_sem]; done)); simp only [Env.put]) | ((first | refine v_u rfl fun K hK => ?_ | refine v_g rfl fun K hK => ?_ | refine v_uD rfl fun K hK => ?_ | refine v_gD rfl fun K hK => ?_); simp only [pvT, ite_bool, c1, c2, go_sem]) | ((refine callK_pure (fun hc => hs) rfl ?_; simp only [upds, eq_self, true_or, true_and])) | refine v_end ?_ | refine v_endD (by kernel_rfl) ?_ | (refine hK _ _ ?_; clear hK K) | refine ⟨by (first | trivial | assumption | omega | (intros; first | assumption | omega)), ?_⟩ | (apply v_condb; (focus (simp only [pvT, ite_bool, c1, c2, go_sem]; first | exact pvt | exact pvf)); simp only [cond_true, cond_false]) | fail))
        (first | refine v_fin_n ?_ | refine v_fin_r ?_); simp only [ resK, one, PV.snap, go_sem]
        exact Wk.two (Wk.nil 1) (.refl _)
      · have c12 : 0 ≤ s ∧ s < t.n := ⟨by omega, by omega⟩
        rw [if_pos c12, if_pos c12]
        have y1 : s < dist.length := by omega
        have y2 : 0 ≤ s := by omega
        have y3 : (ints dist).getD s.toNat .undef = .int .i64 (dist.getD s.toNat (-1)) := ints_get' (by omega)
        have h00 : ∀ h : 0 ≤ dist.getD s.toNat (-1), PthI t down dist d s s [] := fun h => ⟨y2, by omega, h, rfl⟩
        generalize hdx : dist.getD s.toNat (-1) = dx at *
        by_cases c3 : dx < 0
        · rw [if_neg (by omega), if_neg (by omega)]
          (repeat (first | refine Stp.go ?_ | refine v_region ?_ | refine v_regionD ?_ | refine v_blocky (by decide) ?_ | ((first | refine v_o rfl ?_ ?_ | refine v_oD rfl ?_ ?_); (focus (simp only [pvT, ite_bool, ints_length, c1, c2, c3, y1, y2, y3, go_sem]; done)); simp only [Env.put]) | ((first | refine v_u rfl fun K hK => ?_ | refine v_g rfl fun K hK => ?_ | refine v_uD rfl fun K hK => ?_ | refine v_gD rfl fun K hK => ?_); simp only [pvT, ite_bool, ints_length, c1, c2, c3, y1, y2, y3, go_sem]) | ((refine callK_pure (fun hc => hs) rfl ?_; simp only [upds, eq_self, true_or, true_and])) | refine v_end ?_ | refine v_endD (by kernel_rfl) ?_ | (refine hK _ _ ?_; clear hK K) | refine ⟨by (first | trivial | assumption | omega | (intros; first | assumption | omega)), ?_⟩ | (apply v_condb; (focus (simp only [pvT, ite_bool, ints_length, c1, c2, c3, y1, y2, y3, go_sem]; first | exact pvt | exact pvf)); simp only [cond_true, cond_false]) | fail))
          (first | refine v_fin_n ?_ | refine v_fin_r ?_); simp only [ resK, one, PV.snap, go_sem]
          exact Wk.two (Wk.nil 1) (.refl _)
        · rw [if_pos (by omega), if_pos (by omega)]
          have h00 := h00 (by omega)
          have hfl := fpath_length t down dist d s
          (repeat (first | refine Stp.go ?_ | refine v_region ?_ | refine v_regionD ?_ | refine v_blocky (by decide) ?_ | ((first | refine v_o rfl ?_ ?_ | refine v_oD rfl ?_ ?_); (focus (simp only [pvT, ite_bool, ints_length, c1, c2, c3, y1, y2, y3, go_sem]; done)); simp only [Env.put]) | ((first | refine v_u rfl fun K hK => ?_ | refine v_g rfl fun K hK => ?_ | refine v_uD rfl fun K hK => ?_ | refine v_gD rfl fun K hK => ?_); simp only [pvT, ite_bool, ints_length, c1, c2, c3, y1, y2, y3, go_sem]) | ((refine callK_pure (fun hc => hs) rfl ?_; simp only [upds, eq_self, true_or, true_and])) | refine v_end ?_ | refine v_endD (by kernel_rfl) ?_ | (refine hK _ _ ?_; clear hK K) | refine ⟨by (first | trivial | assumption | omega | (intros; first | assumption | omega)), ?_⟩ | (apply v_condb; (focus (simp only [pvT, ite_bool, ints_length, c1, c2, c3, y1, y2, y3, go_sem]; first | exact pvt | exact pvf)); simp only [cond_true, cond_false]) | fail))
          refine v_loop [1, 2, 3, 4, 10, 12] (fun x : Int × List Int => PthI t down dist d s x.1 x.2) (fun x => rankN dist x.1)
            (fun x => [.slc 1 (bools down), .int .i64 x.1, .int .i64 d, .ptr 102 3 0 0, .slc 1 (ints dist), osl 101 x.2]) (fun x => (102, .row 25 3 [pvT t]) :: oslG 101 3 x.2) (s, []) h00 ?_ ?_
          · exact (fits_sto _ (fun x => if x = 102 then 1000 else x) (by simp [Env.get, PV.renL, PV.ren , pvT, osl_nil, oslG_nil, renL_ints, refsL_ints]) (by simp [PV.refsL, PV.refs , pvT, osl_nil, oslG_nil, renL_ints, refsL_ints]) (by simp [SC.live, SC.ren, SC.refs, PV.renL, PV.ren, PV.refsL, PV.refs, sto_cons, sto_nil , pvT, osl_nil, oslG_nil, renL_ints, refsL_ints]) (by simp [oslG_nil]))
          · rintro ⟨n, p⟩ hpi
            simp only at hpi
            simp only [List.zip_cons_cons, List.zip_nil_left]
            by_cases hnd : n = d
            · have hp : p = fpath t down dist d s := by
                have := hpi.all
                rw [hnd, fpath_dest (by omega), List.append_nil] at this
                exact this
              rw [← hp]
              clear hpi hp
              subst hnd
              by_cases hnil : p = []
              · subst hnil
                rw [osl_nil, oslG_nil]
                (repeat (first | refine Stp.go ?_ | refine v_region ?_ | refine v_regionD ?_ | refine v_blocky (by decide) ?_ | ((first | refine v_o rfl ?_ ?_ | refine v_oD rfl ?_ ?_); (focus (simp only [pvT, ints_length, eq_self, decide_true, not_true_eq_false, decide_false, Bool.not_true, go_sem]; done)); simp only [Env.put]) | ((first | refine v_u rfl fun K hK => ?_ | refine v_g rfl fun K hK => ?_ | refine v_uD rfl fun K hK => ?_ | refine v_gD rfl fun K hK => ?_); simp only [pvT, ints_length, eq_self, decide_true, not_true_eq_false, decide_false, Bool.not_true, go_sem]) | (refine v_loopx ?_) | refine v_end ?_ | refine v_endD (by kernel_rfl) ?_ | (refine hK _ _ ?_; clear hK K) | refine ⟨by (first | trivial | assumption | omega | (intros; first | assumption | omega)), ?_⟩ | (apply v_condb; (focus (simp only [pvT, ints_length, eq_self, decide_true, not_true_eq_false, decide_false, Bool.not_true, go_sem]; first | exact pvt | exact pvf)); simp only [cond_true, cond_false]) | fail))
                (first | refine v_fin_n ?_ | refine v_fin_r ?_); simp only [ resK, one, PV.snap, go_sem]
                exact Wk.two (Wk.nil 1) (.refl _)
              · rw [osl_some hnil, oslG_some hnil]
                (repeat (first | refine Stp.go ?_ | refine v_region ?_ | refine v_regionD ?_ | refine v_blocky (by decide) ?_ | ((first | refine v_o rfl ?_ ?_ | refine v_oD rfl ?_ ?_); (focus (simp only [pvT, ints_length, eq_self, decide_true, not_true_eq_false, decide_false, Bool.not_true, go_sem]; done)); simp only [Env.put]) | ((first | refine v_u rfl fun K hK => ?_ | refine v_g rfl fun K hK => ?_ | refine v_uD rfl fun K hK => ?_ | refine v_gD rfl fun K hK => ?_); simp only [pvT, ints_length, eq_self, decide_true, not_true_eq_false, decide_false, Bool.not_true, go_sem]) | (refine v_loopx ?_) | refine v_end ?_ | refine v_endD (by kernel_rfl) ?_ | (refine hK _ _ ?_; clear hK K) | refine ⟨by (first | trivial | assumption | omega | (intros; first | assumption | omega)), ?_⟩ | (apply v_condb; (focus (simp only [pvT, ints_length, eq_self, decide_true, not_true_eq_false, decide_false, Bool.not_true, go_sem]; first | exact pvt | exact pvf)); simp only [cond_true, cond_false]) | fail))
                (first | refine v_fin_n ?_ | refine v_fin_r ?_); simp only [ resK, one, PV.snap, go_sem]
                refine Wk.two (wk_eq ?_) (.refl _)
                simp [sto_cons, ints_length, List.take_of_length_le, snap_ints]
            · have hsome : nextL t down dist n d ≠ [] := by
                have := next_some ht hI (n := n.toNat) (by have := hpi.n0; have := hpi.n1; omega) h2 (by have := hpi.n0; omega) hpi.r
                have e : ((n.toNat : Nat) : Int) = n := by have := hpi.n0; omega
                rw [e] at this; exact this
              have hpl : p.length ≤ 64 := by
                have := congrArg List.length hpi.all
                rw [List.length_append] at this
                omega
              have z1 : IntKind.i64.wrap (2 * (t.ls.length : Int)) = 2 * (t.ls.length : Int) := wrap_i64 (by omega) (by omega)
              have f1 : (p.length + 1) * 8 ≤ 140737488355328 := by omega
              have f2 : p.length + 1 ≤ 140737488355328 := by omega
              have f3 := ints_take_all p
              have f4 := no_room p.length
              have f5 : p.length ≤ p.length := Nat.le_refl _
              by_cases hnil : p = []
              · subst hnil
                rw [osl_nil, oslG_nil]
                (repeat (first | refine Stp.go ?_ | refine v_region ?_ | refine v_regionD ?_ | refine v_blocky (by decide) ?_ | ((first | refine v_o rfl ?_ ?_ | refine v_oD rfl ?_ ?_); (focus (simp only [pvT, ints_length, hnd, decide_false, not_false_eq_true, Bool.not_false, go_sem]; done)); simp only [Env.put]) | ((first | refine v_u rfl fun K hK => ?_ | refine v_g rfl fun K hK => ?_ | refine v_uD rfl fun K hK => ?_ | refine v_gD rfl fun K hK => ?_); simp only [pvT, ints_length, hnd, decide_false, not_false_eq_true, Bool.not_false, go_sem]) | (fail) | refine v_end ?_ | refine v_endD (by kernel_rfl) ?_ | (refine hK _ _ ?_; clear hK K) | refine ⟨by (first | trivial | assumption | omega | (intros; first | assumption | omega)), ?_⟩ | (apply v_condb; (focus (simp only [pvT, ints_length, hnd, decide_false, not_false_eq_true, Bool.not_false, go_sem]; first | exact pvt | exact pvf)); simp only [cond_true, cond_false]) | fail))
                refine v_loop [1, 2, 3, 4, 10, 12, 13] (fun j : Nat => j ≤ 2 * t.ls.length ∧ nextK t down dist n d j = []) (fun j => 2 * t.ls.length - j)
                  (fun j => [.slc 1 (bools down), .int .i64 n, .int .i64 d, .ptr 102 3 0 0, .slc 1 (ints dist), .nilS, .int .i64 j]) (fun j => (102, .row 25 3 [pvT t]) :: []) 0 ⟨Nat.zero_le _, rfl⟩ ?_ ?_
                · exact (fits_sto _ id (by simp [Env.get, PV.renL, PV.ren , pvT, renL_ints, refsL_ints]) (by simp [PV.refsL, PV.refs , pvT, renL_ints, refsL_ints]) (by simp [SC.live, SC.ren, SC.refs, PV.renL, PV.ren, PV.refsL, PV.refs, sto_cons, sto_nil , pvT, renL_ints, refsL_ints]) (by simp []))
                · rintro j ⟨hj, hj0⟩
                  simp only [List.zip_cons_cons, List.zip_nil_left]
                  by_cases hc : j < 2 * t.ls.length
                  · have ha : t.arc j := ⟨by omega, by omega⟩
                    have hsucc := nextK_succ t down dist n d j
                    rw [hj0, List.nil_append] at hsucc
                    have hfirst := nextK_first (t := t) (down := down) (dist := dist) (n := n) (d := d) hc hj0
                    have z2 : (j : Int) < 2 * (t.ls.length : Int) := by omega
                    have z3 : IntKind.i64.wrap ((j : Int) + 1) = ((j + 1 : Nat) : Int) := by rw [wrap_i64 (by omega) (by omega)]; omega
                    have hon := on_good t down dist j d ht ha hml hDok
                    have htl := rtail_good t j ht ha
                    have hhd := rhead_good t j ht ha
                    generalize hP : nextP t down dist n d j = pk at *
                    have hP' : (if decide (t.tail j = n) = true then onB t down dist j d else false) = pk := by rw [← hP]; unfold nextP; cases decide (t.tail j = n) <;> rfl
                    generalize onB t down dist j d = on at *
                    (repeat (first | refine Stp.go ?_ | refine v_region ?_ | refine v_regionD ?_ | refine v_blocky (by decide) ?_ | ((first | refine v_o rfl ?_ ?_ | refine v_oD rfl ?_ ?_); (focus (simp only [pvT, ite_bool, List.length_map, z1, z2, z3, hP', go_sem]; done)); simp only [Env.put]) | ((first | refine v_u rfl fun K hK => ?_ | refine v_g rfl fun K hK => ?_ | refine v_uD rfl fun K hK => ?_ | refine v_gD rfl fun K hK => ?_); simp only [pvT, ite_bool, List.length_map, z1, z2, z3, hP', go_sem]) | (first | (refine callK_pure (fun hc => htl) rfl ?_; simp only [upds, eq_self, true_or, true_and]) | (refine callK_pure (fun hc => hon) rfl ?_; simp only [upds, eq_self, true_or, true_and])) | refine v_end ?_ | refine v_endD (by kernel_rfl) ?_ | (refine hK _ _ ?_; clear hK K) | refine ⟨by (first | trivial | assumption | omega | (intros; first | assumption | omega)), ?_⟩ | (apply v_condb; (focus (simp only [pvT, ite_bool, List.length_map, z1, z2, z3, hP', go_sem]; first | exact pvt | exact pvf)); simp only [cond_true, cond_false]) | fail))
                    refine v_cond rfl (fun hx => ?_) (fun hx => ?_)
                    · have hx : pk = true := by simpa [hP'] using hx
                      obtain ⟨l, hl⟩ := hfirst hx
                      obtain ⟨s1, s2⟩ := hpi.step ht hI hnd hl
                      (repeat (first | refine Stp.go ?_ | refine v_region ?_ | refine v_regionD ?_ | refine v_blocky (by decide) ?_ | ((first | refine v_o rfl ?_ ?_ | refine v_oD rfl ?_ ?_); (focus (simp only [pvT, ints_length, rep1',  go_sem]; done)); simp only [Env.put]) | ((first | refine v_u rfl fun K hK => ?_ | refine v_g rfl fun K hK => ?_ | refine v_uD rfl fun K hK => ?_ | refine v_gD rfl fun K hK => ?_); simp only [pvT, ints_length, rep1',  go_sem]) | (first | (refine callK_pure (fun hc => hhd) rfl ?_; simp only [upds, eq_self, true_or, true_and]) | refine v_loopx ?_) | refine v_end ?_ | refine v_endD (by kernel_rfl) ?_ | (refine hK _ _ ?_; clear hK K) | refine ⟨by (first | trivial | assumption | omega | (intros; first | assumption | omega)), ?_⟩ | (apply v_condb; (focus (simp only [pvT, ints_length, rep1',  go_sem]; first | exact pvt | exact pvf)); simp only [cond_true, cond_false]) | fail))
                      refine v_round (t.head j, [] ++ [(j : Int)]) s1 s2 (fits_sto _ (fun x => if x = 101 then 15003 else x) (by simp [Env.get, PV.renL, PV.ren , pvT, renL_ints, refsL_ints, osl_cons, oslG_cons, ints]) (by simp [PV.refsL, PV.refs , pvT, renL_ints, refsL_ints, osl_cons, oslG_cons, ints]) (by simp [SC.live, SC.ren, SC.refs, PV.renL, PV.ren, PV.refsL, PV.refs, sto_cons, sto_nil , pvT, renL_ints, refsL_ints, osl_cons, oslG_cons, ints]) (by simp [oslG_cons]))
                    · have hx : pk = false := by simpa [hP'] using hx
                      rw [hx] at hsucc
                      simp only [Bool.false_eq_true, if_false] at hsucc
                      (repeat (first | refine Stp.go ?_ | refine v_region ?_ | refine v_regionD ?_ | refine v_blocky (by decide) ?_ | ((first | refine v_o rfl ?_ ?_ | refine v_oD rfl ?_ ?_); (focus (simp only [z3, go_sem]; done)); simp only [Env.put]) | ((first | refine v_u rfl fun K hK => ?_ | refine v_g rfl fun K hK => ?_ | refine v_uD rfl fun K hK => ?_ | refine v_gD rfl fun K hK => ?_); simp only [z3, go_sem]) | (fail) | refine v_end ?_ | refine v_endD (by kernel_rfl) ?_ | (refine hK _ _ ?_; clear hK K) | refine ⟨by (first | trivial | assumption | omega | (intros; first | assumption | omega)), ?_⟩ | (apply v_condb; (focus (simp only [z3, go_sem]; first | exact pvt | exact pvf)); simp only [cond_true, cond_false]) | fail))
                      refine v_round (j + 1) ⟨hc, hsucc⟩ (by omega) (fits_sto _ id (by simp [Env.get, PV.renL, PV.ren , pvT, renL_ints, refsL_ints]) (by simp [PV.refsL, PV.refs , pvT, renL_ints, refsL_ints]) (by simp [SC.live, SC.ren, SC.refs, PV.renL, PV.ren, PV.refsL, PV.refs, sto_cons, sto_nil , pvT, renL_ints, refsL_ints]) (by simp []))
                  · exfalso
                    have e : j = 2 * t.ls.length := by omega
                    rw [e] at hj0
                    exact hsome hj0
              · rw [osl_some hnil, oslG_some hnil]
                (repeat (first | refine Stp.go ?_ | refine v_region ?_ | refine v_regionD ?_ | refine v_blocky (by decide) ?_ | ((first | refine v_o rfl ?_ ?_ | refine v_oD rfl ?_ ?_); (focus (simp only [pvT, ints_length, hnd, decide_false, not_false_eq_true, Bool.not_false, go_sem]; done)); simp only [Env.put]) | ((first | refine v_u rfl fun K hK => ?_ | refine v_g rfl fun K hK => ?_ | refine v_uD rfl fun K hK => ?_ | refine v_gD rfl fun K hK => ?_); simp only [pvT, ints_length, hnd, decide_false, not_false_eq_true, Bool.not_false, go_sem]) | (fail) | refine v_end ?_ | refine v_endD (by kernel_rfl) ?_ | (refine hK _ _ ?_; clear hK K) | refine ⟨by (first | trivial | assumption | omega | (intros; first | assumption | omega)), ?_⟩ | (apply v_condb; (focus (simp only [pvT, ints_length, hnd, decide_false, not_false_eq_true, Bool.not_false, go_sem]; first | exact pvt | exact pvf)); simp only [cond_true, cond_false]) | fail))
                refine v_loop [1, 2, 3, 4, 10, 12, 13] (fun j : Nat => j ≤ 2 * t.ls.length ∧ nextK t down dist n d j = []) (fun j => 2 * t.ls.length - j)
                  (fun j => [.slc 1 (bools down), .int .i64 n, .int .i64 d, .ptr 102 3 0 0, .slc 1 (ints dist), .sref 101 1 0 p.length false, .int .i64 j]) (fun j => (102, .row 25 3 [pvT t]) :: [(101, .row 3 1 (ints p))]) 0 ⟨Nat.zero_le _, rfl⟩ ?_ ?_
                · exact (fits_sto _ id (by simp [Env.get, PV.renL, PV.ren , pvT, renL_ints, refsL_ints]) (by simp [PV.refsL, PV.refs , pvT, renL_ints, refsL_ints]) (by simp [SC.live, SC.ren, SC.refs, PV.renL, PV.ren, PV.refsL, PV.refs, sto_cons, sto_nil , pvT, renL_ints, refsL_ints]) (by simp []))
                · rintro j ⟨hj, hj0⟩
                  simp only [List.zip_cons_cons, List.zip_nil_left]
                  by_cases hc : j < 2 * t.ls.length
                  · have ha : t.arc j := ⟨by omega, by omega⟩
                    have hsucc := nextK_succ t down dist n d j
                    rw [hj0, List.nil_append] at hsucc
                    have hfirst := nextK_first (t := t) (down := down) (dist := dist) (n := n) (d := d) hc hj0
                    have z2 : (j : Int) < 2 * (t.ls.length : Int) := by omega
                    have z3 : IntKind.i64.wrap ((j : Int) + 1) = ((j + 1 : Nat) : Int) := by rw [wrap_i64 (by omega) (by omega)]; omega
                    have hon := on_good t down dist j d ht ha hml hDok
                    have htl := rtail_good t j ht ha
                    have hhd := rhead_good t j ht ha
                    generalize hP : nextP t down dist n d j = pk at *
                    have hP' : (if decide (t.tail j = n) = true then onB t down dist j d else false) = pk := by rw [← hP]; unfold nextP; cases decide (t.tail j = n) <;> rfl
                    generalize onB t down dist j d = on at *
                    (repeat (first | refine Stp.go ?_ | refine v_region ?_ | refine v_regionD ?_ | refine v_blocky (by decide) ?_ | ((first | refine v_o rfl ?_ ?_ | refine v_oD rfl ?_ ?_); (focus (simp only [pvT, ite_bool, List.length_map, z1, z2, z3, hP', go_sem]; done)); simp only [Env.put]) | ((first | refine v_u rfl fun K hK => ?_ | refine v_g rfl fun K hK => ?_ | refine v_uD rfl fun K hK => ?_ | refine v_gD rfl fun K hK => ?_); simp only [pvT, ite_bool, List.length_map, z1, z2, z3, hP', go_sem]) | (first | (refine callK_pure (fun hc => htl) rfl ?_; simp only [upds, eq_self, true_or, true_and]) | (refine callK_pure (fun hc => hon) rfl ?_; simp only [upds, eq_self, true_or, true_and])) | refine v_end ?_ | refine v_endD (by kernel_rfl) ?_ | (refine hK _ _ ?_; clear hK K) | refine ⟨by (first | trivial | assumption | omega | (intros; first | assumption | omega)), ?_⟩ | (apply v_condb; (focus (simp only [pvT, ite_bool, List.length_map, z1, z2, z3, hP', go_sem]; first | exact pvt | exact pvf)); simp only [cond_true, cond_false]) | fail))
                    refine v_cond rfl (fun hx => ?_) (fun hx => ?_)
                    · have hx : pk = true := by simpa [hP'] using hx
                      obtain ⟨l, hl⟩ := hfirst hx
                      obtain ⟨s1, s2⟩ := hpi.step ht hI hnd hl
                      (repeat (first | refine Stp.go ?_ | refine v_region ?_ | refine v_regionD ?_ | refine v_blocky (by decide) ?_ | ((first | refine v_o rfl ?_ ?_ | refine v_oD rfl ?_ ?_); (focus (simp only [pvT, ints_length, rep1', f1, f2, f3, f4, f5, go_sem]; done)); simp only [Env.put]) | ((first | refine v_u rfl fun K hK => ?_ | refine v_g rfl fun K hK => ?_ | refine v_uD rfl fun K hK => ?_ | refine v_gD rfl fun K hK => ?_); simp only [pvT, ints_length, rep1', f1, f2, f3, f4, f5, go_sem]) | (first | (refine callK_pure (fun hc => hhd) rfl ?_; simp only [upds, eq_self, true_or, true_and]) | refine v_loopx ?_) | refine v_end ?_ | refine v_endD (by kernel_rfl) ?_ | (refine hK _ _ ?_; clear hK K) | refine ⟨by (first | trivial | assumption | omega | (intros; first | assumption | omega)), ?_⟩ | (apply v_condb; (focus (simp only [pvT, ints_length, rep1', f1, f2, f3, f4, f5, go_sem]; first | exact pvt | exact pvf)); simp only [cond_true, cond_false]) | fail))
                      refine v_round (t.head j, p ++ [(j : Int)]) s1 s2 (fits_sto _ (fun x => if x = 101 then 15003 else x) (by simp [Env.get, PV.renL, PV.ren , pvT, renL_ints, refsL_ints, osl_snoc, oslG_snoc, ints_snoc]) (by simp [PV.refsL, PV.refs , pvT, renL_ints, refsL_ints, osl_snoc, oslG_snoc, ints_snoc]) (by simp [SC.live, SC.ren, SC.refs, PV.renL, PV.ren, PV.refsL, PV.refs, sto_cons, sto_nil , pvT, renL_ints, refsL_ints, osl_snoc, oslG_snoc, ints_snoc]) (by simp [oslG_snoc]))
                    · have hx : pk = false := by simpa [hP'] using hx
                      rw [hx] at hsucc
                      simp only [Bool.false_eq_true, if_false] at hsucc
                      (repeat (first | refine Stp.go ?_ | refine v_region ?_ | refine v_regionD ?_ | refine v_blocky (by decide) ?_ | ((first | refine v_o rfl ?_ ?_ | refine v_oD rfl ?_ ?_); (focus (simp only [z3, go_sem]; done)); simp only [Env.put]) | ((first | refine v_u rfl fun K hK => ?_ | refine v_g rfl fun K hK => ?_ | refine v_uD rfl fun K hK => ?_ | refine v_gD rfl fun K hK => ?_); simp only [z3, go_sem]) | (fail) | refine v_end ?_ | refine v_endD (by kernel_rfl) ?_ | (refine hK _ _ ?_; clear hK K) | refine ⟨by (first | trivial | assumption | omega | (intros; first | assumption | omega)), ?_⟩ | (apply v_condb; (focus (simp only [z3, go_sem]; first | exact pvt | exact pvf)); simp only [cond_true, cond_false]) | fail))
                      refine v_round (j + 1) ⟨hc, hsucc⟩ (by omega) (fits_sto _ id (by simp [Env.get, PV.renL, PV.ren , pvT, renL_ints, refsL_ints]) (by simp [PV.refsL, PV.refs , pvT, renL_ints, refsL_ints]) (by simp [SC.live, SC.ren, SC.refs, PV.renL, PV.ren, PV.refsL, PV.refs, sto_cons, sto_nil , pvT, renL_ints, refsL_ints]) (by simp []))
                  · exfalso
                    have e : j = 2 * t.ls.length := by omega
                    rw [e] at hj0
                    exact hsome hj0
  · rw [h5] at hs
    rw [if_neg (by omega), if_neg (by omega), h2]
    have c1 : ¬ e = 0 := by omega
    (repeat (first | refine Stp.go ?_ | refine v_region ?_ | refine v_regionD ?_ | refine v_blocky (by decide) ?_ | ((first | refine v_o rfl ?_ ?_ | refine v_oD rfl ?_ ?_); (focus (simp only [pvT, ite_bool, c1, go_sem]; done)); simp only [Env.put]) | ((first | refine v_u rfl fun K hK => ?_ | refine v_g rfl fun K hK => ?_ | refine v_uD rfl fun K hK => ?_ | refine v_gD rfl fun K hK => ?_); simp only [pvT, ite_bool, c1, go_sem]) | ((refine callK_pure (fun hc => hs) rfl ?_; simp only [upds, eq_self, true_or, true_and])) | refine v_end ?_ | refine v_endD (by kernel_rfl) ?_ | (refine hK _ _ ?_; clear hK K) | refine ⟨by (first | trivial | assumption | omega | (intros; first | assumption | omega)), ?_⟩ | (apply v_condb; (focus (simp only [pvT, ite_bool, c1, go_sem]; first | exact pvt | exact pvf)); simp only [cond_true, cond_false]) | fail))
    (first | refine v_fin_n ?_ | refine v_fin_r ?_); simp only [ resK, one, PV.snap, go_sem]
    exact Wk.two (Wk.nil 1) (.refl _)
end Go.V
/- Unique shortest paths, as Unique and Path answer. -/
set_option linter.unusedVariables false
set_option linter.unusedSimpArgs false
namespace Go.V
open Go.RowKit Go.Proofs
attribute [local irreducible] wp seqK lexK opK callK upd sto Good GoodR

theorem uniq_elim {t : Topo} {down : List Bool} {n d : Int} (h : uniqB t down n d = true) :
    distE t down d = 0 ∧ 0 ≤ n ∧ n < t.n ∧ 0 ≤ (distL t down d false).getD n.toNat (-1) ∧ cntC t down (distL t down d false) d 2 n = 1 := by
  simp only [uniqB, Bool.and_eq_true, decide_eq_true_eq] at h
  obtain ⟨h1, h2⟩ := h
  rw [cntE_nx (by decide)] at h1
  obtain ⟨he, h3, h4⟩ := nxE_ok h1
  obtain ⟨hk, hd0, hd1⟩ := distE_ok he
  have ht := maskOk_ok hk
  have hI := distL_is ht down hd0 hd1 false
  have hl := gr_n ht hI
  unfold cntV at h2
  rw [if_pos he, if_pos (show 0 ≤ n ∧ n < t.n from ⟨h3, h4⟩), if_pos (by decide)] at h2
  refine ⟨he, h3, h4, Classical.byContradiction fun hneg => ?_, h2⟩
  obtain ⟨m, rfl⟩ : ∃ m : Nat, n = m := ⟨n.toNat, by omega⟩
  rw [Int.toNat_natCast] at h2 hneg
  have hne : (m : Int) ≠ d := fun e => by
    have hz : (distL t down d false).getD d.toNat (-1) = 0 := hI.zero
    rw [← e, Int.toNat_natCast] at hz
    rw [← e] at hneg
    omega
  rw [cnt_sum ht hI (by decide) hd0 hd1 m h4 hne, nextL_none t ht down _ m d (.inr (by rw [Int.toNat_natCast, getD_01 (by omega)]; omega))] at h2
  simp at h2
theorem uniq_intro {t : Topo} {down : List Bool} {n d : Int} (he : distE t down d = 0) (h0 : 0 ≤ n) (h1 : n < t.n) (hc : cntC t down (distL t down d false) d 2 n = 1) : uniqB t down n d = true := by
  unfold uniqB cntE cntV
  rw [if_pos he, if_pos he, if_pos (show 0 ≤ n ∧ n < t.n from ⟨h0, h1⟩), if_pos (show 0 ≤ n ∧ n < t.n from ⟨h0, h1⟩), if_pos (by decide), if_pos (by decide)]
  unfold cntC at hc
  rw [hc]; rfl
theorem pt_ok {t : Topo} {down : List Bool} {n d : Int} (he : distE t down d = 0) (h0 : 0 ≤ n) (h1 : n < t.n) (hr : 0 ≤ (distL t down d false).getD n.toNat (-1)) :
    ptE t down n d = 0 ∧ ptV t down n d = fpath t down (distL t down d false) d n := by
  unfold ptE ptV
  rw [if_pos he, if_pos he, if_pos (show 0 ≤ n ∧ n < t.n from ⟨h0, h1⟩), if_pos (show 0 ≤ n ∧ n < t.n from ⟨h0, h1⟩), if_pos hr, if_pos hr]
  exact ⟨rfl, rfl⟩
theorem uniq_path {t : Topo} {down : List Bool} {n d : Int} (h : uniqB t down n d = true) : ptE t down n d = 0 ∧ Only t down (distL t down d false) d n (ptV t down n d) := by
  obtain ⟨he, h0, h1, hr, hc⟩ := uniq_elim h
  obtain ⟨hk, hd0, hd1⟩ := distE_ok he
  have ht := maskOk_ok hk
  have hI := distL_is ht down hd0 hd1 false
  obtain ⟨e1, e2⟩ := pt_ok he h0 h1 hr
  rw [e2]
  exact ⟨e1, uniq_only ht hI hd0 hd1 _ n (Nat.lt_succ_self _) h0 h1 hr hc⟩
theorem ptV_len (t : Topo) (down : List Bool) (s d : Int) : (ptV t down s d).length ≤ 64 := by
  unfold ptV
  split
  · rename_i he
    obtain ⟨hk, hd0, hd1⟩ := distE_ok he
    have ht := maskOk_ok hk
    have hl := gr_n ht (distL_is ht down hd0 hd1 false)
    have hf := Topo.frame_n (Topo.ok_frame ht)
    split
    · split
      · have := fpath_length t down (distL t down d false) d s
        omega
      · simp
    · simp
  · simp

end Go.V
