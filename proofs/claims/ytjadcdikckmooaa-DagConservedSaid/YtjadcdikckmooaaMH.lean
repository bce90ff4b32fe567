import Derived.Test.YtjadcdikckmooaaM5
/- A part of a proof, with no condition of its own. Merged texts: HP HQ H0 H1 H2 H3 H4 H5 H6. -/
/- Layer 3, in plain Lean: the lists of a heap, and what keeps them. -/
set_option linter.unusedVariables false
set_option linter.unusedSimpArgs false
namespace Go.V

namespace Heap

def lt (keys : List Int) (i k : Nat) : Bool := decide (keys.getD i 0 < keys.getD k 0) || (decide (keys.getD i 0 = keys.getD k 0) && decide (i < k))

theorem lt_irrefl (keys : List Int) (i : Nat) : lt keys i i = false := by simp [lt]
theorem lt_trans {keys : List Int} {a b c : Nat} (h : lt keys a b = true) (h' : lt keys b c = true) : lt keys a c = true := by
  simp only [lt, Bool.or_eq_true, Bool.and_eq_true, decide_eq_true_eq] at *; omega
theorem le_trans {keys : List Int} {a b c : Nat} (h : lt keys b a = false) (h' : lt keys c b = false) : lt keys c a = false := by
  rw [Bool.eq_false_iff] at *
  simp only [lt, Bool.or_eq_true, Bool.and_eq_true, decide_eq_true_eq, Ne] at *; omega
theorem lt_asymm {keys : List Int} {a b : Nat} (h : lt keys a b = true) : lt keys b a = false := by
  rw [Bool.eq_false_iff]
  simp only [lt, Bool.or_eq_true, Bool.and_eq_true, decide_eq_true_eq, Ne] at *; omega

def par (j : Nat) : Nat := (j - 1) / 2

/-- Items and places belong together: n items are held. -/
structure C (n : Nat) (arr : List Nat) (pl : List Int) : Prop where
  len : n ≤ arr.length
  item : ∀ j, j < n → arr.getD j 0 < pl.length ∧ pl.getD (arr.getD j 0) (-1) = j
  place : ∀ i, i < pl.length → 0 ≤ pl.getD i (-1) → (pl.getD i (-1)).toNat < n ∧ arr.getD (pl.getD i (-1)).toNat 0 = i

/-- All pairs are in order that do not touch a place, and its children are behind its parent. -/
structure E (n : Nat) (keys : List Int) (A : List Nat) (at_ : Nat) : Prop where
  one : ∀ j, j < n → 0 < j → j ≠ at_ → par j ≠ at_ → lt keys (A.getD j 0) (A.getD (par j) 0) = false
  two : ∀ j, j < n → 0 < j → par j = at_ → 0 < at_ → lt keys (A.getD j 0) (A.getD (par at_) 0) = false

def Ord (n : Nat) (keys : List Int) (A : List Nat) : Prop := ∀ j, j < n → 0 < j → lt keys (A.getD j 0) (A.getD (par j) 0) = false

theorem getD_set {α : Type} (l : List α) (j k : Nat) (x d : α) (hj : j < l.length) : (l.set j x).getD k d = if j = k then x else l.getD k d := by
  simp only [List.getD_eq_getElem?_getD, List.getElem?_set]
  by_cases h : j = k
  · subst h; simp [hj]
  · simp [h]

/-- An item moves to another's place, that one to the item's: two places are swapped. -/
theorem C.swap {n : Nat} {arr : List Nat} {pl : List Int} {i at_ k : Nat} (h : C n (arr.set at_ i) (pl.set i at_)) (hat : at_ < n) (hl : n ≤ arr.length) (hi : i < pl.length) (hk : k < n) (hne : k ≠ at_) :
    C n ((arr.set at_ (arr.getD k 0)).set k i) ((pl.set (arr.getD k 0) at_).set i k) := by
  obtain ⟨_, h2, h3⟩ := h
  have hal : at_ < arr.length := by omega
  have hkl : k < arr.length := by omega
  have hx := h2 k hk
  rw [getD_set _ _ _ _ _ hal, if_neg (Ne.symm hne)] at hx
  rw [List.length_set] at hx
  have hxi : arr.getD k 0 ≠ i := fun e => by
    have := hx.2
    rw [e, getD_set _ _ _ _ _ hi, if_pos rfl] at this
    omega
  rw [getD_set _ _ _ _ _ hi, if_neg (Ne.symm hxi)] at hx
  generalize hxx : arr.getD k 0 = x at *
  have hA : ∀ j, ((arr.set at_ x).set k i).getD j 0 = if k = j then i else if at_ = j then x else arr.getD j 0 := fun j => by
    rw [getD_set _ _ _ _ _ (by simpa using hkl), getD_set _ _ _ _ _ hal]
  have hP : ∀ j, ((pl.set x at_).set i k).getD j (-1) = if i = j then (k : Int) else if x = j then (at_ : Int) else pl.getD j (-1) := fun j => by
    rw [getD_set _ _ _ _ _ (by simpa using hi), getD_set _ _ _ _ _ hx.1]
  have hA0 : ∀ j, (arr.set at_ i).getD j 0 = if at_ = j then i else arr.getD j 0 := fun j => getD_set _ _ _ _ _ hal
  have hP0 : ∀ j, (pl.set i at_).getD j (-1) = if i = j then (at_ : Int) else pl.getD j (-1) := fun j => getD_set _ _ _ _ _ hi
  refine ⟨by simpa using hl, fun j hj => ?_, fun j hj hp => ?_⟩
  · rw [hA]
    by_cases e1 : k = j
    · subst e1
      rw [if_pos rfl, hP, if_pos rfl]
      exact ⟨by simpa using hi, rfl⟩
    · rw [if_neg e1]
      by_cases e2 : at_ = j
      · subst e2
        rw [if_pos rfl, hP, if_neg (Ne.symm hxi), if_pos rfl]
        exact ⟨by simpa using hx.1, rfl⟩
      · rw [if_neg e2]
        have := h2 j hj
        rw [hA0, if_neg e2, hP0] at this
        have n1 : i ≠ arr.getD j 0 := fun e => by
          have := this.2; rw [if_pos e] at this; omega
        rw [if_neg n1] at this
        have n2 : x ≠ arr.getD j 0 := fun e => by
          have h6 := this.2
          rw [← e, hx.2] at h6
          omega
        rw [hP, if_neg n1, if_neg n2]
        exact ⟨by simpa using this.1, this.2⟩
  · rw [hP] at hp ⊢
    simp only [List.length_set] at hj
    by_cases e1 : i = j
    · subst e1
      rw [if_pos rfl, hA]
      simp only [Int.toNat_natCast, if_pos rfl]
      exact ⟨hk, rfl⟩
    · rw [if_neg e1] at hp ⊢
      by_cases e2 : x = j
      · subst e2
        rw [if_pos rfl, hA]
        simp only [Int.toNat_natCast, if_pos rfl, if_neg hne]
        exact ⟨hat, rfl⟩
      · rw [if_neg e2] at hp ⊢
        have := h3 j (by simpa using hj) (by rw [hP0, if_neg e1]; exact hp)
        rw [hP0, if_neg e1, hA0] at this
        have n1 : at_ ≠ (pl.getD j (-1)).toNat := fun e => by
          have h6 := this.2; rw [if_pos e] at h6; exact e1 h6
        rw [if_neg n1] at this
        have n2 : k ≠ (pl.getD j (-1)).toNat := fun e => by
          have h6 := this.2
          rw [← e, hxx] at h6
          exact e2 h6
        rw [hA, if_neg n2, if_neg n1]
        exact this

/-- An item moves upward. -/
def up (keys : List Int) (i : Nat) (at_ : Nat) (arr : List Nat) (pl : List Int) : List Nat × List Int :=
  if h : 0 < at_ ∧ lt keys i (arr.getD ((at_ - 1) / 2) 0) = true then up keys i ((at_ - 1) / 2) (arr.set at_ (arr.getD ((at_ - 1) / 2) 0)) (pl.set (arr.getD ((at_ - 1) / 2) 0) at_)
  else (arr.set at_ i, pl.set i at_)
termination_by at_
decreasing_by omega

/-- The smaller of the children. -/
def kid (n : Nat) (keys : List Int) (k : Nat) (arr : List Nat) : Nat :=
  if 2 * k + 1 + 1 < n ∧ lt keys (arr.getD (2 * k + 1 + 1) 0) (arr.getD (2 * k + 1) 0) = true then 2 * k + 1 + 1 else 2 * k + 1
theorem kid_gt (n : Nat) (keys : List Int) (k : Nat) (arr : List Nat) : k < kid n keys k arr := by
  unfold kid; split <;> omega
theorem kid_par (n : Nat) (keys : List Int) (k : Nat) (arr : List Nat) : par (kid n keys k arr) = k := by
  unfold kid par; split <;> omega

/-- An item moves downward. -/
def down (n : Nat) (keys : List Int) (i : Nat) (k : Nat) (arr : List Nat) (pl : List Int) : List Nat × List Int :=
  if h : kid n keys k arr < n ∧ lt keys (arr.getD (kid n keys k arr) 0) i = true then down n keys i (kid n keys k arr) (arr.set k (arr.getD (kid n keys k arr) 0)) (pl.set (arr.getD (kid n keys k arr) 0) k)
  else (arr.set k i, pl.set i k)
termination_by n - k
decreasing_by have := kid_gt n keys k arr; omega

/-- What stays: lengths, and which items are held. -/
structure Same (n : Nat) (arr arr' : List Nat) (pl pl' : List Int) : Prop where
  len : arr'.length = arr.length
  plen : pl'.length = pl.length
  held : ∀ i, (0 ≤ pl'.getD i (-1)) ↔ (0 ≤ pl.getD i (-1))
  tail : ∀ j, n ≤ j → arr'.getD j 0 = arr.getD j 0

theorem Same.refl {n : Nat} {arr : List Nat} {pl : List Int} : Same n arr arr pl pl := ⟨rfl, rfl, fun _ => .rfl, fun _ _ => rfl⟩
theorem Same.trans {n : Nat} {a b c : List Nat} {p q r : List Int} (h : Same n a b p q) (h' : Same n b c q r) : Same n a c p r :=
  ⟨h'.len.trans h.len, h'.plen.trans h.plen, fun i => (h'.held i).trans (h.held i), fun j hj => (h'.tail j hj).trans (h.tail j hj)⟩

theorem swap_same {n : Nat} {arr : List Nat} {pl : List Int} {i at_ k : Nat} (h : C n (arr.set at_ i) (pl.set i at_)) (hat : at_ < n) (hl : n ≤ arr.length) (hi : i < pl.length) (hk : k < n) (hne : k ≠ at_) :
    Same n (arr.set at_ i) ((arr.set at_ (arr.getD k 0)).set k i) (pl.set i at_) ((pl.set (arr.getD k 0) at_).set i k) := by
  have hx := h.item k hk
  rw [getD_set _ _ _ _ _ (by omega), if_neg (Ne.symm hne), List.length_set] at hx
  refine ⟨by simp, by simp, fun j => ?_, fun j hj => ?_⟩
  · rw [getD_set _ _ _ _ _ (by simpa using hi), getD_set _ _ _ _ _ hx.1, getD_set _ _ _ _ _ hi]
    by_cases e1 : i = j
    · simp [e1]
    · rw [if_neg e1, if_neg e1]
      by_cases e2 : arr.getD k 0 = j
      · rw [if_pos e2, ← e2]
        have := hx.2
        rw [getD_set _ _ _ _ _ hi] at this
        split at this
        · rename_i e3; exact absurd (e3.trans e2) e1
        · rw [this]; simp
      · rw [if_neg e2]
  · rw [getD_set _ _ _ _ _ (by simp; omega), getD_set _ _ _ _ _ (by omega), getD_set _ _ _ _ _ (by omega), if_neg (by omega), if_neg (by omega), if_neg (by omega)]

theorem up_law {n : Nat} {keys : List Int} (i : Nat) (at_ : Nat) (arr : List Nat) (pl : List Int) (hat : at_ < n) (hl : n ≤ arr.length) (hi : i < pl.length) (hc : C n (arr.set at_ i) (pl.set i at_)) (he : E n keys (arr.set at_ i) at_) :
    ∃ p, p ≤ at_ ∧ C n (up keys i at_ arr pl).1 (up keys i at_ arr pl).2 ∧ E n keys (up keys i at_ arr pl).1 p ∧ (0 < p → lt keys i ((up keys i at_ arr pl).1.getD (par p) 0) = false) ∧ (up keys i at_ arr pl).1.getD p 0 = i ∧ (up keys i at_ arr pl).2.getD i (-1) = p ∧
      Same n (arr.set at_ i) (up keys i at_ arr pl).1 (pl.set i at_) (up keys i at_ arr pl).2 := by
  induction at_ using Nat.strongRecOn generalizing arr pl with
  | _ at_ ih =>
    rw [up]
    split
    · rename_i h
      obtain ⟨h0, h1⟩ := h
      have hp : (at_ - 1) / 2 < at_ := by omega
      have hpp : par at_ = (at_ - 1) / 2 := rfl
      rw [← hpp] at h1 hp ⊢
      have hsw := hc.swap hat hl hi (k := par at_) (by omega) (by omega)
      have hsm := swap_same hc hat hl hi (k := par at_) (by omega) (by omega)
      have hx := hc.item (par at_) (by omega)
      rw [getD_set _ _ _ _ _ (by omega), if_neg (by omega), List.length_set] at hx
      generalize hxx : arr.getD (par at_) 0 = x at *
      have hA0 : ∀ j, (arr.set at_ i).getD j 0 = if at_ = j then i else arr.getD j 0 := fun j => getD_set _ _ _ _ _ (by omega)
      have hA : ∀ j, ((arr.set at_ x).set (par at_) i).getD j 0 = if par at_ = j then i else if at_ = j then x else arr.getD j 0 := fun j => by
        rw [getD_set _ _ _ _ _ (by simp; omega), getD_set _ _ _ _ _ (by omega)]
      have hE : E n keys ((arr.set at_ x).set (par at_) i) (par at_) := by
        refine ⟨fun j hj h0j hne hpar => ?_, fun j hj h0j hpar hp0 => ?_⟩
        · rw [hA, if_neg (Ne.symm hne), hA, if_neg (Ne.symm hpar)]
          by_cases e1 : at_ = j
          · subst e1; exact absurd rfl hpar
          · rw [if_neg e1]
            by_cases e2 : at_ = par j
            · rw [if_pos e2]
              have := he.two j hj h0j e2.symm h0
              rw [hA0, if_neg e1, hA0, if_neg (by omega), hxx] at this
              exact this
            · rw [if_neg e2]
              have := he.one j hj h0j (Ne.symm e1) (Ne.symm e2)
              rw [hA0, if_neg e1, hA0, if_neg e2] at this
              exact this
        · have hq : par (par at_) < par at_ := by unfold par at *; omega
          rw [hA (par (par at_)), if_neg (by omega), if_neg (by omega)]
          have hxp : lt keys x (arr.getD (par (par at_)) 0) = false := by
            have := he.one (par at_) (by omega) hp0 (by omega) (by omega)
            rw [hA0, if_neg (by omega), hA0, if_neg (by omega), hxx] at this
            exact this
          have hjl : par at_ < j := by unfold par at *; omega
          rw [hA, if_neg (by omega)]
          by_cases e1 : at_ = j
          · rw [if_pos e1]; exact hxp
          · rw [if_neg e1]
            have := he.one j hj h0j (Ne.symm e1) (by omega)
            rw [hA0, if_neg e1, hA0, if_neg (by omega), hpar, hxx] at this
            exact le_trans hxp this
      obtain ⟨p, a1, a2, a3, a4, a5, a6, a7⟩ := ih (par at_) hp (arr.set at_ x) (pl.set x at_) (by omega) (by simpa using hl) (by simpa using hi) hsw hE
      exact ⟨p, by omega, a2, a3, a4, a5, a6, hsm.trans a7⟩
    · rename_i h
      refine ⟨at_, Nat.le_refl _, hc, he, fun h0 => ?_, ?_, ?_, .refl⟩
      · have hb : lt keys i (arr.getD (par at_) 0) = false := by
          rw [Bool.eq_false_iff]; exact fun hb => h ⟨h0, hb⟩
        have : par at_ < at_ := by unfold par; omega
        rw [getD_set _ _ _ _ _ (by omega), if_neg (by omega)]
        exact hb
      · rw [getD_set _ _ _ _ _ (by omega), if_pos rfl]
      · rw [getD_set _ _ _ _ _ hi, if_pos rfl]

theorem down_law {n : Nat} {keys : List Int} (i : Nat) (m : Nat) : ∀ (at_ : Nat) (arr : List Nat) (pl : List Int), n - at_ = m → at_ < n → n ≤ arr.length → i < pl.length → C n (arr.set at_ i) (pl.set i at_) → E n keys (arr.set at_ i) at_ →
    (0 < at_ → lt keys i (arr.getD (par at_) 0) = false) → C n (down n keys i at_ arr pl).1 (down n keys i at_ arr pl).2 ∧ Ord n keys (down n keys i at_ arr pl).1 ∧ Same n (arr.set at_ i) (down n keys i at_ arr pl).1 (pl.set i at_) (down n keys i at_ arr pl).2 := by
  induction m using Nat.strongRecOn with
  | _ m ih =>
    intro at_ arr pl hm hat hl hi hc he hup
    have hA0 : ∀ j, (arr.set at_ i).getD j 0 = if at_ = j then i else arr.getD j 0 := fun j => getD_set _ _ _ _ _ (by omega)
    have hkp := kid_par n keys at_ arr
    have hkg := kid_gt n keys at_ arr
    -- the smaller child is before both children
    have hsm : kid n keys at_ arr < n → ∀ j, j < n → 0 < j → par j = at_ → lt keys (arr.getD j 0) (arr.getD (kid n keys at_ arr) 0) = false := fun hk j hj h0 hp => by
      have hj2 : j = 2 * at_ + 1 ∨ j = 2 * at_ + 1 + 1 := by unfold par at hp; omega
      unfold kid at hk ⊢
      split
      · rename_i h
        rcases hj2 with rfl | rfl
        · exact lt_asymm h.2
        · exact lt_irrefl _ _
      · rename_i h
        rcases hj2 with rfl | rfl
        · exact lt_irrefl _ _
        · rw [Bool.eq_false_iff]; exact fun hb => h ⟨hj, hb⟩
    rw [down]
    split
    · rename_i h
      obtain ⟨h0, h1⟩ := h
      have hsw := hc.swap hat hl hi h0 (by omega)
      have hss := swap_same hc hat hl hi h0 (by omega)
      have hs := hsm h0
      generalize hkk : kid n keys at_ arr = k at *
      generalize hxx : arr.getD k 0 = x at *
      have hx := hc.item k h0
      rw [hA0, if_neg (by omega), hxx, List.length_set] at hx
      have hA : ∀ j, ((arr.set at_ x).set k i).getD j 0 = if k = j then i else if at_ = j then x else arr.getD j 0 := fun j => by
        rw [getD_set _ _ _ _ _ (by simp; omega), getD_set _ _ _ _ _ (by omega)]
      have hE : E n keys ((arr.set at_ x).set k i) k := by
        refine ⟨fun j hj h0j hne hpar => ?_, fun j hj h0j hpar hp0 => ?_⟩
        · rw [hA, if_neg (Ne.symm hne), hA, if_neg (Ne.symm hpar)]
          have hlt : par j < j := by unfold par; omega
          by_cases e1 : at_ = j
          · subst e1
            rw [if_pos rfl, if_neg (by omega)]
            have := he.two k h0 (by omega) hkp h0j
            rw [hA0, if_neg (by omega), hA0, if_neg (by omega), hxx] at this
            exact this
          · rw [if_neg e1]
            by_cases e2 : at_ = par j
            · rw [if_pos e2]; exact hs j hj h0j e2.symm
            · rw [if_neg e2]
              have := he.one j hj h0j (Ne.symm e1) (Ne.symm e2)
              rw [hA0, if_neg e1, hA0, if_neg e2] at this
              exact this
        · rw [hkp, hA, if_neg (by unfold par at hpar; omega), if_neg (by unfold par at hpar; omega), hA, if_neg (by omega), if_pos rfl]
          have := he.one j hj h0j (by unfold par at hpar; omega) (by omega)
          rw [hA0, if_neg (by unfold par at hpar; omega), hA0, if_neg (by omega), hpar, hxx] at this
          exact this
      obtain ⟨b1, b2, b3⟩ := ih (n - k) (by omega) k (arr.set at_ x) (pl.set x at_) rfl h0 (by simpa using hl) (by simpa using hi) hsw hE (fun _ => by
        rw [hkp, getD_set _ _ _ _ _ (by omega), if_pos rfl]; exact lt_asymm h1)
      exact ⟨b1, b2, hss.trans b3⟩
    · rename_i h
      refine ⟨hc, fun j hj h0 => ?_, .refl⟩
      have hlt : par j < j := by unfold par; omega
      by_cases e1 : at_ = j
      · subst e1
        rw [hA0, if_pos rfl, hA0, if_neg (by omega)]
        exact hup h0
      · by_cases e2 : at_ = par j
        · rw [hA0, if_neg e1, hA0, if_pos e2]
          have hk : kid n keys at_ arr < n := by
            unfold kid par at *
            split <;> omega
          have hki : lt keys (arr.getD (kid n keys at_ arr) 0) i = false := by
            rw [Bool.eq_false_iff]; exact fun hb => h ⟨hk, hb⟩
          exact le_trans hki (hsm hk j hj h0 e2.symm)
        · exact he.one j hj h0 (Ne.symm e1) (Ne.symm e2)
end Heap
end Go.V
/- Layer 3, in plain Lean: what Set and Pop do to the items that are held. -/
set_option linter.unusedVariables false
set_option linter.unusedSimpArgs false
namespace Go.V
namespace Heap

/-- A heap as it is between calls. -/
structure H (n : Nat) (arr : List Nat) (keys pl : List Int) : Prop where
  c : C n arr pl
  o : Ord n keys arr
  same : keys.length = pl.length

theorem root_least {n : Nat} {keys : List Int} {A : List Nat} (h : Ord n keys A) : ∀ j, j < n → lt keys (A.getD j 0) (A.getD 0 0) = false := by
  intro j
  induction j using Nat.strongRecOn with
  | _ j ih =>
    intro hj
    rcases Nat.eq_zero_or_pos j with h0 | h0
    · subst h0; exact lt_irrefl _ _
    · have : par j < j := by unfold par; omega
      exact le_trans (ih (par j) this (by omega)) (h j hj h0)

theorem pigeon : ∀ (m n : Nat) (f : Nat → Nat), (∀ a, a < n → f a < m) → (∀ a b, a < n → b < n → f a = f b → a = b) → n ≤ m
  | 0, n, f, h, _ => Nat.le_of_not_lt fun hn => absurd (h 0 hn) (Nat.not_lt_zero _)
  | m + 1, n, f, h, hi => by
    by_cases hx : ∃ a, a < n ∧ f a = m
    · obtain ⟨a, ha, hm⟩ := hx
      have := pigeon m (n - 1) (fun j => if j < a then f j else f (j + 1)) (fun j hj => by
        split
        · have h1 := h j (by omega)
          have h2 : f j ≠ m := fun e => by have := hi j a (by omega) ha (e.trans hm.symm); omega
          omega
        · have h1 := h (j + 1) (by omega)
          have h2 : f (j + 1) ≠ m := fun e => by have := hi (j + 1) a (by omega) ha (e.trans hm.symm); omega
          omega) (fun x y hx hy e => by
        split at e <;> split at e
        · exact hi x y (by omega) (by omega) e
        · have := hi x (y + 1) (by omega) (by omega) e; omega
        · have := hi (x + 1) y (by omega) (by omega) e; omega
        · have := hi (x + 1) (y + 1) (by omega) (by omega) e; omega)
      omega
    · have := pigeon m n f (fun a ha => by
        have h1 := h a ha
        have h2 : f a ≠ m := fun e => hx ⟨a, ha, e⟩
        omega) hi
      omega

/-- The number of held items is the number of places in use. -/
theorem C.few {n : Nat} {arr : List Nat} {pl : List Int} (h : C n arr pl) : n ≤ pl.length := by
  -- the items are different numbers below the length
  have hinj : ∀ a b, a < n → b < n → arr.getD a 0 = arr.getD b 0 → a = b := fun a b ha hb e => by
    have h1 := (h.item a ha).2
    have h2 := (h.item b hb).2
    rw [e, h2] at h1
    omega
  exact pigeon pl.length n (fun j => arr.getD j 0) (fun j hj => (h.item j hj).1) hinj

/-- The lists behind Pop. -/
def take (n : Nat) (keys : List Int) (arr : List Nat) (pl : List Int) : List Nat × List Int :=
  if arr.getD 0 0 = arr.getD (n - 1) 0 then (arr, pl.set (arr.getD 0 0) (-1))
  else down (n - 1) keys (arr.getD (n - 1) 0) 0 (arr.set 0 (arr.getD (n - 1) 0)) ((pl.set (arr.getD 0 0) (-1)).set (arr.getD (n - 1) 0) ((0 : Nat) : Int))

theorem take_law {n : Nat} {arr : List Nat} {keys pl : List Int} (h : H n arr keys pl) (hn : 0 < n) :
    H (n - 1) (take n keys arr pl).1 keys (take n keys arr pl).2 ∧ (take n keys arr pl).1.length = arr.length ∧ (take n keys arr pl).2.length = pl.length ∧
      ∀ i, (0 ≤ (take n keys arr pl).2.getD i (-1)) ↔ (0 ≤ pl.getD i (-1) ∧ i ≠ arr.getD 0 0) := by
  obtain ⟨hc, ho, hs⟩ := h
  have hl := hc.len
  have h0 := hc.item 0 hn
  have h9 := hc.item (n - 1) (by omega)
  unfold take
  split
  · rename_i e
    have hone : n = 1 := by
      rw [← e, h0.2] at h9
      omega
    subst hone
    have hg : ∀ i, (pl.set (arr.getD 0 0) (-1)).getD i (-1) = if arr.getD 0 0 = i then -1 else pl.getD i (-1) := fun i => getD_set _ _ _ _ _ h0.1
    have hneg : ∀ i, i ≠ arr.getD 0 0 → ¬ 0 ≤ pl.getD i (-1) := fun i hi hp => by
      have hlt : i < pl.length := by
        refine Nat.lt_of_not_le fun hge => ?_
        rw [List.getD_eq_getElem?_getD, List.getElem?_eq_none hge] at hp
        simp at hp
      have := hc.place i hlt hp
      have h1 : (pl.getD i (-1)).toNat = 0 := by omega
      rw [h1] at this
      exact hi this.2.symm
    refine ⟨⟨⟨by omega, fun j hj => by omega, fun i hi hp => ?_⟩, fun j hj => by omega, by simpa using hs⟩, rfl, by simp, fun i => ?_⟩
    · rw [hg] at hp
      split at hp
      · omega
      · rename_i e1; exact absurd hp (hneg i (Ne.symm e1))
    · rw [hg]
      split
      · rename_i e1; subst e1; simp
      · rename_i e1
        exact ⟨fun hp => absurd hp (hneg i (Ne.symm e1)), fun hp => hp.1⟩
  · rename_i e
    generalize hi0 : arr.getD 0 0 = i at *
    generalize hll : arr.getD (n - 1) 0 = last at *
    have hn1 : 0 < n - 1 := by
      rcases Nat.eq_zero_or_pos (n - 1) with h | h
      · rw [h, hi0] at hll; exact absurd hll e
      · exact h
    have hA : ∀ j, (arr.set 0 last).getD j 0 = if 0 = j then last else arr.getD j 0 := fun j => getD_set _ _ _ _ _ (by omega)
    have hP : ∀ j, ((pl.set i (-1)).set last ((0 : Nat) : Int)).getD j (-1) = if last = j then ((0 : Nat) : Int) else if i = j then -1 else pl.getD j (-1) := fun j => by
      rw [getD_set _ _ _ _ _ (by simpa using h9.1), getD_set _ _ _ _ _ h0.1]
    have hset : (arr.set 0 last).set 0 last = arr.set 0 last := by simp
    have hset2 : ((pl.set i (-1)).set last ((0 : Nat) : Int)).set last ((0 : Nat) : Int) = (pl.set i (-1)).set last ((0 : Nat) : Int) := by simp
    have hinj : ∀ a b, a < n → b < n → arr.getD a 0 = arr.getD b 0 → a = b := fun a b ha hb e => by
      have h1 := (hc.item a ha).2
      have h2 := (hc.item b hb).2
      rw [e, h2] at h1
      omega
    have hC : C (n - 1) (arr.set 0 last) ((pl.set i (-1)).set last ((0 : Nat) : Int)) := by
      refine ⟨by simp; omega, fun j hj => ?_, fun j hj hp => ?_⟩
      · rw [hA]
        split
        · rename_i e1; rw [hP, if_pos rfl]; exact ⟨by simpa using h9.1, by omega⟩
        · rename_i e1
          have := hc.item j (by omega)
          have n1 : last ≠ arr.getD j 0 := fun e2 => by
            have := hinj (n - 1) j (by omega) (by omega) (by rw [hll]; exact e2); omega
          have n2 : i ≠ arr.getD j 0 := fun e2 => by
            have := hinj 0 j (by omega) (by omega) (by rw [hi0]; exact e2); omega
          rw [hP, if_neg n1, if_neg n2]
          exact ⟨by simpa using this.1, this.2⟩
      · rw [hP] at hp ⊢
        split at hp
        · rename_i e1
          rw [if_pos e1, hA]
          simp only [Int.toNat_natCast, if_true]
          exact ⟨hn1, e1⟩
        · rename_i e1
          rw [if_neg e1]
          split at hp
          · omega
          · rename_i e2
            rw [if_neg e2]
            simp only [List.length_set] at hj
            have := hc.place j hj hp
            have n1 : (pl.getD j (-1)).toNat ≠ 0 := fun e3 => by rw [e3, hi0] at this; exact e2 this.2
            have n2 : (pl.getD j (-1)).toNat ≠ n - 1 := fun e3 => by rw [e3, hll] at this; exact e1 this.2
            rw [hA, if_neg (Ne.symm n1)]
            exact ⟨by omega, this.2⟩
    have hE : E (n - 1) keys (arr.set 0 last) 0 := by
      refine ⟨fun j hj h0j hne hpar => ?_, fun j hj h0j hpar hp0 => absurd hp0 (Nat.lt_irrefl 0)⟩
      rw [hA, if_neg (Ne.symm hne), hA, if_neg (Ne.symm hpar)]
      exact ho j (by omega) h0j
    obtain ⟨b1, b2, b3⟩ := down_law (n := n - 1) (keys := keys) last (n - 1 - 0) 0 (arr.set 0 last) ((pl.set i (-1)).set last ((0 : Nat) : Int)) rfl hn1 (by simp; omega) (by simpa using h9.1) (by rw [hset, hset2]; exact hC) (by rw [hset]; exact hE) (fun h => absurd h (Nat.lt_irrefl 0))
    rw [hset, hset2] at b3
    refine ⟨⟨b1, b2, ?_⟩, ?_, ?_, fun k => ?_⟩
    · rw [b3.plen]; simpa using hs
    · rw [b3.len]; simp
    · rw [b3.plen]; simp
    · rw [b3.held k, hP]
      split
      · rename_i e1
        subst e1
        rw [h9.2]
        exact ⟨fun _ => ⟨by omega, Ne.symm e⟩, fun _ => by omega⟩
      · split
        · rename_i e1 e2; subst e2; simp
        · rename_i e1 e2; exact ⟨fun hp => ⟨hp, Ne.symm e2⟩, fun hp => hp.1⟩

/-- The lists behind Set: an item that is not held is laid behind the others first. -/
def add (n : Nat) (arr : List Nat) (pl : List Int) (i : Nat) : Nat × List Nat × List Int :=
  if pl.getD i (-1) < 0 then (n + 1, (if n < arr.length then arr.set n i else arr ++ [i]), pl.set i n) else (n, arr, pl)

theorem add_law {n : Nat} {arr : List Nat} {pl : List Int} (h : C n arr pl) {i : Nat} (hi : i < pl.length) (hx : ¬ n < arr.length → arr.length = n) :
    C (add n arr pl i).1 (add n arr pl i).2.1 (add n arr pl i).2.2 ∧ (add n arr pl i).2.2.length = pl.length ∧ (∃ p, p < (add n arr pl i).1 ∧ (add n arr pl i).2.2.getD i (-1) = (p : Nat) ∧ (add n arr pl i).2.1.getD p 0 = i ∧
      (pl.getD i (-1) < 0 → p = n)) ∧ (∀ j, j < n → (add n arr pl i).2.1.getD j 0 = arr.getD j 0) ∧ (∀ k, (0 ≤ (add n arr pl i).2.2.getD k (-1)) ↔ (0 ≤ pl.getD k (-1) ∨ k = i)) := by
  unfold add
  split
  · rename_i hneg
    have hg : ∀ k, (pl.set i (n : Int)).getD k (-1) = if i = k then (n : Int) else pl.getD k (-1) := fun k => getD_set _ _ _ _ _ hi
    have hA : ∀ j, (if n < arr.length then arr.set n i else arr ++ [i]).getD j 0 = if n = j then i else arr.getD j 0 := fun j => by
      split
      · rename_i hlt; exact getD_set _ _ _ _ _ hlt
      · rename_i hlt
        have he := hx hlt
        simp only [List.getD_eq_getElem?_getD, List.getElem?_append]
        by_cases e1 : j < arr.length
        · rw [if_pos e1, if_neg (by omega)]
        · rw [if_neg e1]
          by_cases e2 : n = j
          · rw [if_pos e2]; have : j - arr.length = 0 := by omega
            rw [this]; rfl
          · rw [if_neg e2, List.getElem?_eq_none (by simp; omega), List.getElem?_eq_none (by omega)]
    have hlen : n + 1 ≤ (if n < arr.length then arr.set n i else arr ++ [i]).length := by
      have := h.len
      split <;> simp <;> omega
    have hne : ∀ j, j < n → arr.getD j 0 ≠ i := fun j hj e => by
      have := (h.item j hj).2
      rw [e] at this
      omega
    refine ⟨⟨hlen, fun j hj => ?_, fun k hk hp => ?_⟩, by simp, ⟨n, by simp, by rw [hg, if_pos rfl], by rw [hA, if_pos rfl], fun _ => rfl⟩, fun j hj => by rw [hA, if_neg (by omega)], fun k => ?_⟩
    · rw [hA]
      by_cases e1 : n = j
      · rw [if_pos e1, hg, if_pos rfl]; exact ⟨by simpa using hi, by omega⟩
      · rw [if_neg e1, hg, if_neg (Ne.symm (hne j (by simp only at hj; omega)))]
        have := h.item j (by simp only at hj; omega)
        exact ⟨by simpa using this.1, this.2⟩
    · rw [hg] at hp ⊢
      simp only [List.length_set] at hk
      split at hp
      · rename_i e1
        rw [if_pos e1, hA]
        simp only [Int.toNat_natCast, if_true]
        exact ⟨by omega, e1⟩
      · rename_i e1
        rw [if_neg e1]
        have := h.place k hk hp
        refine ⟨Nat.lt_succ_of_lt this.1, ?_⟩
        rw [hA, if_neg (show n ≠ (pl.getD k (-1)).toNat by omega)]
        exact this.2
    · rw [hg]
      split
      · rename_i e1; exact ⟨fun _ => .inr e1.symm, fun _ => by omega⟩
      · rename_i e1; exact ⟨fun h => .inl h, fun h => h.resolve_right (Ne.symm e1)⟩
  · rename_i hneg
    have := h.place i hi (by omega)
    refine ⟨h, rfl, ⟨(pl.getD i (-1)).toNat, this.1, by simp only; omega, this.2, fun hh => absurd hh hneg⟩, fun _ _ => rfl, fun k => ⟨fun h => .inl h, fun hk => ?_⟩⟩
    rcases hk with hk | rfl
    · exact hk
    · simp only; omega

/-- The lists behind Set. -/
def set (n : Nat) (arr : List Nat) (keys pl : List Int) (i : Nat) (key : Int) : Nat × List Nat × List Int × List Int :=
  let keys' := keys.set i key
  let s := add n arr pl i
  let p := (s.2.2.getD i 0).toNat
  let u := up keys' (s.2.1.getD p 0) p s.2.1 s.2.2
  let q := (u.2.getD i 0).toNat
  let d := down s.1 keys' (u.1.getD q 0) q u.1 u.2
  (s.1, d.1, keys', d.2)

theorem set_self {α : Type} (l : List α) (p : Nat) (x d : α) (hp : p < l.length) (h : l.getD p d = x) : l.set p x = l := by
  apply List.ext_getElem?
  intro j
  rw [List.getElem?_set]
  by_cases e : p = j
  · subst e
    rw [if_pos rfl, if_pos hp]
    simp only [List.getD_eq_getElem?_getD, List.getElem?_eq_getElem hp, Option.getD_some] at h
    rw [List.getElem?_eq_getElem hp, h]
  · rw [if_neg e]

theorem lt_set {keys : List Int} {i a b : Nat} {key : Int} (ha : a ≠ i) (hb : b ≠ i) : lt (keys.set i key) a b = lt keys a b := by
  have h : ∀ k, k ≠ i → (keys.set i key).getD k 0 = keys.getD k 0 := fun k hk => by
    simp only [List.getD_eq_getElem?_getD, List.getElem?_set, if_neg (Ne.symm hk)]
  unfold lt
  rw [h a ha, h b hb]

theorem C.inj {n : Nat} {arr : List Nat} {pl : List Int} (h : C n arr pl) {a b : Nat} (ha : a < n) (hb : b < n) (e : arr.getD a 0 = arr.getD b 0) : a = b := by
  have h1 := (h.item a ha).2
  have h2 := (h.item b hb).2
  rw [e, h2] at h1
  omega

theorem getD_of {l : List Int} {i : Nat} (hi : i < l.length) (d d' : Int) : l.getD i d = l.getD i d' := by
  simp [List.getD, hi]

/-- The stages of Set. -/
theorem set_law {n : Nat} {arr : List Nat} {keys pl : List Int} (h : H n arr keys pl) {i : Nat} (hi : i < pl.length) (hx : ¬ n < arr.length → arr.length = n) (key : Int) :
    ∃ n1 arr1 pl1 p arr2 pl2 q arr3 pl3, (n1, arr1, pl1) = add n arr pl i ∧ pl1.getD i 0 = (p : Nat) ∧ p < n1 ∧ arr1.getD p 0 = i ∧ C n1 arr1 pl1 ∧ pl1.length = pl.length ∧ (arr2, pl2) = up (keys.set i key) i p arr1 pl1 ∧
      C n1 arr2 pl2 ∧ pl2.length = pl.length ∧ arr2.length = arr1.length ∧ pl2.getD i 0 = (q : Nat) ∧ q < n1 ∧ arr2.getD q 0 = i ∧ (arr3, pl3) = down n1 (keys.set i key) i q arr2 pl2 ∧
      H n1 arr3 (keys.set i key) pl3 ∧ arr3.length = arr1.length ∧ pl3.length = pl.length ∧ ∀ k, (0 ≤ pl3.getD k (-1)) ↔ (0 ≤ pl.getD k (-1) ∨ k = i) := by
  obtain ⟨hc, ho, hs⟩ := h
  obtain ⟨a1, a2, ⟨p, a3, a4, a5, a6⟩, a7, a8⟩ := add_law hc hi hx
  generalize hadd : add n arr pl i = s at *
  obtain ⟨n1, arr1, pl1⟩ := s
  simp only at a1 a2 a3 a4 a5 a6 a7 a8
  have hl1 := a1.len
  have hi1 : i < pl1.length := by omega
  have hn1 : n1 = if pl.getD i (-1) < 0 then n + 1 else n := by
    have := congrArg Prod.fst hadd
    rw [show n1 = (add n arr pl i).1 from this.symm]; unfold add; split <;> rfl
  have hE : E n1 (keys.set i key) arr1 p := by
    have hold : ∀ j, j < n1 → j ≠ p → j < n := fun j hj hne => by
      rw [hn1] at hj
      split at hj
      · rename_i hneg; have := a6 hneg; omega
      · exact hj
    have hni : ∀ j, j < n1 → j ≠ p → arr1.getD j 0 ≠ i := fun j hj hne e => hne (a1.inj hj a3 (e.trans a5.symm))
    refine ⟨fun j hj h0 hne hpar => ?_, fun j hj h0 hpar hp0 => ?_⟩
    · have hlt : par j < j := by unfold par; omega
      rw [lt_set (hni j hj hne) (hni (par j) (by omega) hpar), a7 j (hold j hj hne), a7 (par j) (hold (par j) (by omega) hpar)]
      exact ho j (hold j hj hne) h0
    · have hlt : par j < j := by unfold par; omega
      have hlt2 : par p < p := by unfold par; omega
      have hjn := hold j hj (by omega)
      rw [lt_set (hni j hj (by omega)) (hni (par p) (by omega) (by omega)), a7 j hjn, a7 (par p) (by omega)]
      have h1 := ho j hjn h0
      rw [hpar] at h1
      exact le_trans (ho p (by omega) hp0) h1
  have e1 : arr1.set p i = arr1 := set_self _ _ _ 0 (by omega) a5
  have e2 : pl1.set i (p : Int) = pl1 := set_self _ _ _ (-1) hi1 a4
  obtain ⟨q, b1, b2, b3, b4, b5, b6, b7⟩ := up_law (n := n1) (keys := keys.set i key) i p arr1 pl1 a3 hl1 hi1 (by rw [e1, e2]; exact a1) (by rw [e1]; exact hE)
  rw [e1, e2] at b7
  generalize hup : up (keys.set i key) i p arr1 pl1 = u at *
  obtain ⟨arr2, pl2⟩ := u
  simp only at b2 b3 b4 b5 b6 b7
  have hi2 : i < pl2.length := by have := b7.plen; omega
  have f1 : arr2.set q i = arr2 := set_self _ _ _ 0 (by have := b2.len; omega) b5
  have f2 : pl2.set i (q : Int) = pl2 := set_self _ _ _ (-1) hi2 b6
  obtain ⟨d1, d2, d3⟩ := down_law (n := n1) (keys := keys.set i key) i (n1 - q) q arr2 pl2 rfl (by omega) b2.len hi2 (by rw [f1, f2]; exact b2) (by rw [f1]; exact b3) b4
  rw [f1, f2] at d3
  generalize hdn : down n1 (keys.set i key) i q arr2 pl2 = d at *
  obtain ⟨arr3, pl3⟩ := d
  simp only at d1 d2 d3
  refine ⟨n1, arr1, pl1, p, arr2, pl2, q, arr3, pl3, rfl, by rw [getD_of hi1 0 (-1)]; exact a4, a3, a5, a1, a2, hup.symm, b2, by rw [b7.plen]; exact a2, b7.len, by rw [getD_of hi2 0 (-1)]; exact b6, by omega, b5, hdn.symm, ⟨d1, d2, ?_⟩, ?_, ?_, fun k => ?_⟩
  · rw [d3.plen, b7.plen, a2]; simpa using hs
  · rw [d3.len, b7.len]
  · rw [d3.plen, b7.plen, a2]
  · rw [d3.held, b7.held, a8]
end Heap
end Go.V
/- Layer 3: the heap's objects; its small functions. -/
set_option linter.unusedVariables false
set_option linter.unusedSimpArgs false
namespace Go.V
open Go.RowKit Go.Proofs
attribute [local irreducible] wp seqK lexK opK callK upd sto Good GoodR

/-- The heap's objects: the record, the items (of which n are held), the keys, the places. -/
def hobj (n : Nat) (arr : List Nat) (keys places : List Int) : List (Nat × SC) :=
  [(1, .row 136 3 [.agg [.sref 2 1 0 n false, .sref 3 1 0 keys.length false, .sref 4 1 0 places.length false]]), (2, .row 3 1 (nats arr)), (3, .row 3 1 (ints keys)), (4, .row 3 1 (ints places))]

/-- The heap, as its reading functions see it. -/
def hval (x : PV) (keys places : List Int) : PV := .vptr [x, .slc 1 (ints keys), .slc 1 (ints places)] 0

theorem before_good (x : PV) (keys places : List Int) (i k : Nat) (hi : i < keys.length) (hk : k < keys.length) : Good Try.prog 110 [hval x keys places, .int .i64 i, .int .i64 k] (.bool (Heap.lt keys i k)) := by
  refine v_enter ttok mixed Try.func110 (by kernel_rfl) rfl Try.ntmps110 Try.results110 (by simp) ?_; rw [fresh_sto]; simp only [argEnv, List.range, List.range.loop, List.length_cons, List.length_nil, List.zip_cons_cons, List.zip_nil_left]
  have e1 : (ints keys).getD i .undef = .int .i64 (keys.getD i 0) := ints_get hi
  have e2 : (ints keys).getD k .undef = .int .i64 (keys.getD k 0) := ints_get hk
  have v1 : (i : Int) < keys.length := by omega
  have v2 : (k : Int) < keys.length := by omega
  have v3 : (0 : Int) ≤ i := by omega
  have v4 : (0 : Int) ≤ k := by omega
  unfold Heap.lt
  generalize keys.getD i 0 = a at *
  generalize keys.getD k 0 = b at *
  (repeat (first | refine Stp.go ?_ | refine v_region ?_ | refine v_regionD ?_ | refine v_blocky (by decide) ?_ | ((first | refine v_o rfl ?_ ?_ | refine v_oD rfl ?_ ?_); (focus (simp only [hval, ints_length, ite_bool, e1, e2, v1, v2, v3, v4, go_sem]; done)); simp only [Env.put]) | ((first | refine v_u rfl fun K hK => ?_ | refine v_g rfl fun K hK => ?_ | refine v_uD rfl fun K hK => ?_ | refine v_gD rfl fun K hK => ?_); simp only [hval, ints_length, ite_bool, e1, e2, v1, v2, v3, v4, go_sem]) | (fail) | refine v_end ?_ | refine v_endD (by kernel_rfl) ?_ | (refine hK _ _ ?_; clear hK K) | refine ⟨by (first | trivial | assumption | omega | (intros; first | assumption | omega)), ?_⟩ | (apply v_condb; (focus (simp only [hval, ints_length, ite_bool, e1, e2, v1, v2, v3, v4, go_sem]; first | exact pvt | exact pvf)); simp only [cond_true, cond_false]) | fail))
  (first | refine v_fin_n ?_ | refine v_fin_r ?_); simp only [ resK, one, PV.snap, go_sem]
  refine wk_bool ?_
  by_cases h : a < b <;> by_cases h' : a = b <;> simp [h, h']

theorem put_good (n : Nat) (arr : List Nat) (keys places : List Int) (i at_ : Nat) (hn : n ≤ arr.length) (hat : at_ < n) (hi : i < places.length) :
    GoodR Try.prog 111 [.ptr 1 3 0 0, .int .i64 i, .int .i64 at_] (sto (hobj n arr keys places)) fun r g => r = .tup [] ∧ g = sto (hobj n (arr.set at_ i) keys (places.set i at_)) := by
  refine v_enterR ttok mixed Try.func111 (by kernel_rfl) rfl Try.ntmps111 Try.results111 (by simp) ?_; simp only [argEnv, List.range, List.range.loop, List.length_cons, List.length_nil, List.zip_cons_cons, List.zip_nil_left]
  have v1 : (at_ : Int) < n := by omega
  have v2 : (i : Int) < places.length := by omega
  have v3 : (0 : Int) ≤ i := by omega
  have v4 : (0 : Int) ≤ at_ := by omega
  have v5 : at_ < arr.length := by omega
  unfold hobj
  (repeat (first | refine Stp.go ?_ | refine v_region ?_ | refine v_regionD ?_ | refine v_blocky (by decide) ?_ | ((first | refine v_o rfl ?_ ?_ | refine v_oD rfl ?_ ?_); (focus (simp only [ints_length, nats_length, ite_bool, v1, v2, v3, v4, v5, hi, nats_get v5, ints_get hi, ints_set, nats_set, go_sem]; done)); simp only [Env.put]) | ((first | refine v_u rfl fun K hK => ?_ | refine v_g rfl fun K hK => ?_ | refine v_uD rfl fun K hK => ?_ | refine v_gD rfl fun K hK => ?_); simp only [ints_length, nats_length, ite_bool, v1, v2, v3, v4, v5, hi, nats_get v5, ints_get hi, ints_set, nats_set, go_sem]) | (fail) | refine v_end ?_ | refine v_endD (by kernel_rfl) ?_ | (refine hK _ _ ?_; clear hK K) | refine ⟨by (first | trivial | assumption | omega | (intros; first | assumption | omega)), ?_⟩ | (apply v_condb; (focus (simp only [ints_length, nats_length, ite_bool, v1, v2, v3, v4, v5, hi, nats_get v5, ints_get hi, ints_set, nats_set, go_sem]; first | exact pvt | exact pvf)); simp only [cond_true, cond_false]) | fail))
  (first | refine v_finR_n ?_ | refine v_finR_r ?_); simp only [ resK, go_sem]
  refine finR_sto (id) (.tup []) (hobj n (arr.set at_ i) keys (places.set i at_)) (⟨rfl, by simp [hobj]⟩) (by simp [one, PV.ren, PV.renL , hobj]) (by simp [PV.refs, PV.refsL , hobj]) (by simp [SC.live, SC.ren, SC.refs, PV.renL, PV.ren, PV.refsL, PV.refs, sto_cons, sto_nil, renL_ints, refsL_ints, renL_nats, refsL_nats, List.length_set , hobj]) (by simp )

theorem has_good (x : PV) (keys places : List Int) (i : Int) : Good Try.prog 105 [hval x keys places, .int .i64 i] (.bool (decide (0 ≤ i) && decide (i < places.length))) := by
  refine v_enter ttok mixed Try.func105 (by kernel_rfl) rfl Try.ntmps105 Try.results105 (by simp) ?_; rw [fresh_sto]; simp only [argEnv, List.range, List.range.loop, List.length_cons, List.length_nil, List.zip_cons_cons, List.zip_nil_left]
  (repeat (first | refine Stp.go ?_ | refine v_region ?_ | refine v_regionD ?_ | refine v_blocky (by decide) ?_ | ((first | refine v_o rfl ?_ ?_ | refine v_oD rfl ?_ ?_); (focus (simp only [hval, ints_length, ite_bool,  go_sem]; done)); simp only [Env.put]) | ((first | refine v_u rfl fun K hK => ?_ | refine v_g rfl fun K hK => ?_ | refine v_uD rfl fun K hK => ?_ | refine v_gD rfl fun K hK => ?_); simp only [hval, ints_length, ite_bool,  go_sem]) | (fail) | refine v_end ?_ | refine v_endD (by kernel_rfl) ?_ | (refine hK _ _ ?_; clear hK K) | refine ⟨by (first | trivial | assumption | omega | (intros; first | assumption | omega)), ?_⟩ | (apply v_condb; (focus (simp only [hval, ints_length, ite_bool,  go_sem]; first | exact pvt | exact pvf)); simp only [cond_true, cond_false]) | fail))
  (first | refine v_fin_n ?_ | refine v_fin_r ?_); simp only [ resK, one, PV.snap, go_sem]
  refine wk_bool ?_
  by_cases h : 0 ≤ i <;> simp [h]

theorem key_good (x : PV) (keys places : List Int) (i : Nat) (h : i < places.length) (hk : keys.length = places.length) : Good Try.prog 98 [hval x keys places, .int .i64 i]
    (if places.getD i 0 < 0 then .tup [.int .i64 0, .bool false] else .tup [.int .i64 (keys.getD i 0), .bool true]) := by
  refine v_enter ttok mixed Try.func98 (by kernel_rfl) rfl Try.ntmps98 Try.results98 (by simp) ?_; rw [fresh_sto]; simp only [argEnv, List.range, List.range.loop, List.length_cons, List.length_nil, List.zip_cons_cons, List.zip_nil_left]
  have e1 : (ints keys).getD i .undef = .int .i64 (keys.getD i 0) := ints_get (by omega)
  have e2 : (ints places).getD i .undef = .int .i64 (places.getD i 0) := ints_get h
  have v1 : (i : Int) < keys.length := by omega
  have v2 : (i : Int) < places.length := by omega
  have v3 : (0 : Int) ≤ i := by omega
  by_cases h' : places.getD i 0 < 0
  · rw [if_pos h']
    generalize places.getD i 0 = a at *
    generalize keys.getD i 0 = b at *
    (repeat (first | refine Stp.go ?_ | refine v_region ?_ | refine v_regionD ?_ | refine v_blocky (by decide) ?_ | ((first | refine v_o rfl ?_ ?_ | refine v_oD rfl ?_ ?_); (focus (simp only [hval, ints_length, ite_bool, e1, e2, v1, v2, v3, h', go_sem]; done)); simp only [Env.put]) | ((first | refine v_u rfl fun K hK => ?_ | refine v_g rfl fun K hK => ?_ | refine v_uD rfl fun K hK => ?_ | refine v_gD rfl fun K hK => ?_); simp only [hval, ints_length, ite_bool, e1, e2, v1, v2, v3, h', go_sem]) | ((refine callK_pure (fun hc => has_good x keys places i) rfl ?_; simp only [upds, eq_self, true_or, true_and])) | refine v_end ?_ | refine v_endD (by kernel_rfl) ?_ | (refine hK _ _ ?_; clear hK K) | refine ⟨by (first | trivial | assumption | omega | (intros; first | assumption | omega)), ?_⟩ | (apply v_condb; (focus (simp only [hval, ints_length, ite_bool, e1, e2, v1, v2, v3, h', go_sem]; first | exact pvt | exact pvf)); simp only [cond_true, cond_false]) | fail))
    (first | refine v_fin_n ?_ | refine v_fin_r ?_); simp only [ resK, one, PV.snap, go_sem]
    exact .refl _
  · rw [if_neg h']
    generalize places.getD i 0 = a at *
    generalize keys.getD i 0 = b at *
    (repeat (first | refine Stp.go ?_ | refine v_region ?_ | refine v_regionD ?_ | refine v_blocky (by decide) ?_ | ((first | refine v_o rfl ?_ ?_ | refine v_oD rfl ?_ ?_); (focus (simp only [hval, ints_length, ite_bool, e1, e2, v1, v2, v3, h', go_sem]; done)); simp only [Env.put]) | ((first | refine v_u rfl fun K hK => ?_ | refine v_g rfl fun K hK => ?_ | refine v_uD rfl fun K hK => ?_ | refine v_gD rfl fun K hK => ?_); simp only [hval, ints_length, ite_bool, e1, e2, v1, v2, v3, h', go_sem]) | ((refine callK_pure (fun hc => has_good x keys places i) rfl ?_; simp only [upds, eq_self, true_or, true_and])) | refine v_end ?_ | refine v_endD (by kernel_rfl) ?_ | (refine hK _ _ ?_; clear hK K) | refine ⟨by (first | trivial | assumption | omega | (intros; first | assumption | omega)), ?_⟩ | (apply v_condb; (focus (simp only [hval, ints_length, ite_bool, e1, e2, v1, v2, v3, h', go_sem]; first | exact pvt | exact pvf)); simp only [cond_true, cond_false]) | fail))
    (first | refine v_fin_n ?_ | refine v_fin_r ?_); simp only [ resK, one, PV.snap, go_sem]
    exact .refl _
end Go.V
/- Layer 3: an item moves upward. -/
set_option linter.unusedVariables false
set_option linter.unusedSimpArgs false
namespace Go.V
open Go.RowKit Go.Proofs
attribute [local irreducible] wp seqK lexK opK callK upd sto Good GoodR

/-- What holds of the heap's lists at all times. -/
structure HW (n : Nat) (arr : List Nat) (keys places : List Int) : Prop where
  len : n ≤ arr.length
  same : keys.length = places.length
  small : places.length ≤ 65536
  few : n ≤ 65536
  item : ∀ j, j < n → arr.getD j 0 < places.length

theorem HW.put {n : Nat} {arr : List Nat} {keys places : List Int} (h : HW n arr keys places) {i at_ : Nat} (hi : i < places.length) (x : Int) : HW n (arr.set at_ i) keys (places.set i x) := by
  refine ⟨by simpa using h.len, by simpa using h.same, by simpa using h.small, h.few, fun j hj => ?_⟩
  have hl := h.len
  simp only [List.length_set, List.getD_eq_getElem?_getD, List.getElem?_set]
  have := h.item j hj
  simp only [List.getD_eq_getElem?_getD] at this
  by_cases e : at_ = j
  · subst e; rw [if_pos rfl, if_pos (by omega)]; exact hi
  · rw [if_neg e]; exact this

theorem hsnap {g : Store} {a b c d n : Nat} {arr : List Nat} {keys places : List Int} (h1 : g a = .row 136 3 [.agg [.sref b 1 0 n false, .sref c 1 0 keys.length false, .sref d 1 0 places.length false]]) (h2 : g b = .row 3 1 (nats arr)) (h3 : g c = .row 3 1 (ints keys))
    (h4 : g d = .row 3 1 (ints places)) (hn : n ≤ arr.length) : PV.snap g 6 (.ptr a 3 0 0) = hval (.slc 1 (nats (arr.take n))) keys places := by
  have e1 : PV.snap g 5 (.sref b 1 0 n false) = .slc 1 (nats (arr.take n)) := by
    rw [PV.snap, h2]
    simp only [nats_length, Nat.zero_add, hn, and_self, if_true, List.drop_zero, nats_take, snap_nats]
  have e2 : PV.snap g 5 (.sref c 1 0 keys.length false) = .slc 1 (ints keys) := by
    rw [PV.snap, h3]
    simp only [ints_length, Nat.zero_add, Nat.le_refl, and_self, if_true, List.drop_zero, ints_take, List.take_length, snap_ints]
  have e3 : PV.snap g 5 (.sref d 1 0 places.length false) = .slc 1 (ints places) := by
    rw [PV.snap, h4]
    simp only [ints_length, Nat.zero_add, Nat.le_refl, and_self, if_true, List.drop_zero, ints_take, List.take_length, snap_ints]
  rw [PV.snap, h1]
  simp only [List.length_cons, List.length_nil, Nat.zero_add, Nat.lt_add_one, and_self, if_true, List.getD_cons_zero, PV.cells, List.map_cons, List.map_nil, e1, e2, e3]
  rfl

theorem hup_good (n : Nat) (arr : List Nat) (keys places : List Int) (at_ : Nat) (hw : HW n arr keys places) (hat : at_ < n) :
    GoodR Try.prog 106 [.ptr 1 3 0 0, .int .i64 at_] (sto (hobj n arr keys places)) fun r g => r = .tup [] ∧ g = sto (hobj n (Heap.up keys (arr.getD at_ 0) at_ arr places).1 keys (Heap.up keys (arr.getD at_ 0) at_ arr places).2) := by
  refine v_enterR ttok mixed Try.func106 (by kernel_rfl) rfl Try.ntmps106 Try.results106 (by simp) ?_; simp only [argEnv, List.range, List.range.loop, List.length_cons, List.length_nil, List.zip_cons_cons, List.zip_nil_left]
  have hl := hw.len
  have hk := hw.same
  have hsm := hw.small
  have hfew := hw.few
  have v1 : (at_ : Int) < n := by omega
  have v4 : (0 : Int) ≤ at_ := by omega
  have v5 : at_ < arr.length := by omega
  have hi := hw.item at_ hat
  unfold hobj
  (repeat (first | refine Stp.go ?_ | refine v_region ?_ | refine v_regionD ?_ | refine v_blocky (by decide) ?_ | ((first | refine v_o rfl ?_ ?_ | refine v_oD rfl ?_ ?_); (focus (simp only [ints_length, nats_length, v1, v4, v5, nats_get v5, go_sem]; done)); simp only [Env.put]) | ((first | refine v_u rfl fun K hK => ?_ | refine v_g rfl fun K hK => ?_ | refine v_uD rfl fun K hK => ?_ | refine v_gD rfl fun K hK => ?_); simp only [ints_length, nats_length, v1, v4, v5, nats_get v5, go_sem]) | (fail) | refine v_end ?_ | refine v_endD (by kernel_rfl) ?_ | (refine hK _ _ ?_; clear hK K) | refine ⟨by (first | trivial | assumption | omega | (intros; first | assumption | omega)), ?_⟩ | (apply v_condb; (focus (simp only [ints_length, nats_length, v1, v4, v5, nats_get v5, go_sem]; first | exact pvt | exact pvf)); simp only [cond_true, cond_false]) | fail))
  generalize arr.getD at_ 0 = i at *
  refine v_loop [0, 1, 4] (fun s : Nat × List Nat × List Int => s.1 < n ∧ HW n s.2.1 keys s.2.2 ∧ s.2.2.length = places.length ∧ Heap.up keys i s.1 s.2.1 s.2.2 = Heap.up keys i at_ arr places) (fun s => s.1)
    (fun s => [.ptr 1 3 0 0, .int .i64 s.1, .int .i64 i]) (fun s => hobj n s.2.1 keys s.2.2) (at_, arr, places) ⟨hat, hw, rfl, rfl⟩ ?_ ?_
  · exact (fits_sto _ id (by simp [Env.get, PV.renL, PV.ren , hobj, renL_ints, renL_nats, refsL_ints, refsL_nats]) (by simp [PV.refsL, PV.refs , hobj, renL_ints, renL_nats, refsL_ints, refsL_nats]) (by simp [SC.live, SC.ren, SC.refs, PV.renL, PV.ren, PV.refsL, PV.refs, sto_cons, sto_nil , hobj, renL_ints, renL_nats, refsL_ints, refsL_nats]) (by simp ))
  · rintro ⟨k, ar, pl⟩ ⟨h1, h2, h3, h4⟩
    simp only at h1 h2 h3 h4
    simp only [List.zip_cons_cons, List.zip_nil_left, hobj]
    have hl2 := h2.len
    have hk2 := h2.same
    have w1 : (0 : Int) ≤ k := by omega
    by_cases hz : (0 : Int) < k
    · have p1 : IntKind.i64.wrap ((k : Int) - 1) = ((k - 1 : Nat) : Int) := by rw [wrap_i64 (by omega) (by omega)]; omega
      have p2 : IntKind.i64.wrap (((k - 1 : Nat) : Int).tdiv 2) = (((k - 1) / 2 : Nat) : Int) := by rw [tdiv2 (by omega), wrap_i64 (by omega) (by omega)]; omega
      have p3 : (((k - 1) / 2 : Nat) : Int) < n := by omega
      have p4 : (k - 1) / 2 < ar.length := by omega
      have p5 := h2.item ((k - 1) / 2) (by omega)
      have p6 : (0 : Int) ≤ (((k - 1) / 2 : Nat) : Int) := by omega
      have hu := h4
      rw [Heap.up] at hu
      generalize hpar : ar.getD ((k - 1) / 2) 0 = par at *
      (repeat (first | refine Stp.go ?_ | refine v_region ?_ | refine v_regionD ?_ | refine v_blocky (by decide) ?_ | ((first | refine v_o rfl ?_ ?_ | refine v_oD rfl ?_ ?_); (focus (simp only [ints_length, nats_length, ite_bool, w1, hz, p1, p2, p3, p4, p6, nats_get p4, hpar, go_sem]; done)); simp only [Env.put]) | ((first | refine v_u rfl fun K hK => ?_ | refine v_g rfl fun K hK => ?_ | refine v_uD rfl fun K hK => ?_ | refine v_gD rfl fun K hK => ?_); simp only [ints_length, nats_length, ite_bool, w1, hz, p1, p2, p3, p4, p6, nats_get p4, hpar, go_sem]) | ((refine callK_lent (fun hc => before_good (.slc 1 (nats (ar.take n))) keys pl i par (by omega) (by omega)) (by simp only [List.map_cons, List.map_nil]; rw [hsnap (a := 1) (b := 2) (c := 3) (d := 4) (n := n) (arr := ar) (keys := keys) (places := pl) (by simp [sto_cons]) (by simp [sto_cons]) (by simp [sto_cons]) (by simp [sto_cons]) hl2]; rfl) rfl ?_; simp only [upds, eq_self, true_or, true_and])) | refine v_end ?_ | refine v_endD (by kernel_rfl) ?_ | (refine hK _ _ ?_; clear hK K) | refine ⟨by (first | trivial | assumption | omega | (intros; first | assumption | omega)), ?_⟩ | (apply v_condb; (focus (simp only [ints_length, nats_length, ite_bool, w1, hz, p1, p2, p3, p4, p6, nats_get p4, hpar, go_sem]; first | exact pvt | exact pvf)); simp only [cond_true, cond_false]) | fail))
      by_cases hb : Heap.lt keys i par = true
      · rw [dif_pos ⟨by omega, hb⟩] at hu
        (repeat (first | refine Stp.go ?_ | refine v_region ?_ | refine v_regionD ?_ | refine v_blocky (by decide) ?_ | (refine v_callR (by simp [dstOk]) rfl ?_; simp only [List.map_cons, List.map_nil, List.nil_append, List.append_nil, List.cons_append, Env.eval, Env.get, reduceIte, Nat.reduceEqDiff, List.toList_toArray, PV.ofConst]; refine callR_sto ([.ptr 1 3 0 0, .int .i64 par, .int .i64 k]) (hobj n ar keys pl) (id) (put_good n ar keys pl par k hl2 h1 (by omega)) (by simp [PV.renL, PV.ren , hobj]) (by simp [PV.refsL, PV.refs , hobj]) (by simp [SC.live, SC.ren, SC.refs, PV.renL, PV.ren, PV.refsL, PV.refs, sto_cons, sto_nil, renL_ints, refsL_ints, renL_nats, refsL_nats, List.length_set , hobj]) (by simp [id_eq , hobj]) ?_; rintro _ _ ⟨rfl, rfl⟩; refine ⟨hobj n (ar.set k par) keys (pl.set par k), id, rfl, (by simp [SC.live, SC.ren, SC.refs, PV.renL, PV.ren, PV.refsL, PV.refs, sto_cons, sto_nil, renL_ints, refsL_ints, renL_nats, refsL_nats, List.length_set , hobj]), (by simp [PV.refsL, PV.refs , hobj]), (by simp [Free, sto_cons, sto_nil , hobj]), (by simp [id_eq , hobj]), ?_⟩; simp only [backL, List.map_cons, List.map_nil, List.cons_append, List.nil_append, SC.ren, PV.renL, PV.ren, renL_ints, renL_nats, id_eq, Env.put , hobj]) | ((first | refine v_o rfl ?_ ?_ | refine v_oD rfl ?_ ?_); (focus (simp only [hz, hb, ints_length, nats_length, w1, p1, p2, p3, p4, p6, nats_get p4, hpar,  go_sem]; done)); simp only [Env.put]) | ((first | refine v_u rfl fun K hK => ?_ | refine v_g rfl fun K hK => ?_ | refine v_uD rfl fun K hK => ?_ | refine v_gD rfl fun K hK => ?_); simp only [hz, hb, ints_length, nats_length, w1, p1, p2, p3, p4, p6, nats_get p4, hpar,  go_sem]) | (fail) | refine v_end ?_ | refine v_endD (by kernel_rfl) ?_ | (refine hK _ _ ?_; clear hK K) | refine ⟨by (first | trivial | assumption | omega | (intros; first | assumption | omega)), ?_⟩ | (apply v_condb; (focus (simp only [hz, hb, ints_length, nats_length, w1, p1, p2, p3, p4, p6, nats_get p4, hpar,  go_sem]; first | exact pvt | exact pvf)); simp only [cond_true, cond_false]) | fail))
        refine v_round ((k - 1) / 2, ar.set k par, pl.set par k) ⟨by omega, ?_, ?_, hu⟩ (by simp only; omega) (fits_sto _ id (by simp [Env.get, PV.renL, PV.ren , hobj, renL_ints, renL_nats, refsL_ints, refsL_nats]) (by simp [PV.refsL, PV.refs , hobj, renL_ints, renL_nats, refsL_ints, refsL_nats]) (by simp [SC.live, SC.ren, SC.refs, PV.renL, PV.ren, PV.refsL, PV.refs, sto_cons, sto_nil , hobj, renL_ints, renL_nats, refsL_ints, refsL_nats]) (by simp ))
        · exact h2.put p5 _
        · simpa using h3
      · have hb' : Heap.lt keys i par = false := by simpa using hb
        rw [dif_neg (fun h => hb h.2)] at hu
        (repeat (first | refine Stp.go ?_ | refine v_region ?_ | refine v_regionD ?_ | refine v_blocky (by decide) ?_ | (refine v_callR (by simp [dstOk]) rfl ?_; simp only [List.map_cons, List.map_nil, List.nil_append, List.append_nil, List.cons_append, Env.eval, Env.get, reduceIte, Nat.reduceEqDiff, List.toList_toArray, PV.ofConst]; refine callR_sto ([.ptr 1 3 0 0, .int .i64 i, .int .i64 k]) (hobj n ar keys pl) (id) (put_good n ar keys pl i k hl2 h1 (by omega)) (by simp [PV.renL, PV.ren , hobj]) (by simp [PV.refsL, PV.refs , hobj]) (by simp [SC.live, SC.ren, SC.refs, PV.renL, PV.ren, PV.refsL, PV.refs, sto_cons, sto_nil, renL_ints, refsL_ints, renL_nats, refsL_nats, List.length_set , hobj]) (by simp [id_eq , hobj]) ?_; rintro _ _ ⟨rfl, rfl⟩; refine ⟨hobj n (ar.set k i) keys (pl.set i k), id, rfl, (by simp [SC.live, SC.ren, SC.refs, PV.renL, PV.ren, PV.refsL, PV.refs, sto_cons, sto_nil, renL_ints, refsL_ints, renL_nats, refsL_nats, List.length_set , hobj]), (by simp [PV.refsL, PV.refs , hobj]), (by simp [Free, sto_cons, sto_nil , hobj]), (by simp [id_eq , hobj]), ?_⟩; simp only [backL, List.map_cons, List.map_nil, List.cons_append, List.nil_append, SC.ren, PV.renL, PV.ren, renL_ints, renL_nats, id_eq, Env.put , hobj]) | ((first | refine v_o rfl ?_ ?_ | refine v_oD rfl ?_ ?_); (focus (simp only [hz, hb', ints_length, nats_length, w1, p1, p2, p3, p4, p6, nats_get p4, hpar,  go_sem]; done)); simp only [Env.put]) | ((first | refine v_u rfl fun K hK => ?_ | refine v_g rfl fun K hK => ?_ | refine v_uD rfl fun K hK => ?_ | refine v_gD rfl fun K hK => ?_); simp only [hz, hb', ints_length, nats_length, w1, p1, p2, p3, p4, p6, nats_get p4, hpar,  go_sem]) | (refine v_loopx ?_) | refine v_end ?_ | refine v_endD (by kernel_rfl) ?_ | (refine hK _ _ ?_; clear hK K) | refine ⟨by (first | trivial | assumption | omega | (intros; first | assumption | omega)), ?_⟩ | (apply v_condb; (focus (simp only [hz, hb', ints_length, nats_length, w1, p1, p2, p3, p4, p6, nats_get p4, hpar,  go_sem]; first | exact pvt | exact pvf)); simp only [cond_true, cond_false]) | fail))
        (first | refine v_finR_n ?_ | refine v_finR_r ?_); simp only [ resK, go_sem]
        refine finR_sto (id) (.tup []) (hobj n (ar.set k i) keys (pl.set i k)) (⟨rfl, by rw [← hu]; rfl⟩) (by simp [one, PV.ren, PV.renL , hobj]) (by simp [PV.refs, PV.refsL , hobj]) (by simp [SC.live, SC.ren, SC.refs, PV.renL, PV.ren, PV.refsL, PV.refs, sto_cons, sto_nil, renL_ints, refsL_ints, renL_nats, refsL_nats, List.length_set , hobj]) (by simp )
    · have hu := h4
      rw [Heap.up, dif_neg (fun h => by omega)] at hu
      (repeat (first | refine Stp.go ?_ | refine v_region ?_ | refine v_regionD ?_ | refine v_blocky (by decide) ?_ | (refine v_callR (by simp [dstOk]) rfl ?_; simp only [List.map_cons, List.map_nil, List.nil_append, List.append_nil, List.cons_append, Env.eval, Env.get, reduceIte, Nat.reduceEqDiff, List.toList_toArray, PV.ofConst]; refine callR_sto ([.ptr 1 3 0 0, .int .i64 i, .int .i64 k]) (hobj n ar keys pl) (id) (put_good n ar keys pl i k hl2 h1 (by omega)) (by simp [PV.renL, PV.ren , hobj]) (by simp [PV.refsL, PV.refs , hobj]) (by simp [SC.live, SC.ren, SC.refs, PV.renL, PV.ren, PV.refsL, PV.refs, sto_cons, sto_nil, renL_ints, refsL_ints, renL_nats, refsL_nats, List.length_set , hobj]) (by simp [id_eq , hobj]) ?_; rintro _ _ ⟨rfl, rfl⟩; refine ⟨hobj n (ar.set k i) keys (pl.set i k), id, rfl, (by simp [SC.live, SC.ren, SC.refs, PV.renL, PV.ren, PV.refsL, PV.refs, sto_cons, sto_nil, renL_ints, refsL_ints, renL_nats, refsL_nats, List.length_set , hobj]), (by simp [PV.refsL, PV.refs , hobj]), (by simp [Free, sto_cons, sto_nil , hobj]), (by simp [id_eq , hobj]), ?_⟩; simp only [backL, List.map_cons, List.map_nil, List.cons_append, List.nil_append, SC.ren, PV.renL, PV.ren, renL_ints, renL_nats, id_eq, Env.put , hobj]) | ((first | refine v_o rfl ?_ ?_ | refine v_oD rfl ?_ ?_); (focus (simp only [hz, ite_bool, ints_length, nats_length, w1,  go_sem]; done)); simp only [Env.put]) | ((first | refine v_u rfl fun K hK => ?_ | refine v_g rfl fun K hK => ?_ | refine v_uD rfl fun K hK => ?_ | refine v_gD rfl fun K hK => ?_); simp only [hz, ite_bool, ints_length, nats_length, w1,  go_sem]) | (refine v_loopx ?_) | refine v_end ?_ | refine v_endD (by kernel_rfl) ?_ | (refine hK _ _ ?_; clear hK K) | refine ⟨by (first | trivial | assumption | omega | (intros; first | assumption | omega)), ?_⟩ | (apply v_condb; (focus (simp only [hz, ite_bool, ints_length, nats_length, w1,  go_sem]; first | exact pvt | exact pvf)); simp only [cond_true, cond_false]) | fail))
      (first | refine v_finR_n ?_ | refine v_finR_r ?_); simp only [ resK, go_sem]
      refine finR_sto (id) (.tup []) (hobj n (ar.set k i) keys (pl.set i k)) (⟨rfl, by rw [← hu]; rfl⟩) (by simp [one, PV.ren, PV.renL , hobj]) (by simp [PV.refs, PV.refsL , hobj]) (by simp [SC.live, SC.ren, SC.refs, PV.renL, PV.ren, PV.refsL, PV.refs, sto_cons, sto_nil, renL_ints, refsL_ints, renL_nats, refsL_nats, List.length_set , hobj]) (by simp )
end Go.V
/- Layer 3: an item moves downward. -/
set_option linter.unusedVariables false
set_option linter.unusedSimpArgs false
namespace Go.V
open Go.RowKit Go.Proofs
attribute [local irreducible] wp seqK lexK opK callK upd sto Good GoodR

set_option maxHeartbeats 4000000 in
theorem down_good (n : Nat) (arr : List Nat) (keys places : List Int) (at_ : Nat) (hw : HW n arr keys places) (hat : at_ < n) :
    GoodR Try.prog 107 [.ptr 1 3 0 0, .int .i64 at_] (sto (hobj n arr keys places)) fun r g => r = .tup [] ∧ g = sto (hobj n (Heap.down n keys (arr.getD at_ 0) at_ arr places).1 keys (Heap.down n keys (arr.getD at_ 0) at_ arr places).2) := by
  refine v_enterR ttok mixed Try.func107 (by kernel_rfl) rfl Try.ntmps107 Try.results107 (by simp) ?_; simp only [argEnv, List.range, List.range.loop, List.length_cons, List.length_nil, List.zip_cons_cons, List.zip_nil_left]
  have hl := hw.len
  have hk := hw.same
  have hsm := hw.small
  have hfew := hw.few
  have v1 : (at_ : Int) < n := by omega
  have v4 : (0 : Int) ≤ at_ := by omega
  have v5 : at_ < arr.length := by omega
  have hi := hw.item at_ hat
  unfold hobj
  (repeat (first | refine Stp.go ?_ | refine v_region ?_ | refine v_regionD ?_ | refine v_blocky (by decide) ?_ | ((first | refine v_o rfl ?_ ?_ | refine v_oD rfl ?_ ?_); (focus (simp only [ints_length, nats_length, v1, v4, v5, nats_get v5, go_sem]; done)); simp only [Env.put]) | ((first | refine v_u rfl fun K hK => ?_ | refine v_g rfl fun K hK => ?_ | refine v_uD rfl fun K hK => ?_ | refine v_gD rfl fun K hK => ?_); simp only [ints_length, nats_length, v1, v4, v5, nats_get v5, go_sem]) | (fail) | refine v_end ?_ | refine v_endD (by kernel_rfl) ?_ | (refine hK _ _ ?_; clear hK K) | refine ⟨by (first | trivial | assumption | omega | (intros; first | assumption | omega)), ?_⟩ | (apply v_condb; (focus (simp only [ints_length, nats_length, v1, v4, v5, nats_get v5, go_sem]; first | exact pvt | exact pvf)); simp only [cond_true, cond_false]) | fail))
  generalize arr.getD at_ 0 = i at *
  refine v_loop [0, 1, 4] (fun s : Nat × List Nat × List Int => s.1 < n ∧ HW n s.2.1 keys s.2.2 ∧ s.2.2.length = places.length ∧ Heap.down n keys i s.1 s.2.1 s.2.2 = Heap.down n keys i at_ arr places) (fun s => n - s.1)
    (fun s => [.ptr 1 3 0 0, .int .i64 s.1, .int .i64 i]) (fun s => hobj n s.2.1 keys s.2.2) (at_, arr, places) ⟨hat, hw, rfl, rfl⟩ ?_ ?_
  · exact (fits_sto _ id (by simp [Env.get, PV.renL, PV.ren , hobj, renL_ints, renL_nats, refsL_ints, refsL_nats]) (by simp [PV.refsL, PV.refs , hobj, renL_ints, renL_nats, refsL_ints, refsL_nats]) (by simp [SC.live, SC.ren, SC.refs, PV.renL, PV.ren, PV.refsL, PV.refs, sto_cons, sto_nil , hobj, renL_ints, renL_nats, refsL_ints, refsL_nats]) (by simp ))
  · rintro ⟨k, ar, pl⟩ ⟨h1, h2, h3, h4⟩
    simp only at h1 h2 h3 h4
    simp only [List.zip_cons_cons, List.zip_nil_left, hobj]
    have hl2 := h2.len
    have hk2 := h2.same
    have w1 : (0 : Int) ≤ k := by omega
    have p1 : IntKind.i64.wrap (2 * (k : Int)) = ((2 * k : Nat) : Int) := by rw [wrap_i64 (by omega) (by omega)]; omega
    have p2 : IntKind.i64.wrap (((2 * k : Nat) : Int) + 1) = ((2 * k + 1 : Nat) : Int) := by rw [wrap_i64 (by omega) (by omega)]; omega
    have p3 : IntKind.i64.wrap (((2 * k + 1 : Nat) : Int) + 1) = ((2 * k + 1 + 1 : Nat) : Int) := by rw [wrap_i64 (by omega) (by omega)]; omega
    have p4 : (0 : Int) ≤ ((2 * k + 1 : Nat) : Int) := by omega
    have p5 : (0 : Int) ≤ ((2 * k + 1 + 1 : Nat) : Int) := by omega
    have hu := h4
    rw [Heap.down] at hu
    by_cases ca : 2 * k + 1 + 1 < n
    · have r1 : ((2 * k + 1 + 1 : Nat) : Int) < n := by omega
      have r2 : ((2 * k + 1 : Nat) : Int) < n := by omega
      have r3 : 2 * k + 1 + 1 < ar.length := by omega
      have r4 : 2 * k + 1 < ar.length := by omega
      have r5 := h2.item (2 * k + 1 + 1) ca
      have r6 := h2.item (2 * k + 1) (by omega)
      by_cases cb : Heap.lt keys (ar.getD (2 * k + 1 + 1) 0) (ar.getD (2 * k + 1) 0) = true
      · have e : Heap.kid n keys k ar = 2 * k + 1 + 1 := by unfold Heap.kid; rw [if_pos ⟨ca, cb⟩]
        rw [e] at hu
        have q1 : (0 : Int) ≤ (2 * k + 1 + 1 : Nat) := by omega
        by_cases c1 : 2 * k + 1 + 1 < n
        · have q2 : ¬ (n : Int) ≤ (2 * k + 1 + 1 : Nat) := by omega
          have q3 : ((2 * k + 1 + 1 : Nat) : Int) < n := by omega
          have q4 : 2 * k + 1 + 1 < ar.length := by omega
          have q5 := h2.item (2 * k + 1 + 1) c1
          by_cases c2 : Heap.lt keys (ar.getD (2 * k + 1 + 1) 0) i = true
          · rw [dif_pos ⟨c1, c2⟩] at hu
            (repeat (first | refine Stp.go ?_ | refine v_region ?_ | refine v_regionD ?_ | refine v_blocky (by decide) ?_ | (refine v_callR (by simp [dstOk]) rfl ?_; simp only [List.map_cons, List.map_nil, List.nil_append, List.append_nil, List.cons_append, Env.eval, Env.get, reduceIte, Nat.reduceEqDiff, List.toList_toArray, PV.ofConst]; refine callR_sto ([.ptr 1 3 0 0, .int .i64 (ar.getD (2 * k + 1 + 1) 0), .int .i64 k]) (hobj n ar keys pl) (id) (put_good n ar keys pl (ar.getD (2 * k + 1 + 1) 0) k hl2 h1 (by omega)) (by simp [PV.renL, PV.ren , hobj]) (by simp [PV.refsL, PV.refs , hobj]) (by simp [SC.live, SC.ren, SC.refs, PV.renL, PV.ren, PV.refsL, PV.refs, sto_cons, sto_nil, renL_ints, refsL_ints, renL_nats, refsL_nats, List.length_set , hobj]) (by simp [id_eq , hobj]) ?_; rintro _ _ ⟨rfl, rfl⟩; refine ⟨hobj n (ar.set k (ar.getD (2 * k + 1 + 1) 0)) keys (pl.set (ar.getD (2 * k + 1 + 1) 0) k), id, rfl, (by simp [SC.live, SC.ren, SC.refs, PV.renL, PV.ren, PV.refsL, PV.refs, sto_cons, sto_nil, renL_ints, refsL_ints, renL_nats, refsL_nats, List.length_set , hobj]), (by simp [PV.refsL, PV.refs , hobj]), (by simp [Free, sto_cons, sto_nil , hobj]), (by simp [id_eq , hobj]), ?_⟩; simp only [backL, List.map_cons, List.map_nil, List.cons_append, List.nil_append, SC.ren, PV.renL, PV.ren, renL_ints, renL_nats, id_eq, Env.put , hobj]) | ((first | refine v_o rfl ?_ ?_ | refine v_oD rfl ?_ ?_); (focus (simp only [ints_length, nats_length, ite_bool, w1, p1, p2, p3, p4, p5, q1, q2, q3, q4, c2, nats_get q4, r1, r2, r3, r4, nats_get r3, nats_get r4, cb,  go_sem]; done)); simp only [Env.put]) | ((first | refine v_u rfl fun K hK => ?_ | refine v_g rfl fun K hK => ?_ | refine v_uD rfl fun K hK => ?_ | refine v_gD rfl fun K hK => ?_); simp only [ints_length, nats_length, ite_bool, w1, p1, p2, p3, p4, p5, q1, q2, q3, q4, c2, nats_get q4, r1, r2, r3, r4, nats_get r3, nats_get r4, cb,  go_sem]) | (first | (refine callK_lent (fun hc => before_good (.slc 1 (nats (ar.take n))) keys pl (ar.getD (2 * k + 1 + 1) 0) (ar.getD (2 * k + 1) 0) (by omega) (by omega)) (by simp only [List.map_cons, List.map_nil]; rw [hsnap (a := 1) (b := 2) (c := 3) (d := 4) (n := n) (arr := ar) (keys := keys) (places := pl) (by simp [sto_cons]) (by simp [sto_cons]) (by simp [sto_cons]) (by simp [sto_cons]) hl2]; rfl) rfl ?_; simp only [upds, eq_self, true_or, true_and]) | (refine callK_lent (fun hc => before_good (.slc 1 (nats (ar.take n))) keys pl (ar.getD (2 * k + 1 + 1) 0) i (by omega) (by omega)) (by simp only [List.map_cons, List.map_nil]; rw [hsnap (a := 1) (b := 2) (c := 3) (d := 4) (n := n) (arr := ar) (keys := keys) (places := pl) (by simp [sto_cons]) (by simp [sto_cons]) (by simp [sto_cons]) (by simp [sto_cons]) hl2]; rfl) rfl ?_; simp only [upds, eq_self, true_or, true_and])) | refine v_end ?_ | refine v_endD (by kernel_rfl) ?_ | (refine hK _ _ ?_; clear hK K) | refine ⟨by (first | trivial | assumption | omega | (intros; first | assumption | omega)), ?_⟩ | (apply v_condb; (focus (simp only [ints_length, nats_length, ite_bool, w1, p1, p2, p3, p4, p5, q1, q2, q3, q4, c2, nats_get q4, r1, r2, r3, r4, nats_get r3, nats_get r4, cb,  go_sem]; first | exact pvt | exact pvf)); simp only [cond_true, cond_false]) | fail))
            refine v_round (2 * k + 1 + 1, ar.set k (ar.getD (2 * k + 1 + 1) 0), pl.set (ar.getD (2 * k + 1 + 1) 0) k) ⟨c1, h2.put q5 _, by simpa using h3, hu⟩ (by simp only; omega) (fits_sto _ id (by simp [Env.get, PV.renL, PV.ren , hobj, renL_ints, renL_nats, refsL_ints, refsL_nats]) (by simp [PV.refsL, PV.refs , hobj, renL_ints, renL_nats, refsL_ints, refsL_nats]) (by simp [SC.live, SC.ren, SC.refs, PV.renL, PV.ren, PV.refsL, PV.refs, sto_cons, sto_nil , hobj, renL_ints, renL_nats, refsL_ints, refsL_nats]) (by simp ))
          · have c2' : Heap.lt keys (ar.getD (2 * k + 1 + 1) 0) i = false := by simpa using c2
            rw [dif_neg (fun h => c2 h.2)] at hu
            (repeat (first | refine Stp.go ?_ | refine v_region ?_ | refine v_regionD ?_ | refine v_blocky (by decide) ?_ | (refine v_callR (by simp [dstOk]) rfl ?_; simp only [List.map_cons, List.map_nil, List.nil_append, List.append_nil, List.cons_append, Env.eval, Env.get, reduceIte, Nat.reduceEqDiff, List.toList_toArray, PV.ofConst]; refine callR_sto ([.ptr 1 3 0 0, .int .i64 i, .int .i64 k]) (hobj n ar keys pl) (id) (put_good n ar keys pl i k hl2 h1 (by omega)) (by simp [PV.renL, PV.ren , hobj]) (by simp [PV.refsL, PV.refs , hobj]) (by simp [SC.live, SC.ren, SC.refs, PV.renL, PV.ren, PV.refsL, PV.refs, sto_cons, sto_nil, renL_ints, refsL_ints, renL_nats, refsL_nats, List.length_set , hobj]) (by simp [id_eq , hobj]) ?_; rintro _ _ ⟨rfl, rfl⟩; refine ⟨hobj n (ar.set k i) keys (pl.set i k), id, rfl, (by simp [SC.live, SC.ren, SC.refs, PV.renL, PV.ren, PV.refsL, PV.refs, sto_cons, sto_nil, renL_ints, refsL_ints, renL_nats, refsL_nats, List.length_set , hobj]), (by simp [PV.refsL, PV.refs , hobj]), (by simp [Free, sto_cons, sto_nil , hobj]), (by simp [id_eq , hobj]), ?_⟩; simp only [backL, List.map_cons, List.map_nil, List.cons_append, List.nil_append, SC.ren, PV.renL, PV.ren, renL_ints, renL_nats, id_eq, Env.put , hobj]) | ((first | refine v_o rfl ?_ ?_ | refine v_oD rfl ?_ ?_); (focus (simp only [ints_length, nats_length, ite_bool, w1, p1, p2, p3, p4, p5, q1, q2, q3, q4, c2', nats_get q4, r1, r2, r3, r4, nats_get r3, nats_get r4, cb,  go_sem]; done)); simp only [Env.put]) | ((first | refine v_u rfl fun K hK => ?_ | refine v_g rfl fun K hK => ?_ | refine v_uD rfl fun K hK => ?_ | refine v_gD rfl fun K hK => ?_); simp only [ints_length, nats_length, ite_bool, w1, p1, p2, p3, p4, p5, q1, q2, q3, q4, c2', nats_get q4, r1, r2, r3, r4, nats_get r3, nats_get r4, cb,  go_sem]) | (first | (refine callK_lent (fun hc => before_good (.slc 1 (nats (ar.take n))) keys pl (ar.getD (2 * k + 1 + 1) 0) (ar.getD (2 * k + 1) 0) (by omega) (by omega)) (by simp only [List.map_cons, List.map_nil]; rw [hsnap (a := 1) (b := 2) (c := 3) (d := 4) (n := n) (arr := ar) (keys := keys) (places := pl) (by simp [sto_cons]) (by simp [sto_cons]) (by simp [sto_cons]) (by simp [sto_cons]) hl2]; rfl) rfl ?_; simp only [upds, eq_self, true_or, true_and]) | refine v_loopx ?_ | (refine callK_lent (fun hc => before_good (.slc 1 (nats (ar.take n))) keys pl (ar.getD (2 * k + 1 + 1) 0) i (by omega) (by omega)) (by simp only [List.map_cons, List.map_nil]; rw [hsnap (a := 1) (b := 2) (c := 3) (d := 4) (n := n) (arr := ar) (keys := keys) (places := pl) (by simp [sto_cons]) (by simp [sto_cons]) (by simp [sto_cons]) (by simp [sto_cons]) hl2]; rfl) rfl ?_; simp only [upds, eq_self, true_or, true_and])) | refine v_end ?_ | refine v_endD (by kernel_rfl) ?_ | (refine hK _ _ ?_; clear hK K) | refine ⟨by (first | trivial | assumption | omega | (intros; first | assumption | omega)), ?_⟩ | (apply v_condb; (focus (simp only [ints_length, nats_length, ite_bool, w1, p1, p2, p3, p4, p5, q1, q2, q3, q4, c2', nats_get q4, r1, r2, r3, r4, nats_get r3, nats_get r4, cb,  go_sem]; first | exact pvt | exact pvf)); simp only [cond_true, cond_false]) | fail))
            (first | refine v_finR_n ?_ | refine v_finR_r ?_); simp only [ resK, go_sem]
            refine finR_sto (id) (.tup []) (hobj n (ar.set k i) keys (pl.set i k)) (⟨rfl, by rw [← hu]; rfl⟩) (by simp [one, PV.ren, PV.renL , hobj]) (by simp [PV.refs, PV.refsL , hobj]) (by simp [SC.live, SC.ren, SC.refs, PV.renL, PV.ren, PV.refsL, PV.refs, sto_cons, sto_nil, renL_ints, refsL_ints, renL_nats, refsL_nats, List.length_set , hobj]) (by simp )
        · have q2 : (n : Int) ≤ (2 * k + 1 + 1 : Nat) := by omega
          rw [dif_neg (fun h => c1 h.1)] at hu
          (repeat (first | refine Stp.go ?_ | refine v_region ?_ | refine v_regionD ?_ | refine v_blocky (by decide) ?_ | (refine v_callR (by simp [dstOk]) rfl ?_; simp only [List.map_cons, List.map_nil, List.nil_append, List.append_nil, List.cons_append, Env.eval, Env.get, reduceIte, Nat.reduceEqDiff, List.toList_toArray, PV.ofConst]; refine callR_sto ([.ptr 1 3 0 0, .int .i64 i, .int .i64 k]) (hobj n ar keys pl) (id) (put_good n ar keys pl i k hl2 h1 (by omega)) (by simp [PV.renL, PV.ren , hobj]) (by simp [PV.refsL, PV.refs , hobj]) (by simp [SC.live, SC.ren, SC.refs, PV.renL, PV.ren, PV.refsL, PV.refs, sto_cons, sto_nil, renL_ints, refsL_ints, renL_nats, refsL_nats, List.length_set , hobj]) (by simp [id_eq , hobj]) ?_; rintro _ _ ⟨rfl, rfl⟩; refine ⟨hobj n (ar.set k i) keys (pl.set i k), id, rfl, (by simp [SC.live, SC.ren, SC.refs, PV.renL, PV.ren, PV.refsL, PV.refs, sto_cons, sto_nil, renL_ints, refsL_ints, renL_nats, refsL_nats, List.length_set , hobj]), (by simp [PV.refsL, PV.refs , hobj]), (by simp [Free, sto_cons, sto_nil , hobj]), (by simp [id_eq , hobj]), ?_⟩; simp only [backL, List.map_cons, List.map_nil, List.cons_append, List.nil_append, SC.ren, PV.renL, PV.ren, renL_ints, renL_nats, id_eq, Env.put , hobj]) | ((first | refine v_o rfl ?_ ?_ | refine v_oD rfl ?_ ?_); (focus (simp only [ints_length, nats_length, ite_bool, w1, p1, p2, p3, p4, p5, q1, q2, r1, r2, r3, r4, nats_get r3, nats_get r4, cb,  go_sem]; done)); simp only [Env.put]) | ((first | refine v_u rfl fun K hK => ?_ | refine v_g rfl fun K hK => ?_ | refine v_uD rfl fun K hK => ?_ | refine v_gD rfl fun K hK => ?_); simp only [ints_length, nats_length, ite_bool, w1, p1, p2, p3, p4, p5, q1, q2, r1, r2, r3, r4, nats_get r3, nats_get r4, cb,  go_sem]) | (first | (refine callK_lent (fun hc => before_good (.slc 1 (nats (ar.take n))) keys pl (ar.getD (2 * k + 1 + 1) 0) (ar.getD (2 * k + 1) 0) (by omega) (by omega)) (by simp only [List.map_cons, List.map_nil]; rw [hsnap (a := 1) (b := 2) (c := 3) (d := 4) (n := n) (arr := ar) (keys := keys) (places := pl) (by simp [sto_cons]) (by simp [sto_cons]) (by simp [sto_cons]) (by simp [sto_cons]) hl2]; rfl) rfl ?_; simp only [upds, eq_self, true_or, true_and]) | refine v_loopx ?_) | refine v_end ?_ | refine v_endD (by kernel_rfl) ?_ | (refine hK _ _ ?_; clear hK K) | refine ⟨by (first | trivial | assumption | omega | (intros; first | assumption | omega)), ?_⟩ | (apply v_condb; (focus (simp only [ints_length, nats_length, ite_bool, w1, p1, p2, p3, p4, p5, q1, q2, r1, r2, r3, r4, nats_get r3, nats_get r4, cb,  go_sem]; first | exact pvt | exact pvf)); simp only [cond_true, cond_false]) | fail))
          (first | refine v_finR_n ?_ | refine v_finR_r ?_); simp only [ resK, go_sem]
          refine finR_sto (id) (.tup []) (hobj n (ar.set k i) keys (pl.set i k)) (⟨rfl, by rw [← hu]; rfl⟩) (by simp [one, PV.ren, PV.renL , hobj]) (by simp [PV.refs, PV.refsL , hobj]) (by simp [SC.live, SC.ren, SC.refs, PV.renL, PV.ren, PV.refsL, PV.refs, sto_cons, sto_nil, renL_ints, refsL_ints, renL_nats, refsL_nats, List.length_set , hobj]) (by simp )
      · have e : Heap.kid n keys k ar = 2 * k + 1 := by unfold Heap.kid; rw [if_neg (fun h => cb h.2)]
        have cb' : Heap.lt keys (ar.getD (2 * k + 1 + 1) 0) (ar.getD (2 * k + 1) 0) = false := by simpa using cb
        rw [e] at hu
        have q1 : (0 : Int) ≤ (2 * k + 1 : Nat) := by omega
        by_cases c1 : 2 * k + 1 < n
        · have q2 : ¬ (n : Int) ≤ (2 * k + 1 : Nat) := by omega
          have q3 : ((2 * k + 1 : Nat) : Int) < n := by omega
          have q4 : 2 * k + 1 < ar.length := by omega
          have q5 := h2.item (2 * k + 1) c1
          by_cases c2 : Heap.lt keys (ar.getD (2 * k + 1) 0) i = true
          · rw [dif_pos ⟨c1, c2⟩] at hu
            (repeat (first | refine Stp.go ?_ | refine v_region ?_ | refine v_regionD ?_ | refine v_blocky (by decide) ?_ | (refine v_callR (by simp [dstOk]) rfl ?_; simp only [List.map_cons, List.map_nil, List.nil_append, List.append_nil, List.cons_append, Env.eval, Env.get, reduceIte, Nat.reduceEqDiff, List.toList_toArray, PV.ofConst]; refine callR_sto ([.ptr 1 3 0 0, .int .i64 (ar.getD (2 * k + 1) 0), .int .i64 k]) (hobj n ar keys pl) (id) (put_good n ar keys pl (ar.getD (2 * k + 1) 0) k hl2 h1 (by omega)) (by simp [PV.renL, PV.ren , hobj]) (by simp [PV.refsL, PV.refs , hobj]) (by simp [SC.live, SC.ren, SC.refs, PV.renL, PV.ren, PV.refsL, PV.refs, sto_cons, sto_nil, renL_ints, refsL_ints, renL_nats, refsL_nats, List.length_set , hobj]) (by simp [id_eq , hobj]) ?_; rintro _ _ ⟨rfl, rfl⟩; refine ⟨hobj n (ar.set k (ar.getD (2 * k + 1) 0)) keys (pl.set (ar.getD (2 * k + 1) 0) k), id, rfl, (by simp [SC.live, SC.ren, SC.refs, PV.renL, PV.ren, PV.refsL, PV.refs, sto_cons, sto_nil, renL_ints, refsL_ints, renL_nats, refsL_nats, List.length_set , hobj]), (by simp [PV.refsL, PV.refs , hobj]), (by simp [Free, sto_cons, sto_nil , hobj]), (by simp [id_eq , hobj]), ?_⟩; simp only [backL, List.map_cons, List.map_nil, List.cons_append, List.nil_append, SC.ren, PV.renL, PV.ren, renL_ints, renL_nats, id_eq, Env.put , hobj]) | ((first | refine v_o rfl ?_ ?_ | refine v_oD rfl ?_ ?_); (focus (simp only [ints_length, nats_length, ite_bool, w1, p1, p2, p3, p4, p5, q1, q2, q3, q4, c2, nats_get q4, r1, r2, r3, r4, nats_get r3, nats_get r4, cb',  go_sem]; done)); simp only [Env.put]) | ((first | refine v_u rfl fun K hK => ?_ | refine v_g rfl fun K hK => ?_ | refine v_uD rfl fun K hK => ?_ | refine v_gD rfl fun K hK => ?_); simp only [ints_length, nats_length, ite_bool, w1, p1, p2, p3, p4, p5, q1, q2, q3, q4, c2, nats_get q4, r1, r2, r3, r4, nats_get r3, nats_get r4, cb',  go_sem]) | (first | (refine callK_lent (fun hc => before_good (.slc 1 (nats (ar.take n))) keys pl (ar.getD (2 * k + 1 + 1) 0) (ar.getD (2 * k + 1) 0) (by omega) (by omega)) (by simp only [List.map_cons, List.map_nil]; rw [hsnap (a := 1) (b := 2) (c := 3) (d := 4) (n := n) (arr := ar) (keys := keys) (places := pl) (by simp [sto_cons]) (by simp [sto_cons]) (by simp [sto_cons]) (by simp [sto_cons]) hl2]; rfl) rfl ?_; simp only [upds, eq_self, true_or, true_and]) | (refine callK_lent (fun hc => before_good (.slc 1 (nats (ar.take n))) keys pl (ar.getD (2 * k + 1) 0) i (by omega) (by omega)) (by simp only [List.map_cons, List.map_nil]; rw [hsnap (a := 1) (b := 2) (c := 3) (d := 4) (n := n) (arr := ar) (keys := keys) (places := pl) (by simp [sto_cons]) (by simp [sto_cons]) (by simp [sto_cons]) (by simp [sto_cons]) hl2]; rfl) rfl ?_; simp only [upds, eq_self, true_or, true_and])) | refine v_end ?_ | refine v_endD (by kernel_rfl) ?_ | (refine hK _ _ ?_; clear hK K) | refine ⟨by (first | trivial | assumption | omega | (intros; first | assumption | omega)), ?_⟩ | (apply v_condb; (focus (simp only [ints_length, nats_length, ite_bool, w1, p1, p2, p3, p4, p5, q1, q2, q3, q4, c2, nats_get q4, r1, r2, r3, r4, nats_get r3, nats_get r4, cb',  go_sem]; first | exact pvt | exact pvf)); simp only [cond_true, cond_false]) | fail))
            refine v_round (2 * k + 1, ar.set k (ar.getD (2 * k + 1) 0), pl.set (ar.getD (2 * k + 1) 0) k) ⟨c1, h2.put q5 _, by simpa using h3, hu⟩ (by simp only; omega) (fits_sto _ id (by simp [Env.get, PV.renL, PV.ren , hobj, renL_ints, renL_nats, refsL_ints, refsL_nats]) (by simp [PV.refsL, PV.refs , hobj, renL_ints, renL_nats, refsL_ints, refsL_nats]) (by simp [SC.live, SC.ren, SC.refs, PV.renL, PV.ren, PV.refsL, PV.refs, sto_cons, sto_nil , hobj, renL_ints, renL_nats, refsL_ints, refsL_nats]) (by simp ))
          · have c2' : Heap.lt keys (ar.getD (2 * k + 1) 0) i = false := by simpa using c2
            rw [dif_neg (fun h => c2 h.2)] at hu
            (repeat (first | refine Stp.go ?_ | refine v_region ?_ | refine v_regionD ?_ | refine v_blocky (by decide) ?_ | (refine v_callR (by simp [dstOk]) rfl ?_; simp only [List.map_cons, List.map_nil, List.nil_append, List.append_nil, List.cons_append, Env.eval, Env.get, reduceIte, Nat.reduceEqDiff, List.toList_toArray, PV.ofConst]; refine callR_sto ([.ptr 1 3 0 0, .int .i64 i, .int .i64 k]) (hobj n ar keys pl) (id) (put_good n ar keys pl i k hl2 h1 (by omega)) (by simp [PV.renL, PV.ren , hobj]) (by simp [PV.refsL, PV.refs , hobj]) (by simp [SC.live, SC.ren, SC.refs, PV.renL, PV.ren, PV.refsL, PV.refs, sto_cons, sto_nil, renL_ints, refsL_ints, renL_nats, refsL_nats, List.length_set , hobj]) (by simp [id_eq , hobj]) ?_; rintro _ _ ⟨rfl, rfl⟩; refine ⟨hobj n (ar.set k i) keys (pl.set i k), id, rfl, (by simp [SC.live, SC.ren, SC.refs, PV.renL, PV.ren, PV.refsL, PV.refs, sto_cons, sto_nil, renL_ints, refsL_ints, renL_nats, refsL_nats, List.length_set , hobj]), (by simp [PV.refsL, PV.refs , hobj]), (by simp [Free, sto_cons, sto_nil , hobj]), (by simp [id_eq , hobj]), ?_⟩; simp only [backL, List.map_cons, List.map_nil, List.cons_append, List.nil_append, SC.ren, PV.renL, PV.ren, renL_ints, renL_nats, id_eq, Env.put , hobj]) | ((first | refine v_o rfl ?_ ?_ | refine v_oD rfl ?_ ?_); (focus (simp only [ints_length, nats_length, ite_bool, w1, p1, p2, p3, p4, p5, q1, q2, q3, q4, c2', nats_get q4, r1, r2, r3, r4, nats_get r3, nats_get r4, cb',  go_sem]; done)); simp only [Env.put]) | ((first | refine v_u rfl fun K hK => ?_ | refine v_g rfl fun K hK => ?_ | refine v_uD rfl fun K hK => ?_ | refine v_gD rfl fun K hK => ?_); simp only [ints_length, nats_length, ite_bool, w1, p1, p2, p3, p4, p5, q1, q2, q3, q4, c2', nats_get q4, r1, r2, r3, r4, nats_get r3, nats_get r4, cb',  go_sem]) | (first | (refine callK_lent (fun hc => before_good (.slc 1 (nats (ar.take n))) keys pl (ar.getD (2 * k + 1 + 1) 0) (ar.getD (2 * k + 1) 0) (by omega) (by omega)) (by simp only [List.map_cons, List.map_nil]; rw [hsnap (a := 1) (b := 2) (c := 3) (d := 4) (n := n) (arr := ar) (keys := keys) (places := pl) (by simp [sto_cons]) (by simp [sto_cons]) (by simp [sto_cons]) (by simp [sto_cons]) hl2]; rfl) rfl ?_; simp only [upds, eq_self, true_or, true_and]) | refine v_loopx ?_ | (refine callK_lent (fun hc => before_good (.slc 1 (nats (ar.take n))) keys pl (ar.getD (2 * k + 1) 0) i (by omega) (by omega)) (by simp only [List.map_cons, List.map_nil]; rw [hsnap (a := 1) (b := 2) (c := 3) (d := 4) (n := n) (arr := ar) (keys := keys) (places := pl) (by simp [sto_cons]) (by simp [sto_cons]) (by simp [sto_cons]) (by simp [sto_cons]) hl2]; rfl) rfl ?_; simp only [upds, eq_self, true_or, true_and])) | refine v_end ?_ | refine v_endD (by kernel_rfl) ?_ | (refine hK _ _ ?_; clear hK K) | refine ⟨by (first | trivial | assumption | omega | (intros; first | assumption | omega)), ?_⟩ | (apply v_condb; (focus (simp only [ints_length, nats_length, ite_bool, w1, p1, p2, p3, p4, p5, q1, q2, q3, q4, c2', nats_get q4, r1, r2, r3, r4, nats_get r3, nats_get r4, cb',  go_sem]; first | exact pvt | exact pvf)); simp only [cond_true, cond_false]) | fail))
            (first | refine v_finR_n ?_ | refine v_finR_r ?_); simp only [ resK, go_sem]
            refine finR_sto (id) (.tup []) (hobj n (ar.set k i) keys (pl.set i k)) (⟨rfl, by rw [← hu]; rfl⟩) (by simp [one, PV.ren, PV.renL , hobj]) (by simp [PV.refs, PV.refsL , hobj]) (by simp [SC.live, SC.ren, SC.refs, PV.renL, PV.ren, PV.refsL, PV.refs, sto_cons, sto_nil, renL_ints, refsL_ints, renL_nats, refsL_nats, List.length_set , hobj]) (by simp )
        · have q2 : (n : Int) ≤ (2 * k + 1 : Nat) := by omega
          rw [dif_neg (fun h => c1 h.1)] at hu
          (repeat (first | refine Stp.go ?_ | refine v_region ?_ | refine v_regionD ?_ | refine v_blocky (by decide) ?_ | (refine v_callR (by simp [dstOk]) rfl ?_; simp only [List.map_cons, List.map_nil, List.nil_append, List.append_nil, List.cons_append, Env.eval, Env.get, reduceIte, Nat.reduceEqDiff, List.toList_toArray, PV.ofConst]; refine callR_sto ([.ptr 1 3 0 0, .int .i64 i, .int .i64 k]) (hobj n ar keys pl) (id) (put_good n ar keys pl i k hl2 h1 (by omega)) (by simp [PV.renL, PV.ren , hobj]) (by simp [PV.refsL, PV.refs , hobj]) (by simp [SC.live, SC.ren, SC.refs, PV.renL, PV.ren, PV.refsL, PV.refs, sto_cons, sto_nil, renL_ints, refsL_ints, renL_nats, refsL_nats, List.length_set , hobj]) (by simp [id_eq , hobj]) ?_; rintro _ _ ⟨rfl, rfl⟩; refine ⟨hobj n (ar.set k i) keys (pl.set i k), id, rfl, (by simp [SC.live, SC.ren, SC.refs, PV.renL, PV.ren, PV.refsL, PV.refs, sto_cons, sto_nil, renL_ints, refsL_ints, renL_nats, refsL_nats, List.length_set , hobj]), (by simp [PV.refsL, PV.refs , hobj]), (by simp [Free, sto_cons, sto_nil , hobj]), (by simp [id_eq , hobj]), ?_⟩; simp only [backL, List.map_cons, List.map_nil, List.cons_append, List.nil_append, SC.ren, PV.renL, PV.ren, renL_ints, renL_nats, id_eq, Env.put , hobj]) | ((first | refine v_o rfl ?_ ?_ | refine v_oD rfl ?_ ?_); (focus (simp only [ints_length, nats_length, ite_bool, w1, p1, p2, p3, p4, p5, q1, q2, r1, r2, r3, r4, nats_get r3, nats_get r4, cb',  go_sem]; done)); simp only [Env.put]) | ((first | refine v_u rfl fun K hK => ?_ | refine v_g rfl fun K hK => ?_ | refine v_uD rfl fun K hK => ?_ | refine v_gD rfl fun K hK => ?_); simp only [ints_length, nats_length, ite_bool, w1, p1, p2, p3, p4, p5, q1, q2, r1, r2, r3, r4, nats_get r3, nats_get r4, cb',  go_sem]) | (first | (refine callK_lent (fun hc => before_good (.slc 1 (nats (ar.take n))) keys pl (ar.getD (2 * k + 1 + 1) 0) (ar.getD (2 * k + 1) 0) (by omega) (by omega)) (by simp only [List.map_cons, List.map_nil]; rw [hsnap (a := 1) (b := 2) (c := 3) (d := 4) (n := n) (arr := ar) (keys := keys) (places := pl) (by simp [sto_cons]) (by simp [sto_cons]) (by simp [sto_cons]) (by simp [sto_cons]) hl2]; rfl) rfl ?_; simp only [upds, eq_self, true_or, true_and]) | refine v_loopx ?_) | refine v_end ?_ | refine v_endD (by kernel_rfl) ?_ | (refine hK _ _ ?_; clear hK K) | refine ⟨by (first | trivial | assumption | omega | (intros; first | assumption | omega)), ?_⟩ | (apply v_condb; (focus (simp only [ints_length, nats_length, ite_bool, w1, p1, p2, p3, p4, p5, q1, q2, r1, r2, r3, r4, nats_get r3, nats_get r4, cb',  go_sem]; first | exact pvt | exact pvf)); simp only [cond_true, cond_false]) | fail))
          (first | refine v_finR_n ?_ | refine v_finR_r ?_); simp only [ resK, go_sem]
          refine finR_sto (id) (.tup []) (hobj n (ar.set k i) keys (pl.set i k)) (⟨rfl, by rw [← hu]; rfl⟩) (by simp [one, PV.ren, PV.renL , hobj]) (by simp [PV.refs, PV.refsL , hobj]) (by simp [SC.live, SC.ren, SC.refs, PV.renL, PV.ren, PV.refsL, PV.refs, sto_cons, sto_nil, renL_ints, refsL_ints, renL_nats, refsL_nats, List.length_set , hobj]) (by simp )
    · have r1 : ¬ ((2 * k + 1 + 1 : Nat) : Int) < n := by omega
      have e : Heap.kid n keys k ar = 2 * k + 1 := by unfold Heap.kid; rw [if_neg (fun h => ca h.1)]
      rw [e] at hu
      have q1 : (0 : Int) ≤ (2 * k + 1 : Nat) := by omega
      by_cases c1 : 2 * k + 1 < n
      · have q2 : ¬ (n : Int) ≤ (2 * k + 1 : Nat) := by omega
        have q3 : ((2 * k + 1 : Nat) : Int) < n := by omega
        have q4 : 2 * k + 1 < ar.length := by omega
        have q5 := h2.item (2 * k + 1) c1
        by_cases c2 : Heap.lt keys (ar.getD (2 * k + 1) 0) i = true
        · rw [dif_pos ⟨c1, c2⟩] at hu
          (repeat (first | refine Stp.go ?_ | refine v_region ?_ | refine v_regionD ?_ | refine v_blocky (by decide) ?_ | (refine v_callR (by simp [dstOk]) rfl ?_; simp only [List.map_cons, List.map_nil, List.nil_append, List.append_nil, List.cons_append, Env.eval, Env.get, reduceIte, Nat.reduceEqDiff, List.toList_toArray, PV.ofConst]; refine callR_sto ([.ptr 1 3 0 0, .int .i64 (ar.getD (2 * k + 1) 0), .int .i64 k]) (hobj n ar keys pl) (id) (put_good n ar keys pl (ar.getD (2 * k + 1) 0) k hl2 h1 (by omega)) (by simp [PV.renL, PV.ren , hobj]) (by simp [PV.refsL, PV.refs , hobj]) (by simp [SC.live, SC.ren, SC.refs, PV.renL, PV.ren, PV.refsL, PV.refs, sto_cons, sto_nil, renL_ints, refsL_ints, renL_nats, refsL_nats, List.length_set , hobj]) (by simp [id_eq , hobj]) ?_; rintro _ _ ⟨rfl, rfl⟩; refine ⟨hobj n (ar.set k (ar.getD (2 * k + 1) 0)) keys (pl.set (ar.getD (2 * k + 1) 0) k), id, rfl, (by simp [SC.live, SC.ren, SC.refs, PV.renL, PV.ren, PV.refsL, PV.refs, sto_cons, sto_nil, renL_ints, refsL_ints, renL_nats, refsL_nats, List.length_set , hobj]), (by simp [PV.refsL, PV.refs , hobj]), (by simp [Free, sto_cons, sto_nil , hobj]), (by simp [id_eq , hobj]), ?_⟩; simp only [backL, List.map_cons, List.map_nil, List.cons_append, List.nil_append, SC.ren, PV.renL, PV.ren, renL_ints, renL_nats, id_eq, Env.put , hobj]) | ((first | refine v_o rfl ?_ ?_ | refine v_oD rfl ?_ ?_); (focus (simp only [ints_length, nats_length, ite_bool, w1, p1, p2, p3, p4, p5, q1, q2, q3, q4, c2, nats_get q4, r1,  go_sem]; done)); simp only [Env.put]) | ((first | refine v_u rfl fun K hK => ?_ | refine v_g rfl fun K hK => ?_ | refine v_uD rfl fun K hK => ?_ | refine v_gD rfl fun K hK => ?_); simp only [ints_length, nats_length, ite_bool, w1, p1, p2, p3, p4, p5, q1, q2, q3, q4, c2, nats_get q4, r1,  go_sem]) | (first  | (refine callK_lent (fun hc => before_good (.slc 1 (nats (ar.take n))) keys pl (ar.getD (2 * k + 1) 0) i (by omega) (by omega)) (by simp only [List.map_cons, List.map_nil]; rw [hsnap (a := 1) (b := 2) (c := 3) (d := 4) (n := n) (arr := ar) (keys := keys) (places := pl) (by simp [sto_cons]) (by simp [sto_cons]) (by simp [sto_cons]) (by simp [sto_cons]) hl2]; rfl) rfl ?_; simp only [upds, eq_self, true_or, true_and])) | refine v_end ?_ | refine v_endD (by kernel_rfl) ?_ | (refine hK _ _ ?_; clear hK K) | refine ⟨by (first | trivial | assumption | omega | (intros; first | assumption | omega)), ?_⟩ | (apply v_condb; (focus (simp only [ints_length, nats_length, ite_bool, w1, p1, p2, p3, p4, p5, q1, q2, q3, q4, c2, nats_get q4, r1,  go_sem]; first | exact pvt | exact pvf)); simp only [cond_true, cond_false]) | fail))
          refine v_round (2 * k + 1, ar.set k (ar.getD (2 * k + 1) 0), pl.set (ar.getD (2 * k + 1) 0) k) ⟨c1, h2.put q5 _, by simpa using h3, hu⟩ (by simp only; omega) (fits_sto _ id (by simp [Env.get, PV.renL, PV.ren , hobj, renL_ints, renL_nats, refsL_ints, refsL_nats]) (by simp [PV.refsL, PV.refs , hobj, renL_ints, renL_nats, refsL_ints, refsL_nats]) (by simp [SC.live, SC.ren, SC.refs, PV.renL, PV.ren, PV.refsL, PV.refs, sto_cons, sto_nil , hobj, renL_ints, renL_nats, refsL_ints, refsL_nats]) (by simp ))
        · have c2' : Heap.lt keys (ar.getD (2 * k + 1) 0) i = false := by simpa using c2
          rw [dif_neg (fun h => c2 h.2)] at hu
          (repeat (first | refine Stp.go ?_ | refine v_region ?_ | refine v_regionD ?_ | refine v_blocky (by decide) ?_ | (refine v_callR (by simp [dstOk]) rfl ?_; simp only [List.map_cons, List.map_nil, List.nil_append, List.append_nil, List.cons_append, Env.eval, Env.get, reduceIte, Nat.reduceEqDiff, List.toList_toArray, PV.ofConst]; refine callR_sto ([.ptr 1 3 0 0, .int .i64 i, .int .i64 k]) (hobj n ar keys pl) (id) (put_good n ar keys pl i k hl2 h1 (by omega)) (by simp [PV.renL, PV.ren , hobj]) (by simp [PV.refsL, PV.refs , hobj]) (by simp [SC.live, SC.ren, SC.refs, PV.renL, PV.ren, PV.refsL, PV.refs, sto_cons, sto_nil, renL_ints, refsL_ints, renL_nats, refsL_nats, List.length_set , hobj]) (by simp [id_eq , hobj]) ?_; rintro _ _ ⟨rfl, rfl⟩; refine ⟨hobj n (ar.set k i) keys (pl.set i k), id, rfl, (by simp [SC.live, SC.ren, SC.refs, PV.renL, PV.ren, PV.refsL, PV.refs, sto_cons, sto_nil, renL_ints, refsL_ints, renL_nats, refsL_nats, List.length_set , hobj]), (by simp [PV.refsL, PV.refs , hobj]), (by simp [Free, sto_cons, sto_nil , hobj]), (by simp [id_eq , hobj]), ?_⟩; simp only [backL, List.map_cons, List.map_nil, List.cons_append, List.nil_append, SC.ren, PV.renL, PV.ren, renL_ints, renL_nats, id_eq, Env.put , hobj]) | ((first | refine v_o rfl ?_ ?_ | refine v_oD rfl ?_ ?_); (focus (simp only [ints_length, nats_length, ite_bool, w1, p1, p2, p3, p4, p5, q1, q2, q3, q4, c2', nats_get q4, r1,  go_sem]; done)); simp only [Env.put]) | ((first | refine v_u rfl fun K hK => ?_ | refine v_g rfl fun K hK => ?_ | refine v_uD rfl fun K hK => ?_ | refine v_gD rfl fun K hK => ?_); simp only [ints_length, nats_length, ite_bool, w1, p1, p2, p3, p4, p5, q1, q2, q3, q4, c2', nats_get q4, r1,  go_sem]) | (first  | refine v_loopx ?_ | (refine callK_lent (fun hc => before_good (.slc 1 (nats (ar.take n))) keys pl (ar.getD (2 * k + 1) 0) i (by omega) (by omega)) (by simp only [List.map_cons, List.map_nil]; rw [hsnap (a := 1) (b := 2) (c := 3) (d := 4) (n := n) (arr := ar) (keys := keys) (places := pl) (by simp [sto_cons]) (by simp [sto_cons]) (by simp [sto_cons]) (by simp [sto_cons]) hl2]; rfl) rfl ?_; simp only [upds, eq_self, true_or, true_and])) | refine v_end ?_ | refine v_endD (by kernel_rfl) ?_ | (refine hK _ _ ?_; clear hK K) | refine ⟨by (first | trivial | assumption | omega | (intros; first | assumption | omega)), ?_⟩ | (apply v_condb; (focus (simp only [ints_length, nats_length, ite_bool, w1, p1, p2, p3, p4, p5, q1, q2, q3, q4, c2', nats_get q4, r1,  go_sem]; first | exact pvt | exact pvf)); simp only [cond_true, cond_false]) | fail))
          (first | refine v_finR_n ?_ | refine v_finR_r ?_); simp only [ resK, go_sem]
          refine finR_sto (id) (.tup []) (hobj n (ar.set k i) keys (pl.set i k)) (⟨rfl, by rw [← hu]; rfl⟩) (by simp [one, PV.ren, PV.renL , hobj]) (by simp [PV.refs, PV.refsL , hobj]) (by simp [SC.live, SC.ren, SC.refs, PV.renL, PV.ren, PV.refsL, PV.refs, sto_cons, sto_nil, renL_ints, refsL_ints, renL_nats, refsL_nats, List.length_set , hobj]) (by simp )
      · have q2 : (n : Int) ≤ (2 * k + 1 : Nat) := by omega
        rw [dif_neg (fun h => c1 h.1)] at hu
        (repeat (first | refine Stp.go ?_ | refine v_region ?_ | refine v_regionD ?_ | refine v_blocky (by decide) ?_ | (refine v_callR (by simp [dstOk]) rfl ?_; simp only [List.map_cons, List.map_nil, List.nil_append, List.append_nil, List.cons_append, Env.eval, Env.get, reduceIte, Nat.reduceEqDiff, List.toList_toArray, PV.ofConst]; refine callR_sto ([.ptr 1 3 0 0, .int .i64 i, .int .i64 k]) (hobj n ar keys pl) (id) (put_good n ar keys pl i k hl2 h1 (by omega)) (by simp [PV.renL, PV.ren , hobj]) (by simp [PV.refsL, PV.refs , hobj]) (by simp [SC.live, SC.ren, SC.refs, PV.renL, PV.ren, PV.refsL, PV.refs, sto_cons, sto_nil, renL_ints, refsL_ints, renL_nats, refsL_nats, List.length_set , hobj]) (by simp [id_eq , hobj]) ?_; rintro _ _ ⟨rfl, rfl⟩; refine ⟨hobj n (ar.set k i) keys (pl.set i k), id, rfl, (by simp [SC.live, SC.ren, SC.refs, PV.renL, PV.ren, PV.refsL, PV.refs, sto_cons, sto_nil, renL_ints, refsL_ints, renL_nats, refsL_nats, List.length_set , hobj]), (by simp [PV.refsL, PV.refs , hobj]), (by simp [Free, sto_cons, sto_nil , hobj]), (by simp [id_eq , hobj]), ?_⟩; simp only [backL, List.map_cons, List.map_nil, List.cons_append, List.nil_append, SC.ren, PV.renL, PV.ren, renL_ints, renL_nats, id_eq, Env.put , hobj]) | ((first | refine v_o rfl ?_ ?_ | refine v_oD rfl ?_ ?_); (focus (simp only [ints_length, nats_length, ite_bool, w1, p1, p2, p3, p4, p5, q1, q2, r1,  go_sem]; done)); simp only [Env.put]) | ((first | refine v_u rfl fun K hK => ?_ | refine v_g rfl fun K hK => ?_ | refine v_uD rfl fun K hK => ?_ | refine v_gD rfl fun K hK => ?_); simp only [ints_length, nats_length, ite_bool, w1, p1, p2, p3, p4, p5, q1, q2, r1,  go_sem]) | (first  | refine v_loopx ?_) | refine v_end ?_ | refine v_endD (by kernel_rfl) ?_ | (refine hK _ _ ?_; clear hK K) | refine ⟨by (first | trivial | assumption | omega | (intros; first | assumption | omega)), ?_⟩ | (apply v_condb; (focus (simp only [ints_length, nats_length, ite_bool, w1, p1, p2, p3, p4, p5, q1, q2, r1,  go_sem]; first | exact pvt | exact pvf)); simp only [cond_true, cond_false]) | fail))
        (first | refine v_finR_n ?_ | refine v_finR_r ?_); simp only [ resK, go_sem]
        refine finR_sto (id) (.tup []) (hobj n (ar.set k i) keys (pl.set i k)) (⟨rfl, by rw [← hu]; rfl⟩) (by simp [one, PV.ren, PV.renL , hobj]) (by simp [PV.refs, PV.refsL , hobj]) (by simp [SC.live, SC.ren, SC.refs, PV.renL, PV.ren, PV.refsL, PV.refs, sto_cons, sto_nil, renL_ints, refsL_ints, renL_nats, refsL_nats, List.length_set , hobj]) (by simp )
end Go.V
/- Layer 3: the first item is removed. -/
set_option linter.unusedVariables false
set_option linter.unusedSimpArgs false
namespace Go.V
open Go.RowKit Go.Proofs
attribute [local irreducible] wp seqK lexK opK callK upd sto Good GoodR

theorem Heap.up_zero (keys : List Int) (i : Nat) (arr : List Nat) (pl : List Int) : Heap.up keys i 0 arr pl = (arr.set 0 i, pl.set i ((0 : Nat) : Int)) := by
  rw [Heap.up, dif_neg (fun h => absurd h.1 (Nat.lt_irrefl 0))]

set_option maxHeartbeats 2000000 in
theorem take_good (n : Nat) (arr : List Nat) (keys places : List Int) (hw : HW n arr keys places) (hn : 0 < n) :
    GoodR Try.prog 108 [.ptr 1 3 0 0, .int .i64 0] (sto (hobj n arr keys places)) fun r g => r = .tup [] ∧ g = sto (hobj (n - 1) (Heap.take n keys arr places).1 keys (Heap.take n keys arr places).2) := by
  refine v_enterR ttok mixed Try.func108 (by kernel_rfl) rfl Try.ntmps108 Try.results108 (by simp) ?_; simp only [argEnv, List.range, List.range.loop, List.length_cons, List.length_nil, List.zip_cons_cons, List.zip_nil_left]
  have hl := hw.len
  have hk := hw.same
  have hsm := hw.small
  have hfew := hw.few
  have v0 : (0 : Int) < n := by omega
  have v1 : IntKind.i64.wrap ((n : Int) - 1) = ((n - 1 : Nat) : Int) := by rw [wrap_i64 (by omega) (by omega)]; omega
  have v2 : ((n - 1 : Nat) : Int) < n := by omega
  have v3 : (0 : Int) ≤ ((n - 1 : Nat) : Int) := by omega
  have v4 : ((n - 1 : Nat) : Int) ≤ n := by omega
  have v5 : 0 < arr.length := by omega
  have v6 : n - 1 < arr.length := by omega
  have v7 : (0 : Int) ≤ n := by omega
  have hi := hw.item 0 hn
  have hj := hw.item (n - 1) (by omega)
  have e1 := nats_get v5
  have e2 := nats_get v6
  have hz : ((0 : Nat) : Int) = 0 := rfl
  unfold Heap.take
  generalize hii : arr.getD 0 0 = i at *
  generalize hll : arr.getD (n - 1) 0 = last at *
  have w1 : (0 : Int) ≤ (i : Nat) := by omega
  have w2 : ((i : Nat) : Int) < places.length := by omega
  have w3 : (0 : Int) ≤ (last : Nat) := by omega
  have w4 : ((last : Nat) : Int) < places.length := by omega
  by_cases hc : i = last
  · rw [if_pos hc]
    subst hc
    unfold hobj
    (repeat (first | refine Stp.go ?_ | refine v_region ?_ | refine v_regionD ?_ | refine v_blocky (by decide) ?_ | ((first | refine v_o rfl ?_ ?_ | refine v_oD rfl ?_ ?_); (focus (simp only [ints_length, nats_length, ite_bool, v0, v1, v2, v3, v4, v5, v6, v7, e1, e2, w1, w2, hi, ints_get hi, ints_set, go_sem]; done)); simp only [Env.put]) | ((first | refine v_u rfl fun K hK => ?_ | refine v_g rfl fun K hK => ?_ | refine v_uD rfl fun K hK => ?_ | refine v_gD rfl fun K hK => ?_); simp only [ints_length, nats_length, ite_bool, v0, v1, v2, v3, v4, v5, v6, v7, e1, e2, w1, w2, hi, ints_get hi, ints_set, go_sem]) | (fail) | refine v_end ?_ | refine v_endD (by kernel_rfl) ?_ | (refine hK _ _ ?_; clear hK K) | refine ⟨by (first | trivial | assumption | omega | (intros; first | assumption | omega)), ?_⟩ | (apply v_condb; (focus (simp only [ints_length, nats_length, ite_bool, v0, v1, v2, v3, v4, v5, v6, v7, e1, e2, w1, w2, hi, ints_get hi, ints_set, go_sem]; first | exact pvt | exact pvf)); simp only [cond_true, cond_false]) | fail))
    (first | refine v_finR_n ?_ | refine v_finR_r ?_); simp only [ resK, go_sem]
    refine finR_sto (id) (.tup []) (hobj (n - 1) arr keys (places.set i (-1))) (⟨rfl, by simp [hobj]⟩) (by simp [one, PV.ren, PV.renL , hobj]) (by simp [PV.refs, PV.refsL , hobj]) (by simp [SC.live, SC.ren, SC.refs, PV.renL, PV.ren, PV.refsL, PV.refs, sto_cons, sto_nil, renL_ints, refsL_ints, renL_nats, refsL_nats, List.length_set , hobj]) (by simp )
  · rw [if_neg hc]
    have hc' : ¬ ((i : Int) = last) := by omega
    have x1 : HW (n - 1) arr keys (places.set i (-1)) := by
      have := hw.put (n := n) (at_ := n) hi (-1)
      refine ⟨by omega, by simpa using hk, by simpa using hsm, by omega, fun j hj => ?_⟩
      simpa using hw.item j (by omega)
    have hne : 0 < n - 1 := by
      rcases Nat.eq_zero_or_pos (n - 1) with h | h
      · rw [h] at hll; rw [hii] at hll; exact absurd hll hc
      · exact h
    have x2 := x1.put (i := last) (at_ := 0) (by simpa using hj) ((0 : Nat) : Int)
    have x3 := x2.put (i := last) (at_ := 0) (by simpa using hj) ((0 : Nat) : Int)
    have g1 : ((arr.set 0 last).set 0 last).getD 0 0 = last := by simp [List.getD, v5]
    have g2 : (((places.set i (-1)).set last ((0 : Nat) : Int)).set last ((0 : Nat) : Int)).getD last 0 = ((0 : Nat) : Int) := by simp [List.getD, hj]
    have g3 : (arr.set 0 last).set 0 last = arr.set 0 last := by simp
    have g4 : ((places.set i (-1)).set last ((0 : Nat) : Int)).set last ((0 : Nat) : Int) = (places.set i (-1)).set last ((0 : Nat) : Int) := by simp
    have g5 : (arr.set 0 last).getD 0 0 = last := by simp [List.getD, v5]
    have u1 := hup_good (n - 1) (arr.set 0 last) keys ((places.set i (-1)).set last ((0 : Nat) : Int)) 0 x2 hne
    rw [Heap.up_zero, g5, g3, g4] at u1
    rw [g3, g4] at x3
    rw [g4] at g2
    have u2 := down_good (n - 1) (arr.set 0 last) keys ((places.set i (-1)).set last ((0 : Nat) : Int)) 0 x3 hne
    rw [g5] at u2
    generalize Heap.down (n - 1) keys last 0 (arr.set 0 last) ((places.set i (-1)).set last ((0 : Nat) : Int)) = dn at *
    obtain ⟨arr', pl'⟩ := dn
    unfold hobj
    have y1 : last < ((places.set i (-1)).set last ((0 : Nat) : Int)).length := by simpa using hj
    have y2 := ints_get y1
    rw [g2] at y2
    (repeat (first | refine Stp.go ?_ | refine v_region ?_ | refine v_regionD ?_ | refine v_blocky (by decide) ?_ | (first | refine v_callR (by simp [dstOk]) rfl ?_; simp only [List.map_cons, List.map_nil, List.nil_append, List.append_nil, List.cons_append, Env.eval, Env.get, reduceIte, Nat.reduceEqDiff, List.toList_toArray, PV.ofConst]; refine callR_sto ([.ptr 1 3 0 0, .int .i64 last, .int .i64 ((0 : Nat) : Int)]) (hobj (n - 1) arr keys (places.set i (-1))) (id) (put_good (n - 1) arr keys (places.set i (-1)) last 0 (by omega) hne (by simpa using hj)) (by simp [PV.renL, PV.ren , hobj]) (by simp [PV.refsL, PV.refs , hobj]) (by simp [SC.live, SC.ren, SC.refs, PV.renL, PV.ren, PV.refsL, PV.refs, sto_cons, sto_nil, renL_ints, refsL_ints, renL_nats, refsL_nats, List.length_set , hobj]) (by simp [id_eq , hobj]) ?_; rintro _ _ ⟨rfl, rfl⟩; refine ⟨hobj (n - 1) (arr.set 0 last) keys ((places.set i (-1)).set last ((0 : Nat) : Int)), id, rfl, (by simp [SC.live, SC.ren, SC.refs, PV.renL, PV.ren, PV.refsL, PV.refs, sto_cons, sto_nil, renL_ints, refsL_ints, renL_nats, refsL_nats, List.length_set , hobj]), (by simp [PV.refsL, PV.refs , hobj]), (by simp [Free, sto_cons, sto_nil , hobj]), (by simp [id_eq , hobj]), ?_⟩; simp only [backL, List.map_cons, List.map_nil, List.cons_append, List.nil_append, SC.ren, PV.renL, PV.ren, renL_ints, renL_nats, id_eq, Env.put , hobj] | refine v_callR (by simp [dstOk]) rfl ?_; simp only [List.map_cons, List.map_nil, List.nil_append, List.append_nil, List.cons_append, Env.eval, Env.get, reduceIte, Nat.reduceEqDiff, List.toList_toArray, PV.ofConst]; refine callR_sto ([.ptr 1 3 0 0, .int .i64 ((0 : Nat) : Int)]) (hobj (n - 1) (arr.set 0 last) keys ((places.set i (-1)).set last ((0 : Nat) : Int))) (id) (u1) (by simp [PV.renL, PV.ren , hobj]) (by simp [PV.refsL, PV.refs , hobj]) (by simp [SC.live, SC.ren, SC.refs, PV.renL, PV.ren, PV.refsL, PV.refs, sto_cons, sto_nil, renL_ints, refsL_ints, renL_nats, refsL_nats, List.length_set , hobj]) (by simp [id_eq , hobj]) ?_; rintro _ _ ⟨rfl, rfl⟩; refine ⟨hobj (n - 1) (arr.set 0 last) keys ((places.set i (-1)).set last ((0 : Nat) : Int)), id, rfl, (by simp [SC.live, SC.ren, SC.refs, PV.renL, PV.ren, PV.refsL, PV.refs, sto_cons, sto_nil, renL_ints, refsL_ints, renL_nats, refsL_nats, List.length_set , hobj]), (by simp [PV.refsL, PV.refs , hobj]), (by simp [Free, sto_cons, sto_nil , hobj]), (by simp [id_eq , hobj]), ?_⟩; simp only [backL, List.map_cons, List.map_nil, List.cons_append, List.nil_append, SC.ren, PV.renL, PV.ren, renL_ints, renL_nats, id_eq, Env.put , hobj] | refine v_callR (by simp [dstOk]) rfl ?_; simp only [List.map_cons, List.map_nil, List.nil_append, List.append_nil, List.cons_append, Env.eval, Env.get, reduceIte, Nat.reduceEqDiff, List.toList_toArray, PV.ofConst]; refine callR_sto ([.ptr 1 3 0 0, .int .i64 ((0 : Nat) : Int)]) (hobj (n - 1) (arr.set 0 last) keys ((places.set i (-1)).set last ((0 : Nat) : Int))) (id) (u2) (by simp [PV.renL, PV.ren , hobj]) (by simp [PV.refsL, PV.refs , hobj]) (by simp [SC.live, SC.ren, SC.refs, PV.renL, PV.ren, PV.refsL, PV.refs, sto_cons, sto_nil, renL_ints, refsL_ints, renL_nats, refsL_nats, List.length_set , hobj]) (by simp [id_eq , hobj]) ?_; rintro _ _ ⟨rfl, rfl⟩; refine ⟨hobj (n - 1) arr' keys pl', id, rfl, (by simp [SC.live, SC.ren, SC.refs, PV.renL, PV.ren, PV.refsL, PV.refs, sto_cons, sto_nil, renL_ints, refsL_ints, renL_nats, refsL_nats, List.length_set , hobj]), (by simp [PV.refsL, PV.refs , hobj]), (by simp [Free, sto_cons, sto_nil , hobj]), (by simp [id_eq , hobj]), ?_⟩; simp only [backL, List.map_cons, List.map_nil, List.cons_append, List.nil_append, SC.ren, PV.renL, PV.ren, renL_ints, renL_nats, id_eq, Env.put , hobj]) | ((first | refine v_o rfl ?_ ?_ | refine v_oD rfl ?_ ?_); (focus (simp only [ints_length, nats_length, ite_bool, v0, v1, v2, v3, v4, v5, v6, v7, e1, e2, w1, w2, w3, w4, hi, hc', ints_get hi, ints_set, List.length_set, y2, go_sem]; done)); simp only [Env.put]) | ((first | refine v_u rfl fun K hK => ?_ | refine v_g rfl fun K hK => ?_ | refine v_uD rfl fun K hK => ?_ | refine v_gD rfl fun K hK => ?_); simp only [ints_length, nats_length, ite_bool, v0, v1, v2, v3, v4, v5, v6, v7, e1, e2, w1, w2, w3, w4, hi, hc', ints_get hi, ints_set, List.length_set, y2, go_sem]) | (fail) | refine v_end ?_ | refine v_endD (by kernel_rfl) ?_ | (refine hK _ _ ?_; clear hK K) | refine ⟨by (first | trivial | assumption | omega | (intros; first | assumption | omega)), ?_⟩ | (apply v_condb; (focus (simp only [ints_length, nats_length, ite_bool, v0, v1, v2, v3, v4, v5, v6, v7, e1, e2, w1, w2, w3, w4, hi, hc', ints_get hi, ints_set, List.length_set, y2, go_sem]; first | exact pvt | exact pvf)); simp only [cond_true, cond_false]) | fail))
    (first | refine v_finR_n ?_ | refine v_finR_r ?_); simp only [ resK, go_sem]
    refine finR_sto (id) (.tup []) (hobj (n - 1) arr' keys pl') (⟨rfl, rfl⟩) (by simp [one, PV.ren, PV.renL , hobj]) (by simp [PV.refs, PV.refsL , hobj]) (by simp [SC.live, SC.ren, SC.refs, PV.renL, PV.ren, PV.refsL, PV.refs, sto_cons, sto_nil, renL_ints, refsL_ints, renL_nats, refsL_nats, List.length_set , hobj]) (by simp )
end Go.V
/- Layer 3: Pop. -/
set_option linter.unusedVariables false
set_option linter.unusedSimpArgs false
namespace Go.V
open Go.RowKit Go.Proofs
attribute [local irreducible] wp seqK lexK opK callK upd sto Good GoodR

/-- The heap's objects as its users see them: the items may move. -/
def pobj (n : Nat) (arr : List Nat) (keys places : List Int) : List (Nat × SC) :=
  [(1, .row 136 3 [.agg [.sref 102 1 0 n false, .sref 3 1 0 keys.length false, .sref 4 1 0 places.length false]]), (102, .row 3 1 (nats arr)), (3, .row 3 1 (ints keys)), (4, .row 3 1 (ints places))]

/-- The inner functions' number of the items. -/
def sg : Nat → Nat := fun x => if x = 2 then 102 else x

set_option maxHeartbeats 2000000 in
theorem pop_good (n : Nat) (arr : List Nat) (keys places : List Int) (hw : HW n arr keys places) :
    GoodR Try.prog 96 [.ptr 1 3 0 0] (sto (pobj n arr keys places)) fun r g =>
      if n = 0 then r = .tup [.int .i64 0, .int .i64 0, .bool false] ∧ g = sto (pobj n arr keys places)
      else r = .tup [.int .i64 (arr.getD 0 0 : Nat), .int .i64 (keys.getD (arr.getD 0 0) 0), .bool true] ∧ g = sto (pobj (n - 1) (Heap.take n keys arr places).1 keys (Heap.take n keys arr places).2) := by
  refine v_enterR ttok mixed Try.func96 (by kernel_rfl) rfl Try.ntmps96 Try.results96 (by simp) ?_; simp only [argEnv, List.range, List.range.loop, List.length_cons, List.length_nil, List.zip_cons_cons, List.zip_nil_left]
  have hl := hw.len
  have hk := hw.same
  by_cases hn : n = 0
  · simp only [if_pos hn]
    have v0 : (n : Int) = 0 := by omega
    unfold pobj
    (repeat (first | refine Stp.go ?_ | refine v_region ?_ | refine v_regionD ?_ | refine v_blocky (by decide) ?_ | ((first | refine v_o rfl ?_ ?_ | refine v_oD rfl ?_ ?_); (focus (simp only [ite_bool, v0, go_sem]; done)); simp only [Env.put]) | ((first | refine v_u rfl fun K hK => ?_ | refine v_g rfl fun K hK => ?_ | refine v_uD rfl fun K hK => ?_ | refine v_gD rfl fun K hK => ?_); simp only [ite_bool, v0, go_sem]) | (fail) | refine v_end ?_ | refine v_endD (by kernel_rfl) ?_ | (refine hK _ _ ?_; clear hK K) | refine ⟨by (first | trivial | assumption | omega | (intros; first | assumption | omega)), ?_⟩ | (apply v_condb; (focus (simp only [ite_bool, v0, go_sem]; first | exact pvt | exact pvf)); simp only [cond_true, cond_false]) | fail))
    (first | refine v_finR_n ?_ | refine v_finR_r ?_); simp only [ resK, go_sem]
    refine finR_sto (id) (.tup [.int .i64 0, .int .i64 0, .bool false]) (pobj n arr keys places) (⟨rfl, rfl⟩) (by simp [one, PV.ren, PV.renL , pobj]) (by simp [PV.refs, PV.refsL , pobj]) (by simp [SC.live, SC.ren, SC.refs, PV.renL, PV.ren, PV.refsL, PV.refs, sto_cons, sto_nil, renL_ints, refsL_ints, renL_nats, refsL_nats, List.length_set , pobj]) (by simp )
  · simp only [if_neg hn]
    have v0 : ¬ (n : Int) = 0 := by omega
    have v1 : (0 : Int) < n := by omega
    have v5 : 0 < arr.length := by omega
    have e1 := nats_get v5
    have hi := hw.item 0 (by omega)
    have w1 : (0 : Int) ≤ (arr.getD 0 0 : Nat) := by omega
    have w2 : ((arr.getD 0 0 : Nat) : Int) < keys.length := by omega
    have e2 : (ints keys).getD (arr.getD 0 0) .undef = .int .i64 (keys.getD (arr.getD 0 0) 0) := ints_get (by omega)
    have ht := take_good n arr keys places hw (by omega)
    generalize Heap.take n keys arr places = tk at *
    obtain ⟨arr', pl'⟩ := tk
    unfold pobj
    (repeat (first | refine Stp.go ?_ | refine v_region ?_ | refine v_regionD ?_ | refine v_blocky (by decide) ?_ | (refine v_callR (by simp [dstOk]) rfl ?_; simp only [List.map_cons, List.map_nil, List.nil_append, List.append_nil, List.cons_append, Env.eval, Env.get, reduceIte, Nat.reduceEqDiff, List.toList_toArray, PV.ofConst]; refine callR_sto ([.ptr 1 3 0 0, .int .i64 0]) (hobj n arr keys places) (sg) (ht) (by simp [PV.renL, PV.ren , hobj, sg]) (by simp [PV.refsL, PV.refs , hobj, sg]) (by simp [SC.live, SC.ren, SC.refs, PV.renL, PV.ren, PV.refsL, PV.refs, sto_cons, sto_nil, renL_ints, refsL_ints, renL_nats, refsL_nats, List.length_set , hobj, sg]) (by simp [id_eq , hobj, sg]) ?_; rintro _ _ ⟨rfl, rfl⟩; refine ⟨hobj (n - 1) arr' keys pl', sg, rfl, (by simp [SC.live, SC.ren, SC.refs, PV.renL, PV.ren, PV.refsL, PV.refs, sto_cons, sto_nil, renL_ints, refsL_ints, renL_nats, refsL_nats, List.length_set , hobj, sg]), (by simp [PV.refsL, PV.refs , hobj, sg]), (by simp [Free, sto_cons, sto_nil , hobj, sg]), (by simp [id_eq , hobj, sg]), ?_⟩; simp only [backL, List.map_cons, List.map_nil, List.cons_append, List.nil_append, SC.ren, PV.renL, PV.ren, renL_ints, renL_nats, id_eq, Env.put , hobj, sg]) | ((first | refine v_o rfl ?_ ?_ | refine v_oD rfl ?_ ?_); (focus (simp only [ints_length, nats_length, ite_bool, v0, v1, v5, e1, e2, w1, w2,  go_sem]; done)); simp only [Env.put]) | ((first | refine v_u rfl fun K hK => ?_ | refine v_g rfl fun K hK => ?_ | refine v_uD rfl fun K hK => ?_ | refine v_gD rfl fun K hK => ?_); simp only [ints_length, nats_length, ite_bool, v0, v1, v5, e1, e2, w1, w2,  go_sem]) | (fail) | refine v_end ?_ | refine v_endD (by kernel_rfl) ?_ | (refine hK _ _ ?_; clear hK K) | refine ⟨by (first | trivial | assumption | omega | (intros; first | assumption | omega)), ?_⟩ | (apply v_condb; (focus (simp only [ints_length, nats_length, ite_bool, v0, v1, v5, e1, e2, w1, w2,  go_sem]; first | exact pvt | exact pvf)); simp only [cond_true, cond_false]) | fail))
    (first | refine v_finR_n ?_ | refine v_finR_r ?_); simp only [ resK, go_sem]
    refine finR_sto (id) (.tup [.int .i64 (arr.getD 0 0 : Nat), .int .i64 (keys.getD (arr.getD 0 0) 0), .bool true]) (pobj (n - 1) arr' keys pl') (⟨rfl, rfl⟩) (by simp [one, PV.ren, PV.renL , pobj]) (by simp [PV.refs, PV.refsL , pobj]) (by simp [SC.live, SC.ren, SC.refs, PV.renL, PV.ren, PV.refsL, PV.refs, sto_cons, sto_nil, renL_ints, refsL_ints, renL_nats, refsL_nats, List.length_set , pobj]) (by simp )
end Go.V
/- Layer 3: Set. -/
set_option linter.unusedVariables false
set_option linter.unusedSimpArgs false
namespace Go.V
open Go.RowKit Go.Proofs
attribute [local irreducible] wp seqK lexK opK callK upd sto Good GoodR

/-- A heap whose items were never laid anywhere. -/
def qobj (keys places : List Int) : List (Nat × SC) :=
  [(1, .row 136 3 [.agg [.nilS, .sref 3 1 0 keys.length false, .sref 4 1 0 places.length false]]), (3, .row 3 1 (ints keys)), (4, .row 3 1 (ints places))]
def sobj (n : Nat) (arr : List Nat) (keys places : List Int) : List (Nat × SC) := if arr = [] then qobj keys places else pobj n arr keys places

theorem HW.of_C {n : Nat} {arr : List Nat} {keys places : List Int} (h : Heap.C n arr places) (hk : keys.length = places.length) (hs : places.length ≤ 65536) : HW n arr keys places :=
  ⟨h.len, hk, hs, Nat.le_trans h.few hs, fun j hj => (h.item j hj).1⟩

def sg8 : Nat → Nat := fun x => if x = 2 then 8007 else x
theorem rep1 {α : Type} (a : α) : List.replicate 1 a = [a] := rfl
theorem nats_room {arr : List Nat} {n i : Nat} (h : n < arr.length) : List.take n (nats arr) ++ [PV.int .i64 (i : Int)] ++ List.drop (n + 1) (nats arr) = nats (arr.set n i) := by
  have e : arr.set n i = arr.take n ++ [i] ++ arr.drop (n + 1) := by
    rw [List.set_eq_take_append_cons_drop, if_pos h]; simp
  rw [e, nats_append, nats_append, nats_take, nats_drop]; rfl
theorem nats_more {arr : List Nat} {n i : Nat} (h : arr.length = n) : List.take n (nats arr) ++ [PV.int .i64 (i : Int)] = nats (arr ++ [i]) := by
  rw [nats_append, List.take_of_length_le (by rw [nats_length]; omega)]; rfl

theorem hsnap0 {g : Store} {a c d : Nat} {keys places : List Int} (h1 : g a = .row 136 3 [.agg [.nilS, .sref c 1 0 keys.length false, .sref d 1 0 places.length false]]) (h3 : g c = .row 3 1 (ints keys))
    (h4 : g d = .row 3 1 (ints places)) : PV.snap g 6 (.ptr a 3 0 0) = hval .nilS keys places := by
  have e2 : PV.snap g 5 (.sref c 1 0 keys.length false) = .slc 1 (ints keys) := by
    rw [PV.snap, h3]
    simp only [ints_length, Nat.zero_add, Nat.le_refl, and_self, if_true, List.drop_zero, ints_take, List.take_length, snap_ints]
  have e3 : PV.snap g 5 (.sref d 1 0 places.length false) = .slc 1 (ints places) := by
    rw [PV.snap, h4]
    simp only [ints_length, Nat.zero_add, Nat.le_refl, and_self, if_true, List.drop_zero, ints_take, List.take_length, snap_ints]
  rw [PV.snap, h1]
  simp only [List.length_cons, List.length_nil, Nat.zero_add, Nat.lt_add_one, and_self, if_true, List.getD_cons_zero, PV.cells, List.map_cons, List.map_nil, e2, e3]
  rfl

set_option maxHeartbeats 4000000 in
theorem set_good (n : Nat) (arr : List Nat) (keys places : List Int) (i : Nat) (key : Int) (h : Heap.H n arr keys places) (hi : i < places.length) (hsm : places.length ≤ 65536) :
    GoodR Try.prog 95 [.ptr 1 3 0 0, .int .i64 i, .int .i64 key] (sto (sobj n arr keys places)) fun r g =>
      ∃ n' arr' pl', Heap.H n' arr' (keys.set i key) pl' ∧ pl'.length = places.length ∧ (∀ k, (0 ≤ pl'.getD k (-1)) ↔ (0 ≤ places.getD k (-1) ∨ k = i)) ∧ arr' ≠ [] ∧ r = .int .i64 0 ∧ g = sto (pobj n' arr' (keys.set i key) pl') := by
  refine v_enterR ttok mixed Try.func95 (by kernel_rfl) rfl Try.ntmps95 Try.results95 (by simp) ?_; simp only [argEnv, List.range, List.range.loop, List.length_cons, List.length_nil, List.zip_cons_cons, List.zip_nil_left]
  have hk := h.same
  have w1 : (0 : Int) ≤ i := by omega
  have w2 : (i : Int) < keys.length := by omega
  have w3 : (i : Int) < places.length := by omega
  have w4 : i < keys.length := by omega
  have e1 := ints_get w4
  have e2 : (ints places).getD i .undef = .int .i64 (places.getD i 0) := ints_get hi
  by_cases hnil : arr = []
  · subst hnil
    have hn0 : n = 0 := by have := h.c.len; simpa using this
    subst hn0
    simp only [sobj, if_true]
    have hneg : places.getD i 0 < 0 := by
      refine Int.not_le.1 fun hp => ?_
      have := (h.c.place i hi (by rw [Heap.getD_of hi (-1) 0]; exact hp)).1
      omega
    obtain ⟨n1, arr1, pl1, p, arr2, pl2, q, arr3, pl3, a1, a2, a3, a4, a5, a6, a7, a8, a9, a10, a11, a12, a13, a14, a15, a16, a17, a18⟩ := Heap.set_law h hi (fun _ => rfl) key
    have hadd : Heap.add 0 [] places i = (1, [i], places.set i ((0 : Nat) : Int)) := by
      unfold Heap.add
      rw [if_pos (by rw [Heap.getD_of hi (-1) 0]; exact hneg)]
      rfl
    rw [hadd] at a1
    obtain ⟨b1, b2, b3⟩ : n1 = 1 ∧ arr1 = [i] ∧ pl1 = places.set i ((0 : Nat) : Int) := by simpa using a1
    have u1 := hup_good n1 arr1 (keys.set i key) pl1 p (HW.of_C a5 (by simpa [a6] using hk) (by omega)) a3
    rw [a4, ← a7] at u1
    have u2 := down_good n1 arr2 (keys.set i key) pl2 q (HW.of_C a8 (by simpa [a9] using hk) (by omega)) a12
    rw [a13, ← a14] at u2
    have e3 : (ints pl2).getD i .undef = .int .i64 (pl2.getD i 0) := ints_get (by omega)
    rw [a11] at e3
    have e4 : (ints pl1).getD i .undef = .int .i64 (pl1.getD i 0) := ints_get (by omega)
    rw [a2] at e4
    have w5 : i < pl2.length := by omega
    have w6 : (i : Int) < pl2.length := by omega
    have w7 : IntKind.i64.wrap ((1 : Int) - 1) = ((0 : Nat) : Int) := by decide +kernel
    have w8 : IntKind.i64.wrap (((1 : Nat) : Int) - 1) = ((0 : Nat) : Int) := by decide +kernel
    have w9 : [PV.int .i64 (i : Int)] = nats [i] := rfl
    subst b1 b2 b3
    unfold qobj
    (repeat (first | refine Stp.go ?_ | refine v_region ?_ | refine v_regionD ?_ | refine v_blocky (by decide) ?_ | (first | refine v_callR (by simp [dstOk]) rfl ?_; simp only [List.map_cons, List.map_nil, List.nil_append, List.append_nil, List.cons_append, Env.eval, Env.get, reduceIte, Nat.reduceEqDiff, List.toList_toArray, PV.ofConst]; refine callR_sto ([.ptr 1 3 0 0, .int .i64 (p : Nat)]) (hobj 1 [i] (keys.set i key) (places.set i ((0 : Nat) : Int))) (sg8) (u1) (by simp [PV.renL, PV.ren , hobj, sg8, w9]) (by simp [PV.refsL, PV.refs , hobj, sg8, w9]) (by simp [SC.live, SC.ren, SC.refs, PV.renL, PV.ren, PV.refsL, PV.refs, sto_cons, sto_nil, renL_ints, refsL_ints, renL_nats, refsL_nats, List.length_set , hobj, sg8, w9]) (by simp [id_eq , hobj, sg8, w9]) ?_; rintro _ _ ⟨rfl, rfl⟩; refine ⟨hobj 1 arr2 (keys.set i key) pl2, sg8, rfl, (by simp [SC.live, SC.ren, SC.refs, PV.renL, PV.ren, PV.refsL, PV.refs, sto_cons, sto_nil, renL_ints, refsL_ints, renL_nats, refsL_nats, List.length_set , hobj, sg8, w9]), (by simp [PV.refsL, PV.refs , hobj, sg8, w9]), (by simp [Free, sto_cons, sto_nil , hobj, sg8, w9]), (by simp [id_eq , hobj, sg8, w9]), ?_⟩; simp only [backL, List.map_cons, List.map_nil, List.cons_append, List.nil_append, SC.ren, PV.renL, PV.ren, renL_ints, renL_nats, id_eq, Env.put , hobj, sg8, w9] | refine v_callR (by simp [dstOk]) rfl ?_; simp only [List.map_cons, List.map_nil, List.nil_append, List.append_nil, List.cons_append, Env.eval, Env.get, reduceIte, Nat.reduceEqDiff, List.toList_toArray, PV.ofConst]; refine callR_sto ([.ptr 1 3 0 0, .int .i64 (q : Nat)]) (hobj 1 arr2 (keys.set i key) pl2) (sg8) (u2) (by simp [PV.renL, PV.ren , hobj, sg8]) (by simp [PV.refsL, PV.refs , hobj, sg8]) (by simp [SC.live, SC.ren, SC.refs, PV.renL, PV.ren, PV.refsL, PV.refs, sto_cons, sto_nil, renL_ints, refsL_ints, renL_nats, refsL_nats, List.length_set , hobj, sg8]) (by simp [id_eq , hobj, sg8]) ?_; rintro _ _ ⟨rfl, rfl⟩; refine ⟨hobj 1 arr3 (keys.set i key) pl3, sg8, rfl, (by simp [SC.live, SC.ren, SC.refs, PV.renL, PV.ren, PV.refsL, PV.refs, sto_cons, sto_nil, renL_ints, refsL_ints, renL_nats, refsL_nats, List.length_set , hobj, sg8]), (by simp [PV.refsL, PV.refs , hobj, sg8]), (by simp [Free, sto_cons, sto_nil , hobj, sg8]), (by simp [id_eq , hobj, sg8]), ?_⟩; simp only [backL, List.map_cons, List.map_nil, List.cons_append, List.nil_append, SC.ren, PV.renL, PV.ren, renL_ints, renL_nats, id_eq, Env.put , hobj, sg8]) | ((first | refine v_o rfl ?_ ?_ | refine v_oD rfl ?_ ?_); (focus (simp only [ints_length, nats_length, ite_bool, w1, w2, w3, w4, w7, w8, hi, hneg, e1, e2, ints_set, List.length_set, rep1, w5, w6, e3, e4, go_sem]; done)); simp only [Env.put]) | ((first | refine v_u rfl fun K hK => ?_ | refine v_g rfl fun K hK => ?_ | refine v_uD rfl fun K hK => ?_ | refine v_gD rfl fun K hK => ?_); simp only [ints_length, nats_length, ite_bool, w1, w2, w3, w4, w7, w8, hi, hneg, e1, e2, ints_set, List.length_set, rep1, w5, w6, e3, e4, go_sem]) | ((refine callK_lent (fun hc => has_good .nilS keys places i) (by simp only [List.map_cons, List.map_nil]; rw [hsnap0 (a := 1) (c := 3) (d := 4) (keys := keys) (places := places) (by simp [sto_cons]) (by simp [sto_cons]) (by simp [sto_cons])]; rfl) rfl ?_; simp only [upds, eq_self, true_or, true_and])) | refine v_end ?_ | refine v_endD (by kernel_rfl) ?_ | (refine hK _ _ ?_; clear hK K) | refine ⟨by (first | trivial | assumption | omega | (intros; first | assumption | omega)), ?_⟩ | (apply v_condb; (focus (simp only [ints_length, nats_length, ite_bool, w1, w2, w3, w4, w7, w8, hi, hneg, e1, e2, ints_set, List.length_set, rep1, w5, w6, e3, e4, go_sem]; first | exact pvt | exact pvf)); simp only [cond_true, cond_false]) | fail))
    (first | refine v_finR_n ?_ | refine v_finR_r ?_); simp only [ resK, go_sem]
    refine finR_sto (fun x => if x = 102 then 8007 else x) (.int .i64 0) (pobj 1 arr3 (keys.set i key) pl3) (⟨1, arr3, pl3, a15, a17, a18, fun h => by have := a16; rw [h] at this; simp at this, rfl, rfl⟩) (by simp [one, PV.ren, PV.renL , pobj]) (by simp [PV.refs, PV.refsL , pobj]) (by simp [SC.live, SC.ren, SC.refs, PV.renL, PV.ren, PV.refsL, PV.refs, sto_cons, sto_nil, renL_ints, refsL_ints, renL_nats, refsL_nats, List.length_set , pobj]) (by simp [pobj])
  · simp only [sobj, if_neg hnil]
    by_cases hneg : places.getD i 0 < 0
    · obtain ⟨n1, arr1, pl1, p, arr2, pl2, q, arr3, pl3, a1, a2, a3, a4, a5, a6, a7, a8, a9, a10, a11, a12, a13, a14, a15, a16, a17, a18⟩ := Heap.set_law h hi (fun _ => by have := h.c.len; omega) key
      have hadd : Heap.add n arr places i = (n + 1, (if n < arr.length then arr.set n i else arr ++ [i]), places.set i n) := by
        unfold Heap.add
        rw [if_pos (by rw [Heap.getD_of hi (-1) 0]; exact hneg)]
      rw [hadd] at a1
      obtain ⟨b1, b2, b3⟩ : n1 = n + 1 ∧ arr1 = (if n < arr.length then arr.set n i else arr ++ [i]) ∧ pl1 = places.set i n := by simpa using a1
      have u1 := hup_good n1 arr1 (keys.set i key) pl1 p (HW.of_C a5 (by simpa [a6] using hk) (by omega)) a3
      rw [a4, ← a7] at u1
      have u2 := down_good n1 arr2 (keys.set i key) pl2 q (HW.of_C a8 (by simpa [a9] using hk) (by omega)) a12
      rw [a13, ← a14] at u2
      have e3 : (ints pl2).getD i .undef = .int .i64 (pl2.getD i 0) := ints_get (by omega)
      rw [a11] at e3
      have e4 : (ints pl1).getD i .undef = .int .i64 (pl1.getD i 0) := ints_get (by omega)
      rw [a2] at e4
      have w5 : i < pl2.length := by omega
      have w6 : (i : Int) < pl2.length := by omega
      have hlen := h.c.len
      have hfew := h.c.few
      have w7 : IntKind.i64.wrap (((n + 1 : Nat) : Int) - 1) = (n : Int) := by rw [wrap_i64 (by omega) (by omega)]; omega
      by_cases hroom : n < arr.length
      · rw [if_pos hroom] at b2
        have w8 : n + 1 ≤ arr.length := by omega
        have f1 : (n + 1) * 8 ≤ 140737488355328 := by omega
        have f2 : n + 1 ≤ 140737488355328 := by omega
        have f3 : n ≤ arr.length := hlen
        rw [b3] at e4
        subst b1 b2 b3
        unfold pobj
        (repeat (first | refine Stp.go ?_ | refine v_region ?_ | refine v_regionD ?_ | refine v_blocky (by decide) ?_ | (first | refine v_callR (by simp [dstOk]) rfl ?_; simp only [List.map_cons, List.map_nil, List.nil_append, List.append_nil, List.cons_append, Env.eval, Env.get, reduceIte, Nat.reduceEqDiff, List.toList_toArray, PV.ofConst]; refine callR_sto ([.ptr 1 3 0 0, .int .i64 (p : Nat)]) (hobj (n + 1) (arr.set n i) (keys.set i key) (places.set i n)) (sg) (u1) (by simp [PV.renL, PV.ren , hobj, sg]) (by simp [PV.refsL, PV.refs , hobj, sg]) (by simp [SC.live, SC.ren, SC.refs, PV.renL, PV.ren, PV.refsL, PV.refs, sto_cons, sto_nil, renL_ints, refsL_ints, renL_nats, refsL_nats, List.length_set , hobj, sg]) (by simp [id_eq , hobj, sg]) ?_; rintro _ _ ⟨rfl, rfl⟩; refine ⟨hobj (n + 1) arr2 (keys.set i key) pl2, sg, rfl, (by simp [SC.live, SC.ren, SC.refs, PV.renL, PV.ren, PV.refsL, PV.refs, sto_cons, sto_nil, renL_ints, refsL_ints, renL_nats, refsL_nats, List.length_set , hobj, sg]), (by simp [PV.refsL, PV.refs , hobj, sg]), (by simp [Free, sto_cons, sto_nil , hobj, sg]), (by simp [id_eq , hobj, sg]), ?_⟩; simp only [backL, List.map_cons, List.map_nil, List.cons_append, List.nil_append, SC.ren, PV.renL, PV.ren, renL_ints, renL_nats, id_eq, Env.put , hobj, sg] | refine v_callR (by simp [dstOk]) rfl ?_; simp only [List.map_cons, List.map_nil, List.nil_append, List.append_nil, List.cons_append, Env.eval, Env.get, reduceIte, Nat.reduceEqDiff, List.toList_toArray, PV.ofConst]; refine callR_sto ([.ptr 1 3 0 0, .int .i64 (q : Nat)]) (hobj (n + 1) arr2 (keys.set i key) pl2) (sg) (u2) (by simp [PV.renL, PV.ren , hobj, sg]) (by simp [PV.refsL, PV.refs , hobj, sg]) (by simp [SC.live, SC.ren, SC.refs, PV.renL, PV.ren, PV.refsL, PV.refs, sto_cons, sto_nil, renL_ints, refsL_ints, renL_nats, refsL_nats, List.length_set , hobj, sg]) (by simp [id_eq , hobj, sg]) ?_; rintro _ _ ⟨rfl, rfl⟩; refine ⟨hobj (n + 1) arr3 (keys.set i key) pl3, sg, rfl, (by simp [SC.live, SC.ren, SC.refs, PV.renL, PV.ren, PV.refsL, PV.refs, sto_cons, sto_nil, renL_ints, refsL_ints, renL_nats, refsL_nats, List.length_set , hobj, sg]), (by simp [PV.refsL, PV.refs , hobj, sg]), (by simp [Free, sto_cons, sto_nil , hobj, sg]), (by simp [id_eq , hobj, sg]), ?_⟩; simp only [backL, List.map_cons, List.map_nil, List.cons_append, List.nil_append, SC.ren, PV.renL, PV.ren, renL_ints, renL_nats, id_eq, Env.put , hobj, sg]) | ((first | refine v_o rfl ?_ ?_ | refine v_oD rfl ?_ ?_); (focus (simp only [ints_length, nats_length, ite_bool, w1, w2, w3, w4, w7, w8, hi, hneg, e1, e2, ints_set, List.length_set, rep1, nats_room hroom, w5, w6, e3, e4, f1, f2, f3, go_sem]; done)); simp only [Env.put]) | ((first | refine v_u rfl fun K hK => ?_ | refine v_g rfl fun K hK => ?_ | refine v_uD rfl fun K hK => ?_ | refine v_gD rfl fun K hK => ?_); simp only [ints_length, nats_length, ite_bool, w1, w2, w3, w4, w7, w8, hi, hneg, e1, e2, ints_set, List.length_set, rep1, nats_room hroom, w5, w6, e3, e4, f1, f2, f3, go_sem]) | ((refine callK_lent (fun hc => has_good (.slc 1 (nats (arr.take n))) keys places i) (by simp only [List.map_cons, List.map_nil]; rw [hsnap (a := 1) (b := 102) (c := 3) (d := 4) (n := n) (arr := arr) (keys := keys) (places := places) (by simp [sto_cons]) (by simp [sto_cons]) (by simp [sto_cons]) (by simp [sto_cons]) h.c.len]; rfl) rfl ?_; simp only [upds, eq_self, true_or, true_and])) | refine v_end ?_ | refine v_endD (by kernel_rfl) ?_ | (refine hK _ _ ?_; clear hK K) | refine ⟨by (first | trivial | assumption | omega | (intros; first | assumption | omega)), ?_⟩ | (apply v_condb; (focus (simp only [ints_length, nats_length, ite_bool, w1, w2, w3, w4, w7, w8, hi, hneg, e1, e2, ints_set, List.length_set, rep1, nats_room hroom, w5, w6, e3, e4, f1, f2, f3, go_sem]; first | exact pvt | exact pvf)); simp only [cond_true, cond_false]) | fail))
        (first | refine v_finR_n ?_ | refine v_finR_r ?_); simp only [ resK, go_sem]
        refine finR_sto (id) (.int .i64 0) (pobj (n + 1) arr3 (keys.set i key) pl3) (⟨n + 1, arr3, pl3, a15, a17, a18, fun h => by have := a8.len; have := a16; rw [h] at this; simp at * <;> omega, rfl, rfl⟩) (by simp [one, PV.ren, PV.renL , pobj]) (by simp [PV.refs, PV.refsL , pobj]) (by simp [SC.live, SC.ren, SC.refs, PV.renL, PV.ren, PV.refsL, PV.refs, sto_cons, sto_nil, renL_ints, refsL_ints, renL_nats, refsL_nats, List.length_set , pobj]) (by simp [pobj])
      · rw [if_neg hroom] at b2
        have hfull : arr.length = n := by omega
        have w8 : ¬ n + 1 ≤ arr.length := by omega
        have f1 : (n + 1) * 8 ≤ 140737488355328 := by omega
        have f2 : n + 1 ≤ 140737488355328 := by omega
        have f3 : n ≤ arr.length := hlen
        rw [b3] at e4
        subst b1 b2 b3
        unfold pobj
        (repeat (first | refine Stp.go ?_ | refine v_region ?_ | refine v_regionD ?_ | refine v_blocky (by decide) ?_ | (first | refine v_callR (by simp [dstOk]) rfl ?_; simp only [List.map_cons, List.map_nil, List.nil_append, List.append_nil, List.cons_append, Env.eval, Env.get, reduceIte, Nat.reduceEqDiff, List.toList_toArray, PV.ofConst]; refine callR_sto ([.ptr 1 3 0 0, .int .i64 (p : Nat)]) (hobj (n + 1) (arr ++ [i]) (keys.set i key) (places.set i n)) (sg8) (u1) (by simp [PV.renL, PV.ren , hobj, sg8]) (by simp [PV.refsL, PV.refs , hobj, sg8]) (by simp [SC.live, SC.ren, SC.refs, PV.renL, PV.ren, PV.refsL, PV.refs, sto_cons, sto_nil, renL_ints, refsL_ints, renL_nats, refsL_nats, List.length_set , hobj, sg8]) (by simp [id_eq , hobj, sg8]) ?_; rintro _ _ ⟨rfl, rfl⟩; refine ⟨hobj (n + 1) arr2 (keys.set i key) pl2, sg8, rfl, (by simp [SC.live, SC.ren, SC.refs, PV.renL, PV.ren, PV.refsL, PV.refs, sto_cons, sto_nil, renL_ints, refsL_ints, renL_nats, refsL_nats, List.length_set , hobj, sg8]), (by simp [PV.refsL, PV.refs , hobj, sg8]), (by simp [Free, sto_cons, sto_nil , hobj, sg8]), (by simp [id_eq , hobj, sg8]), ?_⟩; simp only [backL, List.map_cons, List.map_nil, List.cons_append, List.nil_append, SC.ren, PV.renL, PV.ren, renL_ints, renL_nats, id_eq, Env.put , hobj, sg8] | refine v_callR (by simp [dstOk]) rfl ?_; simp only [List.map_cons, List.map_nil, List.nil_append, List.append_nil, List.cons_append, Env.eval, Env.get, reduceIte, Nat.reduceEqDiff, List.toList_toArray, PV.ofConst]; refine callR_sto ([.ptr 1 3 0 0, .int .i64 (q : Nat)]) (hobj (n + 1) arr2 (keys.set i key) pl2) (sg8) (u2) (by simp [PV.renL, PV.ren , hobj, sg8]) (by simp [PV.refsL, PV.refs , hobj, sg8]) (by simp [SC.live, SC.ren, SC.refs, PV.renL, PV.ren, PV.refsL, PV.refs, sto_cons, sto_nil, renL_ints, refsL_ints, renL_nats, refsL_nats, List.length_set , hobj, sg8]) (by simp [id_eq , hobj, sg8]) ?_; rintro _ _ ⟨rfl, rfl⟩; refine ⟨hobj (n + 1) arr3 (keys.set i key) pl3, sg8, rfl, (by simp [SC.live, SC.ren, SC.refs, PV.renL, PV.ren, PV.refsL, PV.refs, sto_cons, sto_nil, renL_ints, refsL_ints, renL_nats, refsL_nats, List.length_set , hobj, sg8]), (by simp [PV.refsL, PV.refs , hobj, sg8]), (by simp [Free, sto_cons, sto_nil , hobj, sg8]), (by simp [id_eq , hobj, sg8]), ?_⟩; simp only [backL, List.map_cons, List.map_nil, List.cons_append, List.nil_append, SC.ren, PV.renL, PV.ren, renL_ints, renL_nats, id_eq, Env.put , hobj, sg8]) | ((first | refine v_o rfl ?_ ?_ | refine v_oD rfl ?_ ?_); (focus (simp only [ints_length, nats_length, ite_bool, w1, w2, w3, w4, w7, w8, hi, hneg, e1, e2, ints_set, List.length_set, rep1, nats_more hfull, w5, w6, e3, e4, f1, f2, f3, go_sem]; done)); simp only [Env.put]) | ((first | refine v_u rfl fun K hK => ?_ | refine v_g rfl fun K hK => ?_ | refine v_uD rfl fun K hK => ?_ | refine v_gD rfl fun K hK => ?_); simp only [ints_length, nats_length, ite_bool, w1, w2, w3, w4, w7, w8, hi, hneg, e1, e2, ints_set, List.length_set, rep1, nats_more hfull, w5, w6, e3, e4, f1, f2, f3, go_sem]) | ((refine callK_lent (fun hc => has_good (.slc 1 (nats (arr.take n))) keys places i) (by simp only [List.map_cons, List.map_nil]; rw [hsnap (a := 1) (b := 102) (c := 3) (d := 4) (n := n) (arr := arr) (keys := keys) (places := places) (by simp [sto_cons]) (by simp [sto_cons]) (by simp [sto_cons]) (by simp [sto_cons]) h.c.len]; rfl) rfl ?_; simp only [upds, eq_self, true_or, true_and])) | refine v_end ?_ | refine v_endD (by kernel_rfl) ?_ | (refine hK _ _ ?_; clear hK K) | refine ⟨by (first | trivial | assumption | omega | (intros; first | assumption | omega)), ?_⟩ | (apply v_condb; (focus (simp only [ints_length, nats_length, ite_bool, w1, w2, w3, w4, w7, w8, hi, hneg, e1, e2, ints_set, List.length_set, rep1, nats_more hfull, w5, w6, e3, e4, f1, f2, f3, go_sem]; first | exact pvt | exact pvf)); simp only [cond_true, cond_false]) | fail))
        (first | refine v_finR_n ?_ | refine v_finR_r ?_); simp only [ resK, go_sem]
        refine finR_sto (fun x => if x = 102 then 8007 else x) (.int .i64 0) (pobj (n + 1) arr3 (keys.set i key) pl3) (⟨n + 1, arr3, pl3, a15, a17, a18, fun h => by have := a8.len; have := a16; rw [h] at this; simp at * <;> omega, rfl, rfl⟩) (by simp [one, PV.ren, PV.renL , pobj]) (by simp [PV.refs, PV.refsL , pobj]) (by simp [SC.live, SC.ren, SC.refs, PV.renL, PV.ren, PV.refsL, PV.refs, sto_cons, sto_nil, renL_ints, refsL_ints, renL_nats, refsL_nats, List.length_set , pobj]) (by simp [pobj])
    · obtain ⟨n1, arr1, pl1, p, arr2, pl2, q, arr3, pl3, a1, a2, a3, a4, a5, a6, a7, a8, a9, a10, a11, a12, a13, a14, a15, a16, a17, a18⟩ := Heap.set_law h hi (fun _ => by have := h.c.len; omega) key
      have hadd : Heap.add n arr places i = (n, arr, places) := by
        unfold Heap.add
        rw [if_neg (by rw [Heap.getD_of hi (-1) 0]; exact hneg)]
      rw [hadd] at a1
      obtain ⟨rfl, rfl, rfl⟩ : n1 = n ∧ arr1 = arr ∧ pl1 = places := by simpa using a1
      have u1 := hup_good n1 arr1 (keys.set i key) pl1 p (HW.of_C a5 (by simpa using hk) hsm) a3
      rw [a4, ← a7] at u1
      have u2 := down_good n1 arr2 (keys.set i key) pl2 q (HW.of_C a8 (by simpa [a9] using hk) (by omega)) a12
      rw [a13, ← a14] at u2
      have e3 : (ints pl2).getD i .undef = .int .i64 (pl2.getD i 0) := ints_get (by omega)
      rw [a11] at e3
      rw [a2] at e2 hneg
      have w5 : i < pl2.length := by omega
      have w6 : (i : Int) < pl2.length := by omega
      unfold pobj
      (repeat (first | refine Stp.go ?_ | refine v_region ?_ | refine v_regionD ?_ | refine v_blocky (by decide) ?_ | (first | refine v_callR (by simp [dstOk]) rfl ?_; simp only [List.map_cons, List.map_nil, List.nil_append, List.append_nil, List.cons_append, Env.eval, Env.get, reduceIte, Nat.reduceEqDiff, List.toList_toArray, PV.ofConst]; refine callR_sto ([.ptr 1 3 0 0, .int .i64 (p : Nat)]) (hobj n1 arr1 (keys.set i key) pl1) (sg) (u1) (by simp [PV.renL, PV.ren , hobj, sg]) (by simp [PV.refsL, PV.refs , hobj, sg]) (by simp [SC.live, SC.ren, SC.refs, PV.renL, PV.ren, PV.refsL, PV.refs, sto_cons, sto_nil, renL_ints, refsL_ints, renL_nats, refsL_nats, List.length_set , hobj, sg]) (by simp [id_eq , hobj, sg]) ?_; rintro _ _ ⟨rfl, rfl⟩; refine ⟨hobj n1 arr2 (keys.set i key) pl2, sg, rfl, (by simp [SC.live, SC.ren, SC.refs, PV.renL, PV.ren, PV.refsL, PV.refs, sto_cons, sto_nil, renL_ints, refsL_ints, renL_nats, refsL_nats, List.length_set , hobj, sg]), (by simp [PV.refsL, PV.refs , hobj, sg]), (by simp [Free, sto_cons, sto_nil , hobj, sg]), (by simp [id_eq , hobj, sg]), ?_⟩; simp only [backL, List.map_cons, List.map_nil, List.cons_append, List.nil_append, SC.ren, PV.renL, PV.ren, renL_ints, renL_nats, id_eq, Env.put , hobj, sg] | refine v_callR (by simp [dstOk]) rfl ?_; simp only [List.map_cons, List.map_nil, List.nil_append, List.append_nil, List.cons_append, Env.eval, Env.get, reduceIte, Nat.reduceEqDiff, List.toList_toArray, PV.ofConst]; refine callR_sto ([.ptr 1 3 0 0, .int .i64 (q : Nat)]) (hobj n1 arr2 (keys.set i key) pl2) (sg) (u2) (by simp [PV.renL, PV.ren , hobj, sg]) (by simp [PV.refsL, PV.refs , hobj, sg]) (by simp [SC.live, SC.ren, SC.refs, PV.renL, PV.ren, PV.refsL, PV.refs, sto_cons, sto_nil, renL_ints, refsL_ints, renL_nats, refsL_nats, List.length_set , hobj, sg]) (by simp [id_eq , hobj, sg]) ?_; rintro _ _ ⟨rfl, rfl⟩; refine ⟨hobj n1 arr3 (keys.set i key) pl3, sg, rfl, (by simp [SC.live, SC.ren, SC.refs, PV.renL, PV.ren, PV.refsL, PV.refs, sto_cons, sto_nil, renL_ints, refsL_ints, renL_nats, refsL_nats, List.length_set , hobj, sg]), (by simp [PV.refsL, PV.refs , hobj, sg]), (by simp [Free, sto_cons, sto_nil , hobj, sg]), (by simp [id_eq , hobj, sg]), ?_⟩; simp only [backL, List.map_cons, List.map_nil, List.cons_append, List.nil_append, SC.ren, PV.renL, PV.ren, renL_ints, renL_nats, id_eq, Env.put , hobj, sg]) | ((first | refine v_o rfl ?_ ?_ | refine v_oD rfl ?_ ?_); (focus (simp only [ints_length, nats_length, ite_bool, w1, w2, w3, w4, w5, w6, hi, hneg, e1, e2, e3, ints_set, List.length_set, go_sem]; done)); simp only [Env.put]) | ((first | refine v_u rfl fun K hK => ?_ | refine v_g rfl fun K hK => ?_ | refine v_uD rfl fun K hK => ?_ | refine v_gD rfl fun K hK => ?_); simp only [ints_length, nats_length, ite_bool, w1, w2, w3, w4, w5, w6, hi, hneg, e1, e2, e3, ints_set, List.length_set, go_sem]) | ((refine callK_lent (fun hc => has_good (.slc 1 (nats (arr1.take n1))) keys pl1 i) (by simp only [List.map_cons, List.map_nil]; rw [hsnap (a := 1) (b := 102) (c := 3) (d := 4) (n := n1) (arr := arr1) (keys := keys) (places := pl1) (by simp [sto_cons]) (by simp [sto_cons]) (by simp [sto_cons]) (by simp [sto_cons]) h.c.len]; rfl) rfl ?_; simp only [upds, eq_self, true_or, true_and])) | refine v_end ?_ | refine v_endD (by kernel_rfl) ?_ | (refine hK _ _ ?_; clear hK K) | refine ⟨by (first | trivial | assumption | omega | (intros; first | assumption | omega)), ?_⟩ | (apply v_condb; (focus (simp only [ints_length, nats_length, ite_bool, w1, w2, w3, w4, w5, w6, hi, hneg, e1, e2, e3, ints_set, List.length_set, go_sem]; first | exact pvt | exact pvf)); simp only [cond_true, cond_false]) | fail))
      (first | refine v_finR_n ?_ | refine v_finR_r ?_); simp only [ resK, go_sem]
      refine finR_sto (id) (.int .i64 0) (pobj n1 arr3 (keys.set i key) pl3) (⟨n1, arr3, pl3, a15, a17, a18, fun h => hnil (List.eq_nil_of_length_eq_zero (by rw [← a16, h]; rfl)), rfl, rfl⟩) (by simp [one, PV.ren, PV.renL , pobj]) (by simp [PV.refs, PV.refsL , pobj]) (by simp [SC.live, SC.ren, SC.refs, PV.renL, PV.ren, PV.refsL, PV.refs, sto_cons, sto_nil, renL_ints, refsL_ints, renL_nats, refsL_nats, List.length_set , pobj]) (by simp )
end Go.V
/- Layer 3: New. -/
set_option linter.unusedVariables false
set_option linter.unusedSimpArgs false
namespace Go.V
open Go.RowKit Go.Proofs
attribute [local irreducible] wp seqK lexK opK callK upd sto Good GoodR

/-- A new heap's objects; none keeps a place. -/
def nobj (keys places : List Int) : List (Nat × SC) :=
  [(101, .row 136 3 [.agg [.nilS, .sref 103 1 0 keys.length false, .sref 104 1 0 places.length false]]), (103, .row 3 1 (ints keys)), (104, .row 3 1 (ints places))]

theorem new_good (n : Nat) (hn : n ≤ 65536) (hp : 0 < n) :
    GoodR Try.prog 94 [.int .i64 n] (sto []) fun r g => r = .tup [.ptr 101 3 0 0, .int .i64 0] ∧ g = sto (nobj (List.replicate n 0) (List.replicate n (-1))) := by
  refine v_enterR ttok mixed Try.func94 (by kernel_rfl) rfl Try.ntmps94 Try.results94 (by simp) ?_; simp only [argEnv, List.range, List.range.loop, List.length_cons, List.length_nil, List.zip_cons_cons, List.zip_nil_left]
  have v1 : ¬ (n : Int) < 0 := by omega
  have v2 : ¬ (65536 : Int) < n := by omega
  have v3 : (0 : Int) ≤ n := by omega
  have v4 : (n : Int) ≤ n := by omega
  have v5 : n * 8 ≤ 140737488355328 := by omega
  have v6 : (n : Int) ≤ 140737488355328 := by omega
  (repeat (first | refine Stp.go ?_ | refine v_region ?_ | refine v_regionD ?_ | refine v_blocky (by decide) ?_ | ((first | refine v_o rfl ?_ ?_ | refine v_oD rfl ?_ ?_); (focus (simp only [ite_bool, v1, v2, v3, v4, v5, v6, ints_replicate, ints_length, List.length_replicate, go_sem]; done)); simp only [Env.put]) | ((first | refine v_u rfl fun K hK => ?_ | refine v_g rfl fun K hK => ?_ | refine v_uD rfl fun K hK => ?_ | refine v_gD rfl fun K hK => ?_); simp only [ite_bool, v1, v2, v3, v4, v5, v6, ints_replicate, ints_length, List.length_replicate, go_sem]) | (fail) | refine v_end ?_ | refine v_endD (by kernel_rfl) ?_ | (refine hK _ _ ?_; clear hK K) | refine ⟨by (first | trivial | assumption | omega | (intros; first | assumption | omega)), ?_⟩ | (apply v_condb; (focus (simp only [ite_bool, v1, v2, v3, v4, v5, v6, ints_replicate, ints_length, List.length_replicate, go_sem]; first | exact pvt | exact pvf)); simp only [cond_true, cond_false]) | fail))
  refine v_loop [4, 22, 23] (fun k : Nat => k ≤ n) (fun k => n - k) (fun k => [.ptr 101 3 0 0, .int .i64 n, .int .i64 k])
    (fun k => nobj (List.replicate n 0) (List.replicate k (-1) ++ List.replicate (n - k) 0)) 0 (Nat.zero_le _) ?_ ?_
  · exact (fits_sto _ (fun x => if x = 101 then 4005 else if x = 103 then 4001 else if x = 104 then 4003 else x) (by simp [Env.get, PV.renL, PV.ren , nobj, renL_ints, refsL_ints]) (by simp [PV.refsL, PV.refs , nobj, renL_ints, refsL_ints]) (by simp [SC.live, SC.ren, SC.refs, PV.renL, PV.ren, PV.refsL, PV.refs, sto_cons, sto_nil , nobj, renL_ints, refsL_ints]) (by simp [nobj]))
  · intro k hk
    have hlen : (List.replicate k (-1 : Int) ++ List.replicate (n - k) 0).length = n := by simp; omega
    simp only [List.zip_cons_cons, List.zip_nil_left]
    by_cases hc : k < n
    · have w1 : (k : Int) < n := by omega
      have w2 : (0 : Int) ≤ k := by omega
      have w3 : IntKind.i64.wrap ((k : Int) + 1) = ((k + 1 : Nat) : Int) := by rw [wrap_i64 (by omega) (by omega)]; omega
      have w4 : k < (List.replicate k (-1 : Int) ++ List.replicate (n - k) 0).length := by omega
      have w5 := ints_get w4
      have w6 : (List.replicate k (-1 : Int) ++ List.replicate (n - k) 0).set k (-1) = List.replicate (k + 1) (-1) ++ List.replicate (n - (k + 1)) 0 := by
        have : n - k = (n - (k + 1)) + 1 := by omega
        rw [this, List.replicate_succ, List.replicate_succ', List.set_append_right _ _ (by simp)]
        simp
      have hlen' : (List.replicate (k + 1) (-1 : Int) ++ List.replicate (n - (k + 1)) 0).length = n := by simp; omega
      unfold nobj
      (repeat (first | refine Stp.go ?_ | refine v_region ?_ | refine v_regionD ?_ | refine v_blocky (by decide) ?_ | ((first | refine v_o rfl ?_ ?_ | refine v_oD rfl ?_ ?_); (focus (simp only [w1, w2, w3, w4, w5, ints_length, ints_set, hlen, go_sem]; done)); simp only [Env.put]) | ((first | refine v_u rfl fun K hK => ?_ | refine v_g rfl fun K hK => ?_ | refine v_uD rfl fun K hK => ?_ | refine v_gD rfl fun K hK => ?_); simp only [w1, w2, w3, w4, w5, ints_length, ints_set, hlen, go_sem]) | (fail) | refine v_end ?_ | refine v_endD (by kernel_rfl) ?_ | (refine hK _ _ ?_; clear hK K) | refine ⟨by (first | trivial | assumption | omega | (intros; first | assumption | omega)), ?_⟩ | (apply v_condb; (focus (simp only [w1, w2, w3, w4, w5, ints_length, ints_set, hlen, go_sem]; first | exact pvt | exact pvf)); simp only [cond_true, cond_false]) | fail))
      refine v_round (k + 1) hc (by omega) (fits_sto _ id (by simp [Env.get, PV.renL, PV.ren , nobj, renL_ints, refsL_ints, w6, hlen, hlen']) (by simp [PV.refsL, PV.refs , nobj, renL_ints, refsL_ints, w6, hlen, hlen']) (by simp [SC.live, SC.ren, SC.refs, PV.renL, PV.ren, PV.refsL, PV.refs, sto_cons, sto_nil , nobj, renL_ints, refsL_ints, w6, hlen, hlen']) (by simp [nobj]))
    · have hkn : k = n := by omega
      subst hkn
      have w1 : ¬ (k : Int) < k := by omega
      have e : List.replicate k (-1 : Int) ++ List.replicate (k - k) 0 = List.replicate k (-1) := by simp
      rw [e]
      unfold nobj
      (repeat (first | refine Stp.go ?_ | refine v_region ?_ | refine v_regionD ?_ | refine v_blocky (by decide) ?_ | ((first | refine v_o rfl ?_ ?_ | refine v_oD rfl ?_ ?_); (focus (simp only [w1, ints_length,  go_sem]; done)); simp only [Env.put]) | ((first | refine v_u rfl fun K hK => ?_ | refine v_g rfl fun K hK => ?_ | refine v_uD rfl fun K hK => ?_ | refine v_gD rfl fun K hK => ?_); simp only [w1, ints_length,  go_sem]) | (refine v_loopx ?_) | refine v_end ?_ | refine v_endD (by kernel_rfl) ?_ | (refine hK _ _ ?_; clear hK K) | refine ⟨by (first | trivial | assumption | omega | (intros; first | assumption | omega)), ?_⟩ | (apply v_condb; (focus (simp only [w1, ints_length,  go_sem]; first | exact pvt | exact pvf)); simp only [cond_true, cond_false]) | fail))
      (first | refine v_finR_n ?_ | refine v_finR_r ?_); simp only [ resK, go_sem]
      refine finR_sto (id) (.tup [.ptr 101 3 0 0, .int .i64 0]) (nobj (List.replicate k 0) (List.replicate k (-1))) (⟨rfl, rfl⟩) (by simp [one, PV.ren, PV.renL , nobj]) (by simp [PV.refs, PV.refsL , nobj]) (by simp [SC.live, SC.ren, SC.refs, PV.renL, PV.ren, PV.refsL, PV.refs, sto_cons, sto_nil, renL_ints, refsL_ints, renL_nats, refsL_nats, List.length_set , nobj]) (by simp [nobj])
end Go.V
