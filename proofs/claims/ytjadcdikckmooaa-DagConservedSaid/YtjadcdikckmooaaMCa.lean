import Derived.Test.YtjadcdikckmooaaMG
import Derived.Test.YtjadcdikckmooaaMP
/- A part of a proof, with no condition of its own. Merged texts: L1 F2 F3 F4. -/
/- Layer 12: the graph of the shortest paths, in plain Lean. -/
set_option linter.unusedVariables false
set_option linter.unusedSimpArgs false
namespace Go.V
open Go.RowKit Go.Proofs

theorem mem_next {t : Topo} (ht : t.ok = true) {down : List Bool} {dist : List Int} {n d a : Int} : a ∈ nextL t down dist n d ↔ t.arc a ∧ t.tail a = n ∧ onB t down dist a d = true := by
  rw [nextL_eq t ht, List.mem_filter, arcsL_iff ht (fwd := true)]
  exact ⟨fun h => ⟨h.1.1, h.1.2, h.2⟩, fun h => ⟨⟨h.1, h.2.1⟩, h.2.2⟩⟩
theorem on_iff {t : Topo} {down : List Bool} {dist : List Int} {a d : Int} : onB t down dist a d = true ↔
    upB down a = true ∧ t.tail a ≠ d ∧ 0 ≤ dist.getD (t.head a).toNat 0 ∧ (t.head a = d ∨ t.over (t.head a) = false) ∧ dist.getD (t.tail a).toNat 0 = dist.getD (t.head a).toNat 0 + t.cost a := by
  unfold onB
  simp only [Bool.and_eq_true, Bool.or_eq_true, Bool.not_eq_true', decide_eq_true_eq, decide_eq_false_iff_not, and_assoc]

section
variable {t : Topo} {down : List Bool} {d : Int} {dist : List Int}
theorem gr_n (ht : t.ok = true) (hI : SP.IsDist (t.gr down d false) dist) : (dist.length : Int) = t.n := by
  have h1 := hI.len
  have h2 := Topo.frame_n (Topo.ok_frame ht)
  simp only [Topo.gr] at h1
  omega
/-- An arc of the graph leads nearer. -/
theorem next_down (ht : t.ok = true) (hI : SP.IsDist (t.gr down d false) dist) {n a : Int} (h : a ∈ nextL t down dist n d) :
    t.arc a ∧ t.tail a = n ∧ 0 ≤ n ∧ n < t.n ∧ n ≠ d ∧ 0 ≤ t.head a ∧ t.head a < t.n ∧ 0 ≤ dist.getD (t.head a).toNat (-1) ∧ dist.getD n.toNat (-1) = dist.getD (t.head a).toNat (-1) + t.cost a ∧ 1 ≤ t.cost a := by
  obtain ⟨h1, h2, h3⟩ := (mem_next ht).1 h
  obtain ⟨_, q1, q2, _, q3⟩ := on_iff.1 h3
  have hl := gr_n ht hI
  have b1 := t.tail_in ht h1
  have b2 := t.head_in ht h1
  have b3 := t.cost_in ht h1
  rw [h2] at b1 q1 q3
  rw [getD_01 (by omega)] at q2 q3
  rw [getD_01 (by omega)] at q3
  exact ⟨h1, h2, b1.1, b1.2, q1, b2.1, b2.2, q2, q3, b3.1⟩
/-- A node that can reach the destination has a next arc. -/
theorem next_some (ht : t.ok = true) (hI : SP.IsDist (t.gr down d false) dist) {n : Nat} (hn : (n : Int) < t.n) (hd0 : 0 ≤ d) (hd : (n : Int) ≠ d) (h0 : 0 ≤ dist.getD n (-1)) : nextL t down dist n d ≠ [] := by
  have hl := gr_n ht hI
  have hln := hI.len
  obtain ⟨a, ha, hu, hx, hy, he⟩ := hI.just n (by rw [← hln]; omega) (by simp only [Topo.gr]; omega) h0
  simp only [Topo.gr, Topo.X, Topo.Y, Bool.false_eq_true, if_false] at ha hu hx hy he
  have harc : t.arc a := ⟨by omega, by omega⟩
  have b1 := t.tail_in ht harc
  have b2 := t.head_in ht harc
  have ht1 : t.tail a = n := by omega
  simp only [useB, Topo.Y, Bool.false_eq_true, if_false, Bool.and_eq_true, Bool.or_eq_true, decide_eq_true_eq, Bool.not_eq_true'] at hu
  have : (a : Int) ∈ nextL t down dist n d := (mem_next ht).2 ⟨harc, ht1, on_iff.2 ⟨hu.1, by rw [ht1]; exact hd, by rw [getD_01 (by omega)]; exact hy, hu.2, by
    rw [ht1, getD_01 (by omega), getD_01 (by omega), Int.toNat_natCast]; exact he⟩⟩
  intro e
  rw [e] at this
  cases this
theorem next_nil_iff (ht : t.ok = true) (hI : SP.IsDist (t.gr down d false) dist) {n : Nat} (hn : (n : Int) < t.n) (hd0 : 0 ≤ d) (h0 : 0 ≤ dist.getD n (-1)) : nextL t down dist n d = [] ↔ (n : Int) = d := by
  refine ⟨fun h => Classical.byContradiction fun hne => next_some ht hI hn hd0 hne h0 h, fun h => nextL_none t ht down dist n d (.inl h)⟩
/-- Next arcs lead to later nodes. -/
theorem next_later (ht : t.ok = true) (hI : SP.IsDist (t.gr down d false) dist) {i : Nat} (hi : i < (orderL dist).length) {a : Int} (h : a ∈ nextL t down dist ((orderL dist).getD i 0) d) : t.head a ∈ (orderL dist).drop (i + 1) := by
  obtain ⟨h1, h2, h3, h4, h5, h6, h7, h8, h9, h10⟩ := next_down ht hI h
  have hl := gr_n ht hI
  have hm : t.head a ∈ orderL dist := orderL_mem.2 ⟨(t.head a).toNat, by omega, by omega, h8⟩
  obtain ⟨j, hj, hje⟩ := List.getElem_of_mem hm
  have hge : (orderL dist).getD i 0 = (orderL dist)[i] := by simp [List.getD, hi]
  rw [hge] at h9
  have hs := orderL_sorted dist
  rcases Nat.lt_trichotomy j i with hlt | heq | hgt
  · have := List.pairwise_iff_getElem.1 hs j i hj hi hlt
    rw [hje] at this
    simp only [SP.Rk] at this
    omega
  · subst heq
    rw [hje] at h9
    omega
  · rw [List.mem_iff_getElem]
    refine ⟨j - (i + 1), by simp; omega, ?_⟩
    rw [List.getElem_drop]
    have : i + 1 + (j - (i + 1)) = j := by omega
    simp only [this]
    exact hje
end

/-! The numbers of shortest paths. -/
def addM (most s x : Int) : Int := s + (if most - s < x then most - s else x)
theorem addM_fold (most : Int) : ∀ (l : List Int) (s : Int), s ≤ most → (∀ x ∈ l, 0 ≤ x) → l.foldl (addM most) s = if most < s + l.sum then most else s + l.sum
  | [], s, hs, _ => by simp; omega
  | x :: l, s, hs, h => by
    have h0 := h x (by simp)
    have hsum : 0 ≤ l.sum := by
      have : ∀ l : List Int, (∀ x ∈ l, 0 ≤ x) → 0 ≤ l.sum := by
        intro l
        induction l with
        | nil => simp
        | cons y l ih => intro h; have := h y (by simp); have := ih fun z hz => h z (by simp [hz]); simp; omega
      exact this l fun y hy => h y (by simp [hy])
    rw [List.foldl_cons, addM_fold most l _ (by unfold addM; split <;> omega) (fun y hy => h y (by simp [hy]))]
    simp only [List.sum_cons, addM]
    split <;> (try split) <;> (try split) <;> omega
theorem cntS_fold (t : Topo) (most : Int) (xn : Nat) : ∀ (l : List Int) (c : List Int), xn < c.length → (∀ a ∈ l, (t.head a).toNat ≠ xn) → ∀ j,
    (l.foldl (cntS t most xn) c).getD j 0 = if j = xn then (l.map fun a => c.getD (t.head a).toNat 0).foldl (addM most) (c.getD xn 0) else c.getD j 0
  | [], c, _, _, j => by
    by_cases h : j = xn
    · subst h; simp
    · simp [h]
  | a :: l, c, hx, h, j => by
    have ha := h a (by simp)
    have hlen : xn < (cntS t most xn c a).length := by simp [cntS, hx]
    have hget : ∀ k, (cntS t most xn c a).getD k 0 = if k = xn then addM most (c.getD xn 0) (c.getD (t.head a).toNat 0) else c.getD k 0 := fun k => by
      unfold cntS addM
      rw [getD_set0]
      simp only [Int.toNat_natCast]
      by_cases hk : k = xn
      · subst hk; simp [hx]
      · rw [if_neg (by omega), if_neg hk]
    rw [List.foldl_cons, cntS_fold t most xn l _ hlen (fun b hb => h b (by simp [hb])) j]
    by_cases hj : j = xn
    · rw [if_pos hj, if_pos hj, List.map_cons, List.foldl_cons, hget xn, if_pos rfl]
      congr 1
      refine List.map_congr_left fun b hb => ?_
      rw [hget, if_neg (h b (by simp [hb]))]
    · rw [if_neg hj, if_neg hj, hget j, if_neg hj]

section
variable {t : Topo} {down : List Bool} {d : Int} {dist : List Int} {most : Int}
theorem cntX_get (ht : t.ok = true) (hI : SP.IsDist (t.gr down d false) dist) {xn : Nat} {c : List Int} (hx : xn < c.length) (j : Nat) :
    (cntX t down dist d most xn c).getD j 0 = if j = xn then ((nextL t down dist xn d).map fun a => c.getD (t.head a).toNat 0).foldl (addM most) (c.getD xn 0) else c.getD j 0 := by
  unfold cntX
  refine cntS_fold t most xn _ c hx (fun a ha => ?_) j
  obtain ⟨h1, h2, h3, h4, h5, h6, h7, h8, h9, h10⟩ := next_down ht hI ha
  intro e
  rw [e, Int.toNat_natCast] at h9
  omega
theorem cntL_len (t : Topo) (down : List Bool) (dist : List Int) (d most : Int) (hm : 0 ≤ most) (l : List Int) : (cntL t down dist d most l).length = t.n.toNat := (CntOk.all hm l).len
theorem cntL_stay (ht : t.ok = true) (hI : SP.IsDist (t.gr down d false) dist) (hm : 0 ≤ most) : ∀ (pre rest : List Int), (∀ x ∈ pre, ∃ i : Nat, x = i ∧ i < dist.length) → ∀ j : Nat, (j : Int) ∉ pre →
    (cntL t down dist d most (pre ++ rest)).getD j 0 = (cntL t down dist d most rest).getD j 0
  | [], rest, _, j, _ => rfl
  | x :: pre, rest, h, j, hj => by
    obtain ⟨i, rfl, hi⟩ := h x (by simp)
    have hl := gr_n ht hI
    have hne : j ≠ i := fun e => hj (by rw [e]; simp)
    rw [List.cons_append]
    simp only [cntL]
    rw [cntX_get ht hI (by rw [cntL_len t down dist d most hm]; omega), if_neg hne]
    exact cntL_stay ht hI hm pre rest (fun y hy => h y (by simp [hy])) j (fun hy => hj (by simp [hy]))
theorem orderL_nodup (dist : List Int) : (orderL dist).Pairwise (· ≠ ·) := (orderL_sorted dist).imp fun {a b} h e => by
  subst e; exact SP.Rk.irrefl h
theorem cnt0_get (t : Topo) (d most : Int) (j : Nat) (hd : d.toNat < t.n.toNat) : (cnt0 t d most).getD j 0 = if j = d.toNat then (if most < 1 then most else 1) else 0 := by
  unfold cnt0
  rw [getD_set0]
  by_cases h : d.toNat = j
  · subst h; simp [hd]
  · rw [if_neg (by omega), if_neg (by omega)]
    simp only [List.getD_eq_getElem?_getD, List.getElem?_replicate]
    split <;> rfl
/-- The number of shortest paths from a node is the sum of those from the ends of its next arcs. -/
theorem cnt_sum (ht : t.ok = true) (hI : SP.IsDist (t.gr down d false) dist) (hm : 0 ≤ most) (hd0 : 0 ≤ d) (hd1 : d < t.n) (n : Nat) (hn : (n : Int) < t.n) (hne : (n : Int) ≠ d) :
    (cntL t down dist d most (orderL dist)).getD n 0 =
      if most < ((nextL t down dist n d).map fun a => (cntL t down dist d most (orderL dist)).getD (t.head a).toNat 0).sum then most
      else ((nextL t down dist n d).map fun a => (cntL t down dist d most (orderL dist)).getD (t.head a).toNat 0).sum := by
  have hl := gr_n ht hI
  have hel : ∀ x ∈ orderL dist, ∃ i : Nat, x = i ∧ i < dist.length := fun x hx => by
    obtain ⟨i, e1, e2, _⟩ := orderL_mem.1 hx
    exact ⟨i, e1, e2⟩
  by_cases hmem : (n : Int) ∈ orderL dist
  · obtain ⟨i, hi, hie⟩ := List.getElem_of_mem hmem
    have hgi : (orderL dist).getD i 0 = n := by rw [← hie]; simp [List.getD, hi]
    have hlater := fun a => next_later ht hI (a := a) hi
    rw [hgi] at hlater
    have hnd := orderL_nodup dist
    have hstay := cntL_stay ht hI hm (rest := (orderL dist).drop (i + 1)) ((orderL dist).take (i + 1)) (fun x hx => hel x (List.mem_of_mem_take hx))
    rw [List.take_append_drop] at hstay
    have hsplit : orderL dist = (orderL dist).take i ++ (n : Int) :: (orderL dist).drop (i + 1) := by
      rw [← hie, ← List.drop_eq_getElem_cons hi, List.take_append_drop]
    have hapart : ∀ x, x ∈ (orderL dist).drop (i + 1) → x ∉ (orderL dist).take (i + 1) := fun x hx hy => by
      have h3 := hnd
      rw [← List.take_append_drop (i + 1) (orderL dist)] at h3
      exact (List.pairwise_append.1 h3).2.2 x hy x hx rfl
    have hn1 : (n : Int) ∉ (orderL dist).take i ∧ (n : Int) ∉ (orderL dist).drop (i + 1) := by
      have h3 := hnd
      rw [hsplit] at h3
      obtain ⟨_, h4, h5⟩ := List.pairwise_append.1 h3
      exact ⟨fun hy => h5 _ hy _ (by simp) rfl, fun hy => (List.pairwise_cons.1 h4).1 _ hy rfl⟩
    have e1 : (cntL t down dist d most (orderL dist)).getD n 0 = (cntL t down dist d most ((n : Int) :: (orderL dist).drop (i + 1))).getD n 0 := by
      conv => lhs; rw [hsplit]
      exact cntL_stay ht hI hm _ _ (fun x hx => hel x (List.mem_of_mem_take hx)) n hn1.1
    have e2 : (cntL t down dist d most ((orderL dist).drop (i + 1))).getD n 0 = 0 := by
      have := cntL_stay ht hI hm (rest := []) ((orderL dist).drop (i + 1)) (fun x hx => hel x (List.mem_of_mem_drop hx)) n hn1.2
      rw [List.append_nil] at this
      rw [this]
      show (cnt0 t d most).getD n 0 = 0
      rw [cnt0_get t d most n (by omega), if_neg (by omega)]
    have e3 : ((nextL t down dist n d).map fun a => (cntL t down dist d most ((orderL dist).drop (i + 1))).getD (t.head a).toNat 0) =
        (nextL t down dist n d).map fun a => (cntL t down dist d most (orderL dist)).getD (t.head a).toNat 0 := by
      refine List.map_congr_left fun a ha => ?_
      have hh := hapart _ (hlater a ha)
      obtain ⟨h1, h2, h3, h4, h5, h6, h7, h8, h9, h10⟩ := next_down ht hI ha
      have eh : (((t.head a).toNat : Nat) : Int) = t.head a := by omega
      exact (hstay (t.head a).toNat (by rw [eh]; exact hh)).symm
    rw [e1]
    simp only [cntL]
    rw [cntX_get ht hI (by rw [cntL_len t down dist d most hm]; omega), if_pos rfl, e2, e3]
    have := addM_fold most ((nextL t down dist n d).map fun a => (cntL t down dist d most (orderL dist)).getD (t.head a).toNat 0) 0 hm (fun x hx => by
      obtain ⟨a, _, rfl⟩ := List.mem_map.1 hx
      exact (CntOk.all hm _).lo _)
    rw [this]
    simp only [Int.zero_add]
  · have h0 : dist.getD n (-1) < 0 := Classical.byContradiction fun h => hmem (orderL_mem.2 ⟨n, rfl, by omega, by omega⟩)
    rw [nextL_none t ht down dist n d (.inr (by rw [Int.toNat_natCast, getD_01 (by omega)]; exact h0))]
    have := cntL_stay ht hI hm (rest := []) (orderL dist) hel n hmem
    rw [List.append_nil] at this
    rw [this]
    show (cnt0 t d most).getD n 0 = _
    rw [cnt0_get t d most n (by omega), if_neg (by omega)]
    simp
    omega
end
end Go.V
/- Layer 12: shares in whole parts of a common denominator. -/
set_option linter.unusedVariables false
set_option linter.unusedSimpArgs false
namespace Go.V
open Go.RowKit Go.Proofs

/-! Quotients over one denominator. -/
section
variable {D : Nat}
theorem q_add (hD : D ≠ 0) (a b : Int) : mkRat a D + mkRat b D = mkRat (a + b) D := by
  rw [Rat.mkRat_add_mkRat a b hD hD, ← Int.add_mul, Rat.mkRat_mul_right hD]
theorem q_sub (hD : D ≠ 0) (a b : Int) : mkRat a D - mkRat b D = mkRat (a - b) D := by
  rw [Rat.sub_eq_add_neg, Rat.neg_mkRat, q_add hD, Int.sub_eq_add_neg]
theorem q_div (hD : D ≠ 0) (m c : Nat) (hc : c ≠ 0) : mkRat ((c * m : Nat) : Int) D / ((c : Int) : Rat) = mkRat (m : Int) D := by
  have h1 : ((c : Int) : Rat) ≠ 0 := fun e => by
    have := congrArg Rat.num e
    rw [Rat.num_intCast] at this
    simp at this; exact hc this
  have h2 : mkRat (m : Int) D * ((c : Int) : Rat) = mkRat ((c * m : Nat) : Int) D := by
    rw [← Rat.mkRat_one (c : Int), Rat.mkRat_mul_mkRat, Nat.mul_one]
    congr 1
    rw [Int.natCast_mul, Int.mul_comm]
  rw [← h2, Rat.mul_div_cancel h1]
theorem q_den (hD : D ≠ 0) (a : Int) : (mkRat a D).den ≤ D := by
  rw [Rat.den_mkRat, if_neg hD]
  exact Nat.div_le_self ..
theorem q_num (hD : D ≠ 0) (a : Int) : (mkRat a D).num.natAbs ≤ a.natAbs := by
  rw [Rat.num_mkRat, if_neg hD]
  exact Int.natAbs_ediv_le_natAbs _ _
theorem q_sign (hD : D ≠ 0) {a : Int} (h : 0 ≤ a) : 0 ≤ (mkRat a D).num := by
  rw [Rat.num_mkRat, if_neg hD]
  exact Int.ediv_nonneg h (by omega)
theorem q_one (hD : D ≠ 0) : mkRat (D : Int) D = 1 := by
  have := Rat.mkRat_mul_right (n := 1) (d := 1) hD
  rw [Int.one_mul, Nat.one_mul] at this
  exact this.trans rfl
end

/-- The product of the numbers of next arcs. -/
def prodD (f : Int → Nat) : List Int → Nat
  | [] => 1
  | x :: l => max 1 (f x) * prodD f l
theorem prodD_pos (f : Int → Nat) : ∀ l, 0 < prodD f l
  | [] => Nat.one_pos
  | x :: l => Nat.mul_pos (by omega) (prodD_pos f l)
theorem cube3 : ∀ d : Nat, (max 1 d) * (max 1 d) * (max 1 d) ≤ 3 ^ d
  | 0 => by decide
  | 1 => by decide
  | 2 => by decide
  | 3 => by decide
  | d + 4 => by
    have ih := cube3 (d + 3)
    have e1 : max 1 (d + 4) = d + 4 := by omega
    have e2 : max 1 (d + 3) = d + 3 := by omega
    rw [e1]; rw [e2] at ih
    rw [Nat.pow_succ]
    have key : ∀ m : Nat, 3 ≤ m → (m + 1) * (m + 1) * (m + 1) ≤ m * m * m * 3 := fun m hm => by
      have h1 : 3 * m ≤ m * m := Nat.mul_le_mul_right m hm
      have h2 : 3 * (m * m) ≤ m * m * m := by rw [Nat.mul_assoc]; exact Nat.mul_le_mul_right (m * m) hm
      simp only [Nat.add_mul, Nat.mul_add, Nat.mul_one, Nat.one_mul]
      omega
    have h' : (d + 4) * (d + 4) * (d + 4) ≤ (d + 3) * (d + 3) * (d + 3) * 3 := key (d + 3) (by omega)
    omega
theorem prodD_cube (f : Int → Nat) : ∀ l : List Int, prodD f l * prodD f l * prodD f l ≤ 3 ^ (l.map f).sum
  | [] => by simp [prodD]
  | x :: l => by
    have ih := prodD_cube f l
    have h := cube3 (f x)
    simp only [prodD, List.map_cons, List.sum_cons]
    rw [Nat.pow_add]
    have : max 1 (f x) * prodD f l * (max 1 (f x) * prodD f l) * (max 1 (f x) * prodD f l) = (max 1 (f x) * max 1 (f x) * max 1 (f x)) * (prodD f l * prodD f l * prodD f l) := by
      generalize max 1 (f x) = a
      generalize prodD f l = b
      simp only [Nat.mul_assoc, Nat.mul_left_comm, Nat.mul_comm]
    rw [this]
    exact Nat.mul_le_mul h ih
theorem prodD_small (f : Int → Nat) (l : List Int) (h : (l.map f).sum ≤ 24) : prodD f l ≤ 6561 := by
  have h1 := prodD_cube f l
  have h2 : 3 ^ (l.map f).sum ≤ 3 ^ 24 := Nat.pow_le_pow_right (by decide) h
  refine Nat.le_of_not_lt fun hlt => ?_
  have h3 : 6562 * 6562 * 6562 ≤ prodD f l * prodD f l * prodD f l := Nat.mul_le_mul (Nat.mul_le_mul hlt hlt) hlt
  have h4 : (3 : Nat) ^ 24 < 6562 * 6562 * 6562 := by decide
  omega

section
variable {t : Topo} {down : List Bool} {d : Int} {dist : List Int}
/-- All arcs of the graph. -/
theorem deg_sum (ht : t.ok = true) (hI : SP.IsDist (t.gr down d false) dist) : ((orderL dist).map fun x => (nextL t down dist x d).length).sum ≤ t.ls.length := by
  have hlen : ∀ l : List Int, (l.map fun x => (nextL t down dist x d).length).sum = (l.flatMap fun x => nextL t down dist x d).length := by
    intro l
    induction l with
    | nil => rfl
    | cons x l ih => simp only [List.map_cons, List.sum_cons, List.flatMap_cons, List.length_append, ih]
  rw [hlen]
  have hnd : ((orderL dist).flatMap fun x => nextL t down dist x d).Pairwise (· ≠ ·) := by
    have key : ∀ l : List Int, l.Pairwise (· ≠ ·) → (l.flatMap fun x => nextL t down dist x d).Pairwise (· ≠ ·) := by
      intro l
      induction l with
      | nil => intro _; simp
      | cons x l ih =>
        intro h
        rw [List.flatMap_cons, List.pairwise_append]
        have hx := List.pairwise_cons.1 h
        refine ⟨?_, ih hx.2, fun a ha b hb e => ?_⟩
        · unfold nextL nextK
          refine List.Pairwise.filter _ ?_
          rw [List.pairwise_map]
          exact List.Pairwise.imp (fun {a b} h => by omega) (List.pairwise_lt_range (n := 2 * t.ls.length))
        · subst e
          obtain ⟨y, hy, hby⟩ := List.mem_flatMap.1 hb
          have h1 := ((mem_next ht).1 ha).2.1
          have h2 := ((mem_next ht).1 hby).2.1
          exact hx.1 y hy (by rw [← h1, ← h2])
    exact key _ (orderL_nodup dist)
  have hall : ∀ a ∈ (orderL dist).flatMap fun x => nextL t down dist x d, t.arc a ∧ ∃ x, a ∈ nextL t down dist x d := fun a ha => by
    obtain ⟨x, _, hx⟩ := List.mem_flatMap.1 ha
    exact ⟨((mem_next ht).1 hx).1, x, hx⟩
  generalize (orderL dist).flatMap (fun x => nextL t down dist x d) = Z at *
  refine Heap.pigeon t.ls.length Z.length (fun i => (Z.getD i 0 / 2).toNat) (fun i hi => ?_) (fun i j hi hj e => ?_)
  · have := (hall _ (List.getElem_mem hi)).1
    rw [show Z[i] = Z.getD i 0 by simp [List.getD, hi]] at this
    obtain ⟨h1, h2⟩ := this
    omega
  · have ei : Z[i] = Z.getD i 0 := by simp [List.getD, hi]
    have ej : Z[j] = Z.getD j 0 := by simp [List.getD, hj]
    obtain ⟨a1, x, hx⟩ := hall _ (List.getElem_mem hi)
    obtain ⟨b1, y, hy⟩ := hall _ (List.getElem_mem hj)
    obtain ⟨_, q2, _, _, _, _, _, q8, q9, q10⟩ := next_down ht hI hx
    obtain ⟨_, r2, _, _, _, _, _, r8, r9, r10⟩ := next_down ht hI hy
    have hab : Z[i] = Z[j] := by
      rw [ei] at a1 q2 q9 q8 q10; rw [ej] at b1 r2 r9 r8 r10
      rw [ei, ej]
      have hlk : t.link (Z.getD i 0) = t.link (Z.getD j 0) := by
        have e' : (Z.getD i 0 / 2).toNat = (Z.getD j 0 / 2).toNat := e
        unfold Topo.link
        rw [e']
      rw [← q2] at q9
      rw [← r2] at r9
      generalize Z.getD i 0 = u at *
      generalize Z.getD j 0 = v at *
      have := a1.1; have := b1.1
      by_cases hu : u % 2 = 0 <;> by_cases hv : v % 2 = 0
      · omega
      · exfalso
        simp only [Topo.tail, Topo.head, hu, hv, if_true, if_false, hlk] at q9 r9
        omega
      · exfalso
        simp only [Topo.tail, Topo.head, hu, hv, if_true, if_false, hlk] at q9 r9
        omega
      · omega
    rcases Nat.lt_trichotomy i j with hl | hl | hl
    · exact absurd hab (List.pairwise_iff_getElem.1 hnd i j hi hj hl)
    · exact hl
    · exact absurd hab.symm (List.pairwise_iff_getElem.1 hnd j i hj hi hl)
end

/-! Sums over the arcs. -/
def gs (f : Nat → Nat) : Nat → Nat
  | 0 => 0
  | k + 1 => gs f k + f k
theorem gs_upd (C : Nat → Prop) [DecidablePred C] (S : Nat → Nat) (a p : Nat) (h0 : S a = 0) : ∀ k, gs (fun b => if C b then (if b = a then p else S b) else 0) k = gs (fun b => if C b then S b else 0) k + (if a < k ∧ C a then p else 0)
  | 0 => by simp [gs]
  | k + 1 => by
    simp only [gs]
    rw [gs_upd C S a p h0 k]
    by_cases e : k = a
    · subst e
      by_cases hc : C k <;> simp [hc, h0]
    · by_cases hc : C k
      · simp only [hc, if_true, if_neg e]
        by_cases hl : a < k
        · have : a < k + 1 := by omega
          simp only [hl, this, true_and]; omega
        · have : ¬ a < k + 1 := by omega
          simp [hl, this]
      · simp only [hc, if_false]
        by_cases hl : a < k
        · have : a < k + 1 := by omega
          simp only [hl, this, true_and, Nat.add_zero]
        · have : ¬ a < k + 1 := by omega
          simp [hl, this]
theorem gs_zero {f : Nat → Nat} : ∀ {k : Nat}, (∀ b, b < k → f b = 0) → gs f k = 0
  | 0, _ => rfl
  | k + 1, h => by rw [gs, gs_zero fun b hb => h b (by omega), h k (by omega)]
end Go.V
/- Layer 12: the shares flow. -/
set_option linter.unusedVariables false
set_option linter.unusedSimpArgs false
namespace Go.V
open Go.RowKit Go.Proofs

theorem shStep_at (t : Topo) (c : Nat) (n : Int) (st : ShS) (a v : Int) : (shStep t c n st a).at v = if t.head a = v then st.at (t.head a) + st.at n / ((c : Int) : Rat) else st.at v := by
  unfold shStep ShS.at
  simp only [amFind_put]
  split <;> rfl
section
variable (t : Topo) (down : List Bool) (d : Int) (dist : List Int) (s : Int) (D : Nat)
def degN (x : Int) : Nat := (nextL t down dist x d).length
def inN (S : Nat → Nat) (v : Int) : Nat := gs (fun b => if t.head b = v then S b else 0) (2 * t.ls.length)
def outN (S : Nat → Nat) (v : Int) : Nat := gs (fun b => if t.tail b = v then S b else 0) (2 * t.ls.length)
/-- What holds while the nodes of l are not done yet; the common denominator is D. -/
structure ShI (l : List Int) (st : ShS) (A : Int → Nat) (S : Nat → Nat) : Prop where
  at_ : ∀ v, st.at v = mkRat (A v) D
  len : st.sh.length = 2 * t.ls.length
  sh : ∀ a, a < 2 * t.ls.length → ratO (st.sh.getD a none) = mkRat (S a) D
  dvd : ∀ v, prodD (degN t down d dist) l ∣ A v
  mass : d ∈ l → (l.map A).sum = D
  dest : d ∉ l → A d = D
  flow : ∀ v, A v = (if v = s then D else 0) + inN t S v
  out : ∀ v, v ∈ orderL dist → v ∉ l → v ≠ d → outN t S v = A v
  supp : ∀ a, S a ≠ 0 → (a : Int) ∈ nextL t down dist (t.tail a) d ∧ t.tail a ∈ orderL dist ∧ t.tail a ∉ l
  bnd : ∀ a, S a ≤ D
  zero : s = d → ∀ a, S a = 0
/-- What holds while a node x gives its amount to its next arcs, of which j are done. -/
structure ShJ (x : Int) (l : List Int) (j : Nat) (p : Nat) (st : ShS) (A : Int → Nat) (S : Nat → Nat) : Prop where
  at_ : ∀ v, st.at v = mkRat (A v) D
  len : st.sh.length = 2 * t.ls.length
  sh : ∀ a, a < 2 * t.ls.length → ratO (st.sh.getD a none) = mkRat (S a) D
  ax : A x = degN t down d dist x * p
  pd : prodD (degN t down d dist) l ∣ p
  dvd : ∀ v, prodD (degN t down d dist) l ∣ A v
  mass : d ∈ l → (l.map A).sum + (degN t down d dist x - j) * p = D
  flow : ∀ v, A v = (if v = s then D else 0) + inN t S v
  out : ∀ v, v ∈ orderL dist → v ∉ x :: l → v ≠ d → outN t S v = A v
  outx : outN t S x = j * p
  supp : ∀ a, S a ≠ 0 → (a : Int) ∈ nextL t down dist (t.tail a) d ∧ t.tail a ∈ orderL dist ∧ (t.tail a ∉ x :: l ∨ ∃ k, k < j ∧ k < (nextL t down dist x d).length ∧ (nextL t down dist x d).getD k 0 = (a : Int))
  bnd : ∀ a, S a ≤ D
  zero : s = d → ∀ a, S a = 0
end

theorem next_nodup (t : Topo) (down : List Bool) (dist : List Int) (n d : Int) : (nextL t down dist n d).Pairwise (· ≠ ·) := by
  unfold nextL nextK
  refine List.Pairwise.filter _ ?_
  rw [List.pairwise_map]
  exact List.Pairwise.imp (fun {a b} h => by omega) (List.pairwise_lt_range (n := 2 * t.ls.length))
theorem sum_upd (A : Int → Nat) (h : Int) (p : Nat) : ∀ l : List Int, l.Pairwise (· ≠ ·) → h ∈ l → (l.map fun v => if v = h then A v + p else A v).sum = (l.map A).sum + p
  | [], _, hm => by cases hm
  | x :: l, hn, hm => by
    obtain ⟨h1, h2⟩ := List.pairwise_cons.1 hn
    simp only [List.map_cons, List.sum_cons]
    by_cases e : x = h
    · subst e
      have : (l.map fun v => if v = x then A v + p else A v) = l.map A := List.map_congr_left fun v hv => if_neg fun e => h1 v hv e.symm
      rw [this, if_pos rfl]; omega
    · rw [if_neg e, sum_upd A h p l h2 ((List.mem_cons.1 hm).resolve_left fun e' => e e'.symm)]; omega
theorem sum_ge (A : Int → Nat) {v : Int} : ∀ l : List Int, v ∈ l → A v ≤ (l.map A).sum
  | [], h => by cases h
  | x :: l, h => by
    simp only [List.map_cons, List.sum_cons]
    rcases List.mem_cons.1 h with rfl | h
    · omega
    · have := sum_ge A l h; omega
theorem sum_two (A : Int → Nat) {u v : Int} : ∀ l : List Int, l.Pairwise (· ≠ ·) → u ∈ l → v ∈ l → u ≠ v → A u + A v ≤ (l.map A).sum
  | [], _, h, _, _ => by cases h
  | x :: l, hn, hu, hv, hne => by
    obtain ⟨h1, h2⟩ := List.pairwise_cons.1 hn
    simp only [List.map_cons, List.sum_cons]
    rcases List.mem_cons.1 hu with e | hu'
    · have := sum_ge A l ((List.mem_cons.1 hv).resolve_left (fun e' => hne (by rw [e, e']))); rw [e]; omega
    · rcases List.mem_cons.1 hv with e | hv'
      · have := sum_ge A l hu'; rw [e]; omega
      · have := sum_two A l h2 hu' hv' hne; omega

section
variable {t : Topo} {down : List Bool} {d : Int} {dist : List Int} {s : Int} {D : Nat}
theorem ShJ.step (ht : t.ok = true) (hI : SP.IsDist (t.gr down d false) dist) (hD : D ≠ 0) {x : Int} {l : List Int} {j p : Nat} {st : ShS} {A : Int → Nat} {S : Nat → Nat} (h : ShJ t down d dist s D x l j p st A S)
    (hxo : x ∈ orderL dist) (hnd : (x :: l).Pairwise (· ≠ ·)) (hlater : ∀ a, a ∈ nextL t down dist x d → t.head a ∈ l) (hdl : d ∈ l) (hj : j < (nextL t down dist x d).length) :
    ∃ A' S', ShJ t down d dist s D x l (j + 1) p (shStep t (nextL t down dist x d).length x st ((nextL t down dist x d).getD j 0)) A' S' := by
  have hm : (nextL t down dist x d).getD j 0 ∈ nextL t down dist x d := by simp [List.getD, hj]
  have hlnd := next_nodup t down dist x d
  have hc : degN t down d dist x = (nextL t down dist x d).length := rfl
  obtain ⟨q1, q2, q3, q4, q5, q6, q7, q8, q9, q10⟩ := next_down ht hI hm
  have hl := hlater _ hm
  obtain ⟨an, han⟩ : ∃ m : Nat, (nextL t down dist x d).getD j 0 = m := ⟨((nextL t down dist x d).getD j 0).toNat, by have := q1.1; omega⟩
  have hxl : x ∉ l := fun hx => (List.pairwise_cons.1 hnd).1 x hx rfl
  rw [han] at q1 q2 q6 q7 q8 q9 hl hm
  have hhx : t.head an ≠ x := fun e => by rw [e] at hl; exact hxl hl
  have hanL : an < 2 * t.ls.length := by have := q1.2; omega
  have hS0 : S an = 0 := Classical.byContradiction fun hne => by
    obtain ⟨_, _, h3⟩ := h.supp an hne
    rcases h3 with h3 | ⟨k, hk1, hk2, hk3⟩
    · exact h3 (by rw [q2]; simp)
    · rw [← han] at hk3
      have e1 : (nextL t down dist x d).getD k 0 = (nextL t down dist x d)[k] := by simp [List.getD, hk2]
      have e2 : (nextL t down dist x d).getD j 0 = (nextL t down dist x d)[j] := by simp [List.getD, hj]
      rw [e1, e2] at hk3
      exact List.pairwise_iff_getElem.1 hlnd k j hk2 hj hk1 hk3
  have hpart : st.at x / (((nextL t down dist x d).length : Int) : Rat) = mkRat (p : Int) D := by
    rw [h.at_ x, h.ax, hc]
    exact q_div hD p _ (by omega)
  have hsd : s ≠ d ∨ p = 0 := by
    by_cases e : s = d
    · right
      have h1 := h.flow d
      rw [if_pos e.symm] at h1
      have h2 := h.mass hdl
      have h3 := sum_ge A l hdl
      have h4 : (degN t down d dist x - j) * p = 0 := by omega
      rcases Nat.mul_eq_zero.1 h4 with h5 | h5
      · rw [hc] at h5; omega
      · exact h5
    · exact .inl e
  have hpD : p ≤ D := by
    have h2 := h.mass hdl
    have h3 : p ≤ (degN t down d dist x - j) * p := Nat.le_mul_of_pos_left _ (by rw [hc]; omega)
    omega
  refine ⟨fun v => if v = t.head an then A v + p else A v, fun b => if b = an then p else S b, ?_, ?_, ?_, ?_, h.pd, ?_, ?_, ?_, ?_, ?_, ?_, ?_, ?_⟩
  · intro v
    rw [han, shStep_at, hpart]
    by_cases e : t.head an = v
    · subst e
      rw [if_pos rfl, if_pos rfl, h.at_, q_add hD]
      rfl
    · rw [if_neg e, if_neg (Ne.symm e), h.at_]
  · simp [shStep, h.len]
  · intro b hb
    rw [han]
    simp only [shStep, Int.toNat_natCast]
    by_cases e : b = an
    · subst e
      have : (st.sh.set b (some (st.at x / (((nextL t down dist x d).length : Int) : Rat)))).getD b none = some (st.at x / (((nextL t down dist x d).length : Int) : Rat)) := by
        simp [List.getD, h.len, hb]
      rw [this, if_pos rfl]
      exact hpart
    · have : (st.sh.set an (some (st.at x / (((nextL t down dist x d).length : Int) : Rat)))).getD b none = st.sh.getD b none := by
        simp [List.getD, List.getElem?_set, Ne.symm e]
      rw [this, if_neg e]
      exact h.sh b hb
  · rw [if_neg (Ne.symm hhx)]; exact h.ax
  · intro v
    split
    · exact Nat.dvd_add (h.dvd v) h.pd
    · exact h.dvd v
  · intro _
    have h2 := h.mass hdl
    have h3 := sum_upd A (t.head an) p l (List.pairwise_cons.1 hnd).2 hl
    rw [h3]
    have h4 : degN t down d dist x - j = (degN t down d dist x - (j + 1)) + 1 := by rw [hc]; omega
    rw [h4, Nat.add_mul, Nat.one_mul] at h2
    omega
  · intro v
    unfold inN
    rw [gs_upd (fun b => t.head b = v) S an p hS0]
    have := h.flow v
    unfold inN at this
    by_cases e : v = t.head an
    · have e1 : (if an < 2 * t.ls.length ∧ t.head an = v then p else 0) = p := if_pos ⟨hanL, e.symm⟩
      have e2 : (if v = t.head an then A v + p else A v) = A v + p := if_pos e
      rw [e1, e2]; omega
    · have e1 : (if an < 2 * t.ls.length ∧ t.head an = v then p else 0) = 0 := if_neg fun hh => e hh.2.symm
      have e2 : (if v = t.head an then A v + p else A v) = A v := if_neg e
      rw [e1, e2]; omega
  · intro v hv hvl hvd
    unfold outN
    rw [gs_upd (fun b => t.tail b = v) S an p hS0]
    have hvx : v ≠ x := fun e => hvl (by rw [e]; simp)
    have hvh : v ≠ t.head an := fun e => hvl (by rw [e]; simp [hl])
    rw [if_neg (fun hh => hvx (by rw [← hh.2, q2])), if_neg hvh]
    exact h.out v hv hvl hvd
  · unfold outN
    rw [gs_upd (fun b => t.tail b = x) S an p hS0, if_pos ⟨hanL, q2⟩]
    have := h.outx
    unfold outN at this
    rw [this, Nat.add_mul, Nat.one_mul]
  · intro b hb
    by_cases e : b = an
    · subst e
      rw [q2]
      exact ⟨hm, hxo, .inr ⟨j, by omega, hj, han⟩⟩
    · rw [if_neg e] at hb
      obtain ⟨h1, h2, h3⟩ := h.supp b hb
      refine ⟨h1, h2, h3.imp id fun ⟨k, hk1, hk2, hk3⟩ => ⟨k, by omega, hk2, hk3⟩⟩
  · intro b
    split
    · exact hpD
    · exact h.bnd b
  · intro e b
    split
    · exact hsd.resolve_left fun hne => hne e
    · exact h.zero e b
theorem ShI.open_ {x : Int} {l : List Int} {st : ShS} {A : Int → Nat} {S : Nat → Nat} (ht : t.ok = true) (h : ShI t down d dist s D (x :: l) st A S) (hdl : d ∈ l) (hc : degN t down d dist x ≠ 0) : ∃ p, ShJ t down d dist s D x l 0 p st A S := by
  have hdx := h.dvd x
  have hE : prodD (degN t down d dist) (x :: l) = degN t down d dist x * prodD (degN t down d dist) l := by
    simp only [prodD]
    rw [show max 1 (degN t down d dist x) = degN t down d dist x by omega]
  rw [hE] at hdx
  obtain ⟨m, hm⟩ := hdx
  refine ⟨prodD (degN t down d dist) l * m, h.at_, h.len, h.sh, by rw [hm, Nat.mul_assoc], ⟨m, rfl⟩, fun v => ?_, fun _ => ?_, h.flow, h.out, ?_, fun a ha => ?_, h.bnd, h.zero⟩
  · have := h.dvd v
    rw [hE] at this
    exact Nat.dvd_trans ⟨_, Nat.mul_comm ..⟩ this
  · have := h.mass (by simp [hdl])
    simp only [List.map_cons, List.sum_cons] at this
    rw [Nat.sub_zero, ← Nat.mul_assoc, ← hm]
    omega
  · rw [Nat.zero_mul]
    refine gs_zero fun b _ => ?_
    by_cases e : t.tail b = x
    · rw [if_pos e]
      refine Classical.byContradiction fun hne => (h.supp b hne).2.2 ?_
      rw [e]; simp
    · rw [if_neg e]
  · obtain ⟨h1, h2, h3⟩ := h.supp a ha
    exact ⟨h1, h2, .inl h3⟩
theorem ShJ.close (ht : t.ok = true) {x : Int} {l : List Int} {p : Nat} {st : ShS} {A : Int → Nat} {S : Nat → Nat} (h : ShJ t down d dist s D x l (degN t down d dist x) p st A S) (hnd : (x :: l).Pairwise (· ≠ ·)) (hdl : d ∈ l) : ShI t down d dist s D l st A S := by
  have hxl : x ∉ l := fun hx => (List.pairwise_cons.1 hnd).1 x hx rfl
  refine ⟨h.at_, h.len, h.sh, h.dvd, fun _ => ?_, fun hn => absurd hdl hn, h.flow, fun v hv hvl hvd => ?_, fun a ha => ?_, h.bnd, h.zero⟩
  · have := h.mass hdl
    rw [Nat.sub_self, Nat.zero_mul, Nat.add_zero] at this
    exact this
  · by_cases e : v = x
    · subst e; rw [h.outx, h.ax]
    · exact h.out v hv (by simp [e, hvl]) hvd
  · obtain ⟨h1, h2, h3⟩ := h.supp a ha
    refine ⟨h1, h2, ?_⟩
    rcases h3 with h3 | ⟨k, _, hk2, hk3⟩
    · exact fun hh => h3 (by simp [hh])
    · have hm : (a : Int) ∈ nextL t down dist x d := by rw [← hk3]; simp [List.getD, hk2]
      rw [((mem_next ht).1 hm).2.1]
      exact hxl
end
end Go.V
/- Layer 12: the shares of all arcs. -/
set_option linter.unusedVariables false
set_option linter.unusedSimpArgs false
namespace Go.V
open Go.RowKit Go.Proofs

section
variable {t : Topo} {down : List Bool} {d : Int} {dist : List Int} {s : Int}
theorem dest_mem (ht : t.ok = true) (hI : SP.IsDist (t.gr down d false) dist) (hd0 : 0 ≤ d) (hd1 : d < t.n) : d ∈ orderL dist := by
  have hl := gr_n ht hI
  have hz : dist.getD d.toNat (-1) = 0 := hI.zero
  exact orderL_mem.2 ⟨d.toNat, by omega, by omega, by omega⟩
/-- The destination is the last one. -/
theorem dest_drop (ht : t.ok = true) (hI : SP.IsDist (t.gr down d false) dist) (hd0 : 0 ≤ d) (hd1 : d < t.n) {i : Nat} (hi : i < (orderL dist).length) : d ∈ (orderL dist).drop i := by
  have hl := gr_n ht hI
  have hln := hI.len
  have hz : dist.getD d.toNat (-1) = 0 := hI.zero
  obtain ⟨j, hj, hje⟩ := List.getElem_of_mem (dest_mem ht hI hd0 hd1)
  by_cases hji : i ≤ j
  · rw [List.mem_iff_getElem]
    refine ⟨j - i, by simp; omega, ?_⟩
    rw [List.getElem_drop]
    have : i + (j - i) = j := by omega
    simp only [this]
    exact hje
  · exfalso
    have hs := List.pairwise_iff_getElem.1 (orderL_sorted dist) j i hj hi (by omega)
    rw [hje] at hs
    obtain ⟨v, e1, e2, e3⟩ := orderL_mem.1 (List.getElem_mem hi)
    rw [e1] at hs
    simp only [SP.Rk, Int.toNat_natCast] at hs
    have hne : (v : Int) ≠ d := by omega
    obtain ⟨a, ha, hu, hx, hy, he⟩ := hI.just v (by rw [← hln]; omega) (by simp only [Topo.gr]; omega) e3
    have harc : t.arc a := ⟨by omega, by simp only [Topo.gr] at ha; omega⟩
    have := (t.cost_in ht harc).1
    have gc : (t.gr down d false).c a = t.cost a := rfl
    rw [gc] at he
    omega
theorem sum_single (s : Int) (D : Nat) : ∀ l : List Int, l.Pairwise (· ≠ ·) → s ∈ l → (l.map fun v => if v = s then D else 0).sum = D
  | [], _, h => by cases h
  | x :: l, hn, h => by
    obtain ⟨h1, h2⟩ := List.pairwise_cons.1 hn
    simp only [List.map_cons, List.sum_cons]
    by_cases e : x = s
    · subst e
      have : (l.map fun v => if v = x then D else 0) = l.map fun _ => 0 := List.map_congr_left fun v hv => if_neg fun e => h1 v hv e.symm
      have hz : ∀ l : List Int, (l.map fun _ => (0 : Nat)).sum = 0 := by
        intro l
        induction l with
        | nil => rfl
        | cons y l ih => simp only [List.map_cons, List.sum_cons, ih]
      rw [this, if_pos rfl, hz]
      rfl
    · rw [if_neg e, sum_single s D l h2 ((List.mem_cons.1 h).resolve_left fun e' => e e'.symm)]; omega
theorem run0 (ht : t.ok = true) (hI : SP.IsDist (t.gr down d false) dist) (hd0 : 0 ≤ d) (hd1 : d < t.n) (hs : s ∈ orderL dist) :
    ShI t down d dist s (prodD (degN t down d dist) (orderL dist)) (orderL dist) (sh0 t s) (fun v => if v = s then prodD (degN t down d dist) (orderL dist) else 0) (fun _ => 0) := by
  have hD : prodD (degN t down d dist) (orderL dist) ≠ 0 := Nat.ne_of_gt (prodD_pos _ _)
  generalize hDe : prodD (degN t down d dist) (orderL dist) = D at *
  refine ⟨fun v => ?_, by simp [sh0], fun a ha => ?_, fun v => ?_, fun _ => sum_single s D _ (orderL_nodup dist) hs, fun h => absurd (dest_mem ht hI hd0 hd1) h, fun v => ?_, fun v hv hv' => absurd hv hv', fun a ha => absurd rfl ha, fun _ => Nat.zero_le _, fun _ _ => rfl⟩
  · unfold ShS.at sh0
    simp only [amFind]
    by_cases e : s = v
    · subst e
      rw [if_pos rfl, if_pos rfl, q_one hD]; rfl
    · rw [if_neg e, if_neg (Ne.symm e)]
      exact (Rat.zero_mkRat D).symm
  · have : (sh0 t s).sh.getD a none = none := by
      simp only [sh0, List.getD_eq_getElem?_getD, List.getElem?_replicate]
      split <;> rfl
    rw [this]
    exact (Rat.zero_mkRat D).symm
  · rw [hDe]
    split
    · exact Nat.dvd_refl _
    · exact Nat.dvd_zero _
  · have : inN t (fun _ => 0) v = 0 := gs_zero fun b _ => by split <;> rfl
    rw [this, Nat.add_zero]
theorem runJ (ht : t.ok = true) (hI : SP.IsDist (t.gr down d false) dist) {D : Nat} (hD : D ≠ 0) {x : Int} {l : List Int} {p : Nat} {st : ShS} {A : Int → Nat} {S : Nat → Nat} (h : ShJ t down d dist s D x l 0 p st A S)
    (hxo : x ∈ orderL dist) (hnd : (x :: l).Pairwise (· ≠ ·)) (hlater : ∀ a, a ∈ nextL t down dist x d → t.head a ∈ l) (hdl : d ∈ l) : ∀ j, j ≤ (nextL t down dist x d).length →
      ∃ A' S', ShJ t down d dist s D x l j p (((nextL t down dist x d).take j).foldl (shStep t (nextL t down dist x d).length x) st) A' S'
  | 0, _ => ⟨A, S, h⟩
  | j + 1, hj => by
    obtain ⟨A', S', h'⟩ := runJ ht hI hD h hxo hnd hlater hdl j (by omega)
    rw [foldl_take _ _ j st 0 (by omega)]
    exact h'.step ht hI hD hxo hnd hlater hdl (by omega)
/-- One node. -/
theorem run_node (ht : t.ok = true) (hI : SP.IsDist (t.gr down d false) dist) (hd0 : 0 ≤ d) (hd1 : d < t.n) {D : Nat} (hD : D ≠ 0) {i : Nat} (hi : i < (orderL dist).length) {st : ShS} {A : Int → Nat} {S : Nat → Nat}
    (h : ShI t down d dist s D ((orderL dist).drop i) st A S) :
    ∃ x l, (orderL dist).getD i 0 = x ∧ (orderL dist).drop i = x :: l ∧ (orderL dist).drop (i + 1) = l ∧
      ((x = d ∧ nextL t down dist x d = [] ∧ ShI t down d dist s D l st A S) ∨
       (∃ p, ShJ t down d dist s D x l 0 p st A S ∧ x ∈ orderL dist ∧ (x :: l).Pairwise (· ≠ ·) ∧ (∀ a, a ∈ nextL t down dist x d → t.head a ∈ l) ∧ d ∈ l ∧ nextL t down dist x d ≠ [] ∧ A x ≤ D)) := by
  have hdrop := List.drop_eq_getElem_cons hi
  have hge : (orderL dist).getD i 0 = (orderL dist)[i] := by simp [List.getD, hi]
  have hdd := dest_drop ht hI hd0 hd1 hi
  have hlater := fun a => next_later ht hI (a := a) hi
  have hnd : ((orderL dist).drop i).Pairwise (· ≠ ·) := (orderL_nodup dist).sublist (List.drop_sublist ..)
  have hxo : (orderL dist)[i] ∈ orderL dist := List.getElem_mem hi
  obtain ⟨v, e1, e2, e3⟩ := orderL_mem.1 hxo
  have hdlast : ∀ hlt : i + 1 < (orderL dist).length, d ∈ (orderL dist).drop (i + 1) := fun hlt => dest_drop ht hI hd0 hd1 hlt
  rw [hge] at hlater
  refine ⟨(orderL dist)[i], (orderL dist).drop (i + 1), hge, hdrop, rfl, ?_⟩
  rw [hdrop] at h hnd hdd
  generalize (orderL dist)[i] = x at *
  by_cases hxd : x = d
  · left
    have hl : (orderL dist).drop (i + 1) = [] := by
      refine Classical.byContradiction fun hne => ?_
      have hlt : i + 1 < (orderL dist).length := by
        refine Nat.lt_of_not_le fun hle => hne (List.drop_eq_nil_of_le hle)
      exact (List.pairwise_cons.1 hnd).1 d (hdlast hlt) hxd
    have hnx : nextL t down dist x d = [] := nextL_none t ht down dist x d (.inl hxd)
    refine ⟨hxd, hnx, ?_⟩
    rw [hl] at h ⊢
    have hm := h.mass (by rw [hxd]; simp)
    refine ⟨h.at_, h.len, h.sh, fun v => by simp [prodD], fun hh => (by cases hh), fun _ => ?_, h.flow, fun v hv _ hvd => h.out v hv (by simpa [hxd] using hvd) hvd, fun a ha => ?_, h.bnd, h.zero⟩
    · simp at hm
      rw [← hxd]; exact hm
    · obtain ⟨h1, h2, _⟩ := h.supp a ha
      exact ⟨h1, h2, by simp⟩
  · right
    have hdl : d ∈ (orderL dist).drop (i + 1) := (List.mem_cons.1 hdd).resolve_left (Ne.symm hxd)
    have hne : nextL t down dist x d ≠ [] := by
      rw [e1]
      have hl := gr_n ht hI
      exact next_some ht hI (by omega) hd0 (by rw [← e1]; exact hxd) e3
    obtain ⟨p, hp⟩ := h.open_ ht hdl (by unfold degN; exact Nat.ne_of_gt (List.length_pos_iff.2 hne))
    have hm := h.mass hdd
    have hAx := sum_ge A (x :: (orderL dist).drop (i + 1)) (v := x) (by simp)
    exact ⟨p, hp, hxo, hnd, hlater, hdl, hne, by omega⟩
theorem run_all (ht : t.ok = true) (hI : SP.IsDist (t.gr down d false) dist) (hd0 : 0 ≤ d) (hd1 : d < t.n) (hs : s ∈ orderL dist) : ∀ i, i ≤ (orderL dist).length →
    ∃ A S, ShI t down d dist s (prodD (degN t down d dist) (orderL dist)) ((orderL dist).drop i) (shL t down dist s d ((orderL dist).take i)) A S
  | 0, _ => ⟨_, _, by simpa [shL] using run0 ht hI hd0 hd1 hs⟩
  | i + 1, hi => by
    obtain ⟨A, S, h⟩ := run_all ht hI hd0 hd1 hs i (by omega)
    have hD : prodD (degN t down d dist) (orderL dist) ≠ 0 := Nat.ne_of_gt (prodD_pos _ _)
    obtain ⟨x, l, e1, e2, e3, hor⟩ := run_node ht hI hd0 hd1 hD (by omega) h
    have hst : shL t down dist s d ((orderL dist).take (i + 1)) = shNode t down dist d (shL t down dist s d ((orderL dist).take i)) x := by
      unfold shL
      rw [foldl_take _ _ i _ 0 (by omega), e1]
    rw [hst, e3]
    unfold shNode
    rcases hor with ⟨_, hn, h'⟩ | ⟨p, hp, hxo, hnd, hlater, hdl, hne, _⟩
    · rw [hn]
      exact ⟨A, S, h'⟩
    · obtain ⟨A', S', h'⟩ := runJ ht hI hD hp hxo hnd hlater hdl _ (Nat.le_refl _)
      rw [List.take_length] at h'
      exact ⟨A', S', h'.close ht hnd hdl⟩

theorem rt_le {q : Rat} (h : q.num.natAbs ≤ 4294967295) : Rt.ok q := Nat.le_trans (limbs_small (Nat.lt_of_le_of_lt h (by decide))) (by decide)
/-- No number is too large in a small network. -/
theorem share_small (ht : t.ok = true) (hI : SP.IsDist (t.gr down d false) dist) (hd0 : 0 ≤ d) (hd1 : d < t.n) (hs : s ∈ orderL dist) (h24 : t.ls.length ≤ 24) :
    prodD (degN t down d dist) (orderL dist) ≤ 6561 ∧ ShOk t down dist s d (orderL dist) := by
  have hds := deg_sum ht hI
  have hD6 : prodD (degN t down d dist) (orderL dist) ≤ 6561 := prodD_small _ _ (Nat.le_trans hds h24)
  refine ⟨hD6, fun i k hi hk => ?_⟩
  obtain ⟨A, S, h⟩ := run_all ht hI hd0 hd1 hs i (by omega)
  have hD : prodD (degN t down d dist) (orderL dist) ≠ 0 := Nat.ne_of_gt (prodD_pos _ _)
  obtain ⟨x, l, e1, e2, e3, hor⟩ := run_node ht hI hd0 hd1 hD hi h
  rw [e1] at hk ⊢
  generalize prodD (degN t down d dist) (orderL dist) = D at *
  rcases hor with ⟨_, hn, _⟩ | ⟨p, hp, hxo, hnd, hlater, hdl, hne, hax⟩
  · rw [hn] at hk; simp at hk
  · obtain ⟨A', S', h'⟩ := runJ ht hI hD hp hxo hnd hlater hdl k (by omega)
    have hc2 := nextL_len ht down dist x d
    have hm : (nextL t down dist x d).getD k 0 ∈ nextL t down dist x d := by simp [List.getD, hk]
    have hh := hlater _ hm
    have hmass := h'.mass hdl
    have hAh := sum_ge A' l hh
    have hAx : A' x ≤ D := by rw [h'.ax, ← hp.ax]; exact hax
    have hpD : p ≤ D := by
      rw [h'.ax] at hAx
      exact Nat.le_trans (Nat.le_mul_of_pos_left _ (by unfold degN; omega)) hAx
    have hpart : (((nextL t down dist x d).take k).foldl (shStep t (nextL t down dist x d).length x) (shL t down dist s d ((orderL dist).take i))).at x / (((nextL t down dist x d).length : Int) : Rat) = mkRat (p : Int) D := by
      have hc0 : (nextL t down dist x d).length ≠ 0 := by omega
      rw [h'.at_ x, h'.ax]
      exact q_div hD p (nextL t down dist x d).length hc0
    unfold stepOk
    rw [hpart, h'.at_, h'.at_]
    have n1 := q_num hD (A' x : Int)
    have n2 := q_num hD (A' (t.head ((nextL t down dist x d).getD k 0)) : Int)
    have n3 := q_num hD (p : Int)
    have d1 := q_den hD (A' x : Int)
    have d2 := q_den hD (A' (t.head ((nextL t down dist x d).getD k 0)) : Int)
    have d3 := q_den hD (p : Int)
    rw [Int.natAbs_natCast] at n1 n2 n3
    refine ⟨rt_le (Nat.le_trans n1 (by omega)), ?_, rt_le (Nat.le_trans n2 (by omega)), rt_le (Nat.le_trans n3 (by omega)), ?_⟩
    · exact Nat.lt_of_le_of_lt (Nat.mul_le_mul (Nat.le_trans d1 hD6) hc2) (by decide)
    · exact Nat.lt_of_le_of_lt (Nat.mul_le_mul (Nat.le_trans d2 hD6) (Nat.le_trans d3 hD6)) (by decide)
/-- What leaves a node and what arrives. -/
theorem conserved (ht : t.ok = true) (hI : SP.IsDist (t.gr down d false) dist) (hd0 : 0 ≤ d) (hd1 : d < t.n) (hs : s ∈ orderL dist) {D : Nat} {st : ShS} {A : Int → Nat} {S : Nat → Nat} (h : ShI t down d dist s D [] st A S) (v : Int) :
    outN t S v + (if v = d then D else 0) = inN t S v + (if v = s then D else 0) := by
  have hf := h.flow v
  by_cases hvd : v = d
  · have hA := h.dest (by simp)
    have ho : outN t S v = 0 := gs_zero fun b _ => by
      by_cases e : t.tail b = v
      · rw [if_pos e]
        refine Classical.byContradiction fun hne => ?_
        obtain ⟨_, _, _, _, h5, _⟩ := next_down ht hI (h.supp b hne).1
        exact h5 (by rw [e, hvd])
      · rw [if_neg e]
    rw [if_pos hvd, ho]
    rw [← hvd] at hA
    omega
  · rw [if_neg hvd]
    by_cases hv : v ∈ orderL dist
    · have := h.out v hv (by simp) hvd
      omega
    · have hvs : v ≠ s := fun e => hv (by rw [e]; exact hs)
      have ho : outN t S v = 0 := gs_zero fun b _ => by
        by_cases e : t.tail b = v
        · rw [if_pos e]
          refine Classical.byContradiction fun hne => hv ?_
          rw [← e]; exact (h.supp b hne).2.1
        · rw [if_neg e]
      have hi : inN t S v = 0 := gs_zero fun b _ => by
        by_cases e : t.head b = v
        · rw [if_pos e]
          refine Classical.byContradiction fun hne => hv ?_
          obtain ⟨_, _, _, _, _, h6, h7, h8, _⟩ := next_down ht hI (h.supp b hne).1
          have hl := gr_n ht hI
          rw [← e]
          exact orderL_mem.2 ⟨(t.head b).toNat, by omega, by omega, h8⟩
        · rw [if_neg e]
      rw [ho, hi, if_neg hvs]
end
end Go.V
