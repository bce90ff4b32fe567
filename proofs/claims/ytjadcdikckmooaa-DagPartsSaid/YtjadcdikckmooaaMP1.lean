import Derived.Test.YtjadcdikckmooaaMG
import Derived.Test.YtjadcdikckmooaaML
/- A part of a proof, with no condition of its own. Merged texts: L1 LP. -/
/- Layer 12: the graph of the shortest paths, in plain Lean. -/
set_option linter.unusedVariables false
set_option linter.unusedSimpArgs false
namespace Go.V
open Go.RowKit Go.Proofs

theorem mem_next {t : Topo} (ht : t.ok = true) {down : List Bool} {dist : List Int} {n d a : Int} : a ∈ nextL t down dist n d ↔ t.arc a ∧ t.tail a = n ∧ onB t down dist a d = true := by
  rw [nextL_eq t ht, List.mem_filter, arcsL_iff ht (fwd := true)]
  exact ⟨fun h => ⟨h.1.1, h.1.2, h.2⟩, fun h => ⟨⟨h.1, h.2.1⟩, h.2.2⟩⟩
theorem on_iff {t : Topo} {down : List Bool} {dist : List Int} {a d : Int} : onB t down dist a d = true ↔
    upB down a = true ∧ t.tail a ≠ d ∧ 0 ≤ dist.getD (t.head a).toNat 0 ∧ (t.head a = d ∨ t.over (t.head a) = false) ∧ dist.getD (t.tail a).toNat 0 = dist.getD (t.head a).toNat 0 + t.cost a := by
  unfold onB
  simp only [Bool.and_eq_true, Bool.or_eq_true, Bool.not_eq_true', decide_eq_true_eq, decide_eq_false_iff_not, and_assoc]

section
variable {t : Topo} {down : List Bool} {d : Int} {dist : List Int}
theorem gr_n (ht : t.ok = true) (hI : SP.IsDist (t.gr down d false) dist) : (dist.length : Int) = t.n := by
  have h1 := hI.len
  have h2 := Topo.frame_n (Topo.ok_frame ht)
  simp only [Topo.gr] at h1
  omega
/-- An arc of the graph leads nearer. -/
theorem next_down (ht : t.ok = true) (hI : SP.IsDist (t.gr down d false) dist) {n a : Int} (h : a ∈ nextL t down dist n d) :
    t.arc a ∧ t.tail a = n ∧ 0 ≤ n ∧ n < t.n ∧ n ≠ d ∧ 0 ≤ t.head a ∧ t.head a < t.n ∧ 0 ≤ dist.getD (t.head a).toNat (-1) ∧ dist.getD n.toNat (-1) = dist.getD (t.head a).toNat (-1) + t.cost a ∧ 1 ≤ t.cost a := by
  obtain ⟨h1, h2, h3⟩ := (mem_next ht).1 h
  obtain ⟨_, q1, q2, _, q3⟩ := on_iff.1 h3
  have hl := gr_n ht hI
  have b1 := t.tail_in ht h1
  have b2 := t.head_in ht h1
  have b3 := t.cost_in ht h1
  rw [h2] at b1 q1 q3
  rw [getD_01 (by omega)] at q2 q3
  rw [getD_01 (by omega)] at q3
  exact ⟨h1, h2, b1.1, b1.2, q1, b2.1, b2.2, q2, q3, b3.1⟩
/-- A node that can reach the destination has a next arc. -/
theorem next_some (ht : t.ok = true) (hI : SP.IsDist (t.gr down d false) dist) {n : Nat} (hn : (n : Int) < t.n) (hd0 : 0 ≤ d) (hd : (n : Int) ≠ d) (h0 : 0 ≤ dist.getD n (-1)) : nextL t down dist n d ≠ [] := by
  have hl := gr_n ht hI
  have hln := hI.len
  obtain ⟨a, ha, hu, hx, hy, he⟩ := hI.just n (by rw [← hln]; omega) (by simp only [Topo.gr]; omega) h0
  simp only [Topo.gr, Topo.X, Topo.Y, Bool.false_eq_true, if_false] at ha hu hx hy he
  have harc : t.arc a := ⟨by omega, by omega⟩
  have b1 := t.tail_in ht harc
  have b2 := t.head_in ht harc
  have ht1 : t.tail a = n := by omega
  simp only [useB, Topo.Y, Bool.false_eq_true, if_false, Bool.and_eq_true, Bool.or_eq_true, decide_eq_true_eq, Bool.not_eq_true'] at hu
  have : (a : Int) ∈ nextL t down dist n d := (mem_next ht).2 ⟨harc, ht1, on_iff.2 ⟨hu.1, by rw [ht1]; exact hd, by rw [getD_01 (by omega)]; exact hy, hu.2, by
    rw [ht1, getD_01 (by omega), getD_01 (by omega), Int.toNat_natCast]; exact he⟩⟩
  intro e
  rw [e] at this
  cases this
theorem next_nil_iff (ht : t.ok = true) (hI : SP.IsDist (t.gr down d false) dist) {n : Nat} (hn : (n : Int) < t.n) (hd0 : 0 ≤ d) (h0 : 0 ≤ dist.getD n (-1)) : nextL t down dist n d = [] ↔ (n : Int) = d := by
  refine ⟨fun h => Classical.byContradiction fun hne => next_some ht hI hn hd0 hne h0 h, fun h => nextL_none t ht down dist n d (.inl h)⟩
/-- Next arcs lead to later nodes. -/
theorem next_later (ht : t.ok = true) (hI : SP.IsDist (t.gr down d false) dist) {i : Nat} (hi : i < (orderL dist).length) {a : Int} (h : a ∈ nextL t down dist ((orderL dist).getD i 0) d) : t.head a ∈ (orderL dist).drop (i + 1) := by
  obtain ⟨h1, h2, h3, h4, h5, h6, h7, h8, h9, h10⟩ := next_down ht hI h
  have hl := gr_n ht hI
  have hm : t.head a ∈ orderL dist := orderL_mem.2 ⟨(t.head a).toNat, by omega, by omega, h8⟩
  obtain ⟨j, hj, hje⟩ := List.getElem_of_mem hm
  have hge : (orderL dist).getD i 0 = (orderL dist)[i] := by simp [List.getD, hi]
  rw [hge] at h9
  have hs := orderL_sorted dist
  rcases Nat.lt_trichotomy j i with hlt | heq | hgt
  · have := List.pairwise_iff_getElem.1 hs j i hj hi hlt
    rw [hje] at this
    simp only [SP.Rk] at this
    omega
  · subst heq
    rw [hje] at h9
    omega
  · rw [List.mem_iff_getElem]
    refine ⟨j - (i + 1), by simp; omega, ?_⟩
    rw [List.getElem_drop]
    have : i + 1 + (j - (i + 1)) = j := by omega
    simp only [this]
    exact hje
end

/-! The numbers of shortest paths. -/
def addM (most s x : Int) : Int := s + (if most - s < x then most - s else x)
theorem addM_fold (most : Int) : ∀ (l : List Int) (s : Int), s ≤ most → (∀ x ∈ l, 0 ≤ x) → l.foldl (addM most) s = if most < s + l.sum then most else s + l.sum
  | [], s, hs, _ => by simp; omega
  | x :: l, s, hs, h => by
    have h0 := h x (by simp)
    have hsum : 0 ≤ l.sum := by
      have : ∀ l : List Int, (∀ x ∈ l, 0 ≤ x) → 0 ≤ l.sum := by
        intro l
        induction l with
        | nil => simp
        | cons y l ih => intro h; have := h y (by simp); have := ih fun z hz => h z (by simp [hz]); simp; omega
      exact this l fun y hy => h y (by simp [hy])
    rw [List.foldl_cons, addM_fold most l _ (by unfold addM; split <;> omega) (fun y hy => h y (by simp [hy]))]
    simp only [List.sum_cons, addM]
    split <;> (try split) <;> (try split) <;> omega
theorem cntS_fold (t : Topo) (most : Int) (xn : Nat) : ∀ (l : List Int) (c : List Int), xn < c.length → (∀ a ∈ l, (t.head a).toNat ≠ xn) → ∀ j,
    (l.foldl (cntS t most xn) c).getD j 0 = if j = xn then (l.map fun a => c.getD (t.head a).toNat 0).foldl (addM most) (c.getD xn 0) else c.getD j 0
  | [], c, _, _, j => by
    by_cases h : j = xn
    · subst h; simp
    · simp [h]
  | a :: l, c, hx, h, j => by
    have ha := h a (by simp)
    have hlen : xn < (cntS t most xn c a).length := by simp [cntS, hx]
    have hget : ∀ k, (cntS t most xn c a).getD k 0 = if k = xn then addM most (c.getD xn 0) (c.getD (t.head a).toNat 0) else c.getD k 0 := fun k => by
      unfold cntS addM
      rw [getD_set0]
      simp only [Int.toNat_natCast]
      by_cases hk : k = xn
      · subst hk; simp [hx]
      · rw [if_neg (by omega), if_neg hk]
    rw [List.foldl_cons, cntS_fold t most xn l _ hlen (fun b hb => h b (by simp [hb])) j]
    by_cases hj : j = xn
    · rw [if_pos hj, if_pos hj, List.map_cons, List.foldl_cons, hget xn, if_pos rfl]
      congr 1
      refine List.map_congr_left fun b hb => ?_
      rw [hget, if_neg (h b (by simp [hb]))]
    · rw [if_neg hj, if_neg hj, hget j, if_neg hj]

section
variable {t : Topo} {down : List Bool} {d : Int} {dist : List Int} {most : Int}
theorem cntX_get (ht : t.ok = true) (hI : SP.IsDist (t.gr down d false) dist) {xn : Nat} {c : List Int} (hx : xn < c.length) (j : Nat) :
    (cntX t down dist d most xn c).getD j 0 = if j = xn then ((nextL t down dist xn d).map fun a => c.getD (t.head a).toNat 0).foldl (addM most) (c.getD xn 0) else c.getD j 0 := by
  unfold cntX
  refine cntS_fold t most xn _ c hx (fun a ha => ?_) j
  obtain ⟨h1, h2, h3, h4, h5, h6, h7, h8, h9, h10⟩ := next_down ht hI ha
  intro e
  rw [e, Int.toNat_natCast] at h9
  omega
theorem cntL_len (t : Topo) (down : List Bool) (dist : List Int) (d most : Int) (hm : 0 ≤ most) (l : List Int) : (cntL t down dist d most l).length = t.n.toNat := (CntOk.all hm l).len
theorem cntL_stay (ht : t.ok = true) (hI : SP.IsDist (t.gr down d false) dist) (hm : 0 ≤ most) : ∀ (pre rest : List Int), (∀ x ∈ pre, ∃ i : Nat, x = i ∧ i < dist.length) → ∀ j : Nat, (j : Int) ∉ pre →
    (cntL t down dist d most (pre ++ rest)).getD j 0 = (cntL t down dist d most rest).getD j 0
  | [], rest, _, j, _ => rfl
  | x :: pre, rest, h, j, hj => by
    obtain ⟨i, rfl, hi⟩ := h x (by simp)
    have hl := gr_n ht hI
    have hne : j ≠ i := fun e => hj (by rw [e]; simp)
    rw [List.cons_append]
    simp only [cntL]
    rw [cntX_get ht hI (by rw [cntL_len t down dist d most hm]; omega), if_neg hne]
    exact cntL_stay ht hI hm pre rest (fun y hy => h y (by simp [hy])) j (fun hy => hj (by simp [hy]))
theorem orderL_nodup (dist : List Int) : (orderL dist).Pairwise (· ≠ ·) := (orderL_sorted dist).imp fun {a b} h e => by
  subst e; exact SP.Rk.irrefl h
theorem cnt0_get (t : Topo) (d most : Int) (j : Nat) (hd : d.toNat < t.n.toNat) : (cnt0 t d most).getD j 0 = if j = d.toNat then (if most < 1 then most else 1) else 0 := by
  unfold cnt0
  rw [getD_set0]
  by_cases h : d.toNat = j
  · subst h; simp [hd]
  · rw [if_neg (by omega), if_neg (by omega)]
    simp only [List.getD_eq_getElem?_getD, List.getElem?_replicate]
    split <;> rfl
/-- The number of shortest paths from a node is the sum of those from the ends of its next arcs. -/
theorem cnt_sum (ht : t.ok = true) (hI : SP.IsDist (t.gr down d false) dist) (hm : 0 ≤ most) (hd0 : 0 ≤ d) (hd1 : d < t.n) (n : Nat) (hn : (n : Int) < t.n) (hne : (n : Int) ≠ d) :
    (cntL t down dist d most (orderL dist)).getD n 0 =
      if most < ((nextL t down dist n d).map fun a => (cntL t down dist d most (orderL dist)).getD (t.head a).toNat 0).sum then most
      else ((nextL t down dist n d).map fun a => (cntL t down dist d most (orderL dist)).getD (t.head a).toNat 0).sum := by
  have hl := gr_n ht hI
  have hel : ∀ x ∈ orderL dist, ∃ i : Nat, x = i ∧ i < dist.length := fun x hx => by
    obtain ⟨i, e1, e2, _⟩ := orderL_mem.1 hx
    exact ⟨i, e1, e2⟩
  by_cases hmem : (n : Int) ∈ orderL dist
  · obtain ⟨i, hi, hie⟩ := List.getElem_of_mem hmem
    have hgi : (orderL dist).getD i 0 = n := by rw [← hie]; simp [List.getD, hi]
    have hlater := fun a => next_later ht hI (a := a) hi
    rw [hgi] at hlater
    have hnd := orderL_nodup dist
    have hstay := cntL_stay ht hI hm (rest := (orderL dist).drop (i + 1)) ((orderL dist).take (i + 1)) (fun x hx => hel x (List.mem_of_mem_take hx))
    rw [List.take_append_drop] at hstay
    have hsplit : orderL dist = (orderL dist).take i ++ (n : Int) :: (orderL dist).drop (i + 1) := by
      rw [← hie, ← List.drop_eq_getElem_cons hi, List.take_append_drop]
    have hapart : ∀ x, x ∈ (orderL dist).drop (i + 1) → x ∉ (orderL dist).take (i + 1) := fun x hx hy => by
      have h3 := hnd
      rw [← List.take_append_drop (i + 1) (orderL dist)] at h3
      exact (List.pairwise_append.1 h3).2.2 x hy x hx rfl
    have hn1 : (n : Int) ∉ (orderL dist).take i ∧ (n : Int) ∉ (orderL dist).drop (i + 1) := by
      have h3 := hnd
      rw [hsplit] at h3
      obtain ⟨_, h4, h5⟩ := List.pairwise_append.1 h3
      exact ⟨fun hy => h5 _ hy _ (by simp) rfl, fun hy => (List.pairwise_cons.1 h4).1 _ hy rfl⟩
    have e1 : (cntL t down dist d most (orderL dist)).getD n 0 = (cntL t down dist d most ((n : Int) :: (orderL dist).drop (i + 1))).getD n 0 := by
      conv => lhs; rw [hsplit]
      exact cntL_stay ht hI hm _ _ (fun x hx => hel x (List.mem_of_mem_take hx)) n hn1.1
    have e2 : (cntL t down dist d most ((orderL dist).drop (i + 1))).getD n 0 = 0 := by
      have := cntL_stay ht hI hm (rest := []) ((orderL dist).drop (i + 1)) (fun x hx => hel x (List.mem_of_mem_drop hx)) n hn1.2
      rw [List.append_nil] at this
      rw [this]
      show (cnt0 t d most).getD n 0 = 0
      rw [cnt0_get t d most n (by omega), if_neg (by omega)]
    have e3 : ((nextL t down dist n d).map fun a => (cntL t down dist d most ((orderL dist).drop (i + 1))).getD (t.head a).toNat 0) =
        (nextL t down dist n d).map fun a => (cntL t down dist d most (orderL dist)).getD (t.head a).toNat 0 := by
      refine List.map_congr_left fun a ha => ?_
      have hh := hapart _ (hlater a ha)
      obtain ⟨h1, h2, h3, h4, h5, h6, h7, h8, h9, h10⟩ := next_down ht hI ha
      have eh : (((t.head a).toNat : Nat) : Int) = t.head a := by omega
      exact (hstay (t.head a).toNat (by rw [eh]; exact hh)).symm
    rw [e1]
    simp only [cntL]
    rw [cntX_get ht hI (by rw [cntL_len t down dist d most hm]; omega), if_pos rfl, e2, e3]
    have := addM_fold most ((nextL t down dist n d).map fun a => (cntL t down dist d most (orderL dist)).getD (t.head a).toNat 0) 0 hm (fun x hx => by
      obtain ⟨a, _, rfl⟩ := List.mem_map.1 hx
      exact (CntOk.all hm _).lo _)
    rw [this]
    simp only [Int.zero_add]
  · have h0 : dist.getD n (-1) < 0 := Classical.byContradiction fun h => hmem (orderL_mem.2 ⟨n, rfl, by omega, by omega⟩)
    rw [nextL_none t ht down dist n d (.inr (by rw [Int.toNat_natCast, getD_01 (by omega)]; exact h0))]
    have := cntL_stay ht hI hm (rest := []) (orderL dist) hel n hmem
    rw [List.append_nil] at this
    rw [this]
    show (cnt0 t d most).getD n 0 = _
    rw [cnt0_get t d most n (by omega), if_neg (by omega)]
    simp
    omega
end
end Go.V
/- Layer 12: plain lemmas on counts, ends of paths and ranks. -/
set_option linter.unusedVariables false
set_option linter.unusedSimpArgs false
namespace Go.V
open Go.RowKit Go.Proofs

theorem cntE_nx {t : Topo} {down : List Bool} {n d most : Int} (hm : 0 ≤ most) : cntE t down n d most = nxE t down n d := by
  unfold cntE nxE
  simp only [if_pos hm]
theorem nxE_ok {t : Topo} {down : List Bool} {n d : Int} (h : nxE t down n d = 0) : distE t down d = 0 ∧ 0 ≤ n ∧ n < t.n := by
  unfold nxE at h
  split at h
  · rename_i h1
    split at h
    · rename_i h2; exact ⟨h1, h2⟩
    · omega
  · rename_i h1; exact absurd h h1
theorem cnt_dest {t : Topo} {down : List Bool} {d most : Int} {dist : List Int} (ht : t.ok = true) (hI : SP.IsDist (t.gr down d false) dist) (hm : 0 ≤ most) (hd0 : 0 ≤ d) (hd1 : d < t.n) : ∀ l : List Int, (∀ x ∈ l, ∃ i : Nat, x = i ∧ i < dist.length) →
    (cntL t down dist d most l).getD d.toNat 0 = (if most < 1 then most else 1)
  | [], _ => by
    show (cnt0 t d most).getD d.toNat 0 = _
    rw [cnt0_get t d most _ (by omega), if_pos rfl]
  | x :: l, h => by
    obtain ⟨i, rfl, hi⟩ := h x (by simp)
    have hl := gr_n ht hI
    have ih := cnt_dest ht hI hm hd0 hd1 l fun y hy => h y (by simp [hy])
    simp only [cntL]
    rw [cntX_get ht hI (by rw [cntL_len t down dist d most hm]; omega)]
    by_cases e : d.toNat = i
    · rw [if_pos e, nextL_none t ht down dist i d (.inl (by omega)), List.map_nil, List.foldl_nil, ← e]
      exact ih
    · rw [if_neg e]; exact ih
theorem ord_el {dist : List Int} : ∀ x ∈ orderL dist, ∃ i : Nat, x = i ∧ i < dist.length := fun x hx => by
  obtain ⟨i, e1, e2, _⟩ := orderL_mem.1 hx
  exact ⟨i, e1, e2⟩
theorem sum_bound {most : Int} : ∀ l : List Int, (∀ x ∈ l, 0 ≤ x ∧ x ≤ most) → 0 ≤ l.sum ∧ l.sum ≤ l.length * most
  | [], _ => by simp
  | x :: l, h => by
    have ih := sum_bound l fun y hy => h y (by simp [hy])
    have hx := h x (by simp)
    simp only [List.sum_cons, List.length_cons, Int.natCast_add, Int.add_mul, Int.natCast_one, Int.one_mul]
    omega
def pEnd (t : Topo) (s : Int) (p : List Int) : Int := p.foldl (fun _ a => t.head a) s
/-- How many nodes are nearer. -/
def rankN (dist : List Int) (x : Int) : Nat := ((reachK dist dist.length).filter fun w => decide (dist.getD w.toNat (-1) < dist.getD x.toNat (-1))).length
theorem rankN_lt {dist : List Int} {x y : Int} (hy0 : 0 ≤ y) (hy : y < dist.length) (h0 : 0 ≤ dist.getD y.toNat (-1)) (h : dist.getD y.toNat (-1) < dist.getD x.toNat (-1)) : rankN dist y < rankN dist x :=
  filter_lt (x := y) (fun w hw => by simp only [decide_eq_true_eq] at hw ⊢; omega) (reachK_mem.2 ⟨y.toNat, by omega, by omega, h0⟩) (by simpa using h) (by simp)
theorem rankN_all {dist : List Int} {x : Int} (hx0 : 0 ≤ x) (hx : x < dist.length) (h0 : 0 ≤ dist.getD x.toNat (-1)) : rankN dist x < dist.length := by
  have h1 := filter_lt (l := reachK dist dist.length) (p := fun _ => true) (q := fun w => decide (dist.getD w.toNat (-1) < dist.getD x.toNat (-1))) (x := x) (fun _ _ => rfl) (reachK_mem.2 ⟨x.toNat, by omega, by omega, h0⟩) rfl (by simp)
  have h2 := List.length_filter_le (fun _ => true) (reachK dist dist.length)
  have h3 := reachK_length dist dist.length
  unfold rankN
  omega

end Go.V
