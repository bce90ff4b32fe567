import Derived.Test.YtjadcdikckmooaaMG
import Derived.Test.YtjadcdikckmooaaML
/- A part of a proof, with no condition of its own. Merged texts: L1 L2. -/
/- Layer 12: the graph of the shortest paths, in plain Lean. -/
set_option linter.unusedVariables false
set_option linter.unusedSimpArgs false
namespace Go.V
open Go.RowKit Go.Proofs

theorem mem_next {t : Topo} (ht : t.ok = true) {down : List Bool} {dist : List Int} {n d a : Int} : a ∈ nextL t down dist n d ↔ t.arc a ∧ t.tail a = n ∧ onB t down dist a d = true := by
  rw [nextL_eq t ht, List.mem_filter, arcsL_iff ht (fwd := true)]
  exact ⟨fun h => ⟨h.1.1, h.1.2, h.2⟩, fun h => ⟨⟨h.1, h.2.1⟩, h.2.2⟩⟩
theorem on_iff {t : Topo} {down : List Bool} {dist : List Int} {a d : Int} : onB t down dist a d = true ↔
    upB down a = true ∧ t.tail a ≠ d ∧ 0 ≤ dist.getD (t.head a).toNat 0 ∧ (t.head a = d ∨ t.over (t.head a) = false) ∧ dist.getD (t.tail a).toNat 0 = dist.getD (t.head a).toNat 0 + t.cost a := by
  unfold onB
  simp only [Bool.and_eq_true, Bool.or_eq_true, Bool.not_eq_true', decide_eq_true_eq, decide_eq_false_iff_not, and_assoc]

section
variable {t : Topo} {down : List Bool} {d : Int} {dist : List Int}
theorem gr_n (ht : t.ok = true) (hI : SP.IsDist (t.gr down d false) dist) : (dist.length : Int) = t.n := by
  have h1 := hI.len
  have h2 := Topo.frame_n (Topo.ok_frame ht)
  simp only [Topo.gr] at h1
  omega
/-- An arc of the graph leads nearer. -/
theorem next_down (ht : t.ok = true) (hI : SP.IsDist (t.gr down d false) dist) {n a : Int} (h : a ∈ nextL t down dist n d) :
    t.arc a ∧ t.tail a = n ∧ 0 ≤ n ∧ n < t.n ∧ n ≠ d ∧ 0 ≤ t.head a ∧ t.head a < t.n ∧ 0 ≤ dist.getD (t.head a).toNat (-1) ∧ dist.getD n.toNat (-1) = dist.getD (t.head a).toNat (-1) + t.cost a ∧ 1 ≤ t.cost a := by
  obtain ⟨h1, h2, h3⟩ := (mem_next ht).1 h
  obtain ⟨_, q1, q2, _, q3⟩ := on_iff.1 h3
  have hl := gr_n ht hI
  have b1 := t.tail_in ht h1
  have b2 := t.head_in ht h1
  have b3 := t.cost_in ht h1
  rw [h2] at b1 q1 q3
  rw [getD_01 (by omega)] at q2 q3
  rw [getD_01 (by omega)] at q3
  exact ⟨h1, h2, b1.1, b1.2, q1, b2.1, b2.2, q2, q3, b3.1⟩
/-- A node that can reach the destination has a next arc. -/
theorem next_some (ht : t.ok = true) (hI : SP.IsDist (t.gr down d false) dist) {n : Nat} (hn : (n : Int) < t.n) (hd0 : 0 ≤ d) (hd : (n : Int) ≠ d) (h0 : 0 ≤ dist.getD n (-1)) : nextL t down dist n d ≠ [] := by
  have hl := gr_n ht hI
  have hln := hI.len
  obtain ⟨a, ha, hu, hx, hy, he⟩ := hI.just n (by rw [← hln]; omega) (by simp only [Topo.gr]; omega) h0
  simp only [Topo.gr, Topo.X, Topo.Y, Bool.false_eq_true, if_false] at ha hu hx hy he
  have harc : t.arc a := ⟨by omega, by omega⟩
  have b1 := t.tail_in ht harc
  have b2 := t.head_in ht harc
  have ht1 : t.tail a = n := by omega
  simp only [useB, Topo.Y, Bool.false_eq_true, if_false, Bool.and_eq_true, Bool.or_eq_true, decide_eq_true_eq, Bool.not_eq_true'] at hu
  have : (a : Int) ∈ nextL t down dist n d := (mem_next ht).2 ⟨harc, ht1, on_iff.2 ⟨hu.1, by rw [ht1]; exact hd, by rw [getD_01 (by omega)]; exact hy, hu.2, by
    rw [ht1, getD_01 (by omega), getD_01 (by omega), Int.toNat_natCast]; exact he⟩⟩
  intro e
  rw [e] at this
  cases this
theorem next_nil_iff (ht : t.ok = true) (hI : SP.IsDist (t.gr down d false) dist) {n : Nat} (hn : (n : Int) < t.n) (hd0 : 0 ≤ d) (h0 : 0 ≤ dist.getD n (-1)) : nextL t down dist n d = [] ↔ (n : Int) = d := by
  refine ⟨fun h => Classical.byContradiction fun hne => next_some ht hI hn hd0 hne h0 h, fun h => nextL_none t ht down dist n d (.inl h)⟩
/-- Next arcs lead to later nodes. -/
theorem next_later (ht : t.ok = true) (hI : SP.IsDist (t.gr down d false) dist) {i : Nat} (hi : i < (orderL dist).length) {a : Int} (h : a ∈ nextL t down dist ((orderL dist).getD i 0) d) : t.head a ∈ (orderL dist).drop (i + 1) := by
  obtain ⟨h1, h2, h3, h4, h5, h6, h7, h8, h9, h10⟩ := next_down ht hI h
  have hl := gr_n ht hI
  have hm : t.head a ∈ orderL dist := orderL_mem.2 ⟨(t.head a).toNat, by omega, by omega, h8⟩
  obtain ⟨j, hj, hje⟩ := List.getElem_of_mem hm
  have hge : (orderL dist).getD i 0 = (orderL dist)[i] := by simp [List.getD, hi]
  rw [hge] at h9
  have hs := orderL_sorted dist
  rcases Nat.lt_trichotomy j i with hlt | heq | hgt
  · have := List.pairwise_iff_getElem.1 hs j i hj hi hlt
    rw [hje] at this
    simp only [SP.Rk] at this
    omega
  · subst heq
    rw [hje] at h9
    omega
  · rw [List.mem_iff_getElem]
    refine ⟨j - (i + 1), by simp; omega, ?_⟩
    rw [List.getElem_drop]
    have : i + 1 + (j - (i + 1)) = j := by omega
    simp only [this]
    exact hje
end

/-! The numbers of shortest paths. -/
def addM (most s x : Int) : Int := s + (if most - s < x then most - s else x)
theorem addM_fold (most : Int) : ∀ (l : List Int) (s : Int), s ≤ most → (∀ x ∈ l, 0 ≤ x) → l.foldl (addM most) s = if most < s + l.sum then most else s + l.sum
  | [], s, hs, _ => by simp; omega
  | x :: l, s, hs, h => by
    have h0 := h x (by simp)
    have hsum : 0 ≤ l.sum := by
      have : ∀ l : List Int, (∀ x ∈ l, 0 ≤ x) → 0 ≤ l.sum := by
        intro l
        induction l with
        | nil => simp
        | cons y l ih => intro h; have := h y (by simp); have := ih fun z hz => h z (by simp [hz]); simp; omega
      exact this l fun y hy => h y (by simp [hy])
    rw [List.foldl_cons, addM_fold most l _ (by unfold addM; split <;> omega) (fun y hy => h y (by simp [hy]))]
    simp only [List.sum_cons, addM]
    split <;> (try split) <;> (try split) <;> omega
theorem cntS_fold (t : Topo) (most : Int) (xn : Nat) : ∀ (l : List Int) (c : List Int), xn < c.length → (∀ a ∈ l, (t.head a).toNat ≠ xn) → ∀ j,
    (l.foldl (cntS t most xn) c).getD j 0 = if j = xn then (l.map fun a => c.getD (t.head a).toNat 0).foldl (addM most) (c.getD xn 0) else c.getD j 0
  | [], c, _, _, j => by
    by_cases h : j = xn
    · subst h; simp
    · simp [h]
  | a :: l, c, hx, h, j => by
    have ha := h a (by simp)
    have hlen : xn < (cntS t most xn c a).length := by simp [cntS, hx]
    have hget : ∀ k, (cntS t most xn c a).getD k 0 = if k = xn then addM most (c.getD xn 0) (c.getD (t.head a).toNat 0) else c.getD k 0 := fun k => by
      unfold cntS addM
      rw [getD_set0]
      simp only [Int.toNat_natCast]
      by_cases hk : k = xn
      · subst hk; simp [hx]
      · rw [if_neg (by omega), if_neg hk]
    rw [List.foldl_cons, cntS_fold t most xn l _ hlen (fun b hb => h b (by simp [hb])) j]
    by_cases hj : j = xn
    · rw [if_pos hj, if_pos hj, List.map_cons, List.foldl_cons, hget xn, if_pos rfl]
      congr 1
      refine List.map_congr_left fun b hb => ?_
      rw [hget, if_neg (h b (by simp [hb]))]
    · rw [if_neg hj, if_neg hj, hget j, if_neg hj]

section
variable {t : Topo} {down : List Bool} {d : Int} {dist : List Int} {most : Int}
theorem cntX_get (ht : t.ok = true) (hI : SP.IsDist (t.gr down d false) dist) {xn : Nat} {c : List Int} (hx : xn < c.length) (j : Nat) :
    (cntX t down dist d most xn c).getD j 0 = if j = xn then ((nextL t down dist xn d).map fun a => c.getD (t.head a).toNat 0).foldl (addM most) (c.getD xn 0) else c.getD j 0 := by
  unfold cntX
  refine cntS_fold t most xn _ c hx (fun a ha => ?_) j
  obtain ⟨h1, h2, h3, h4, h5, h6, h7, h8, h9, h10⟩ := next_down ht hI ha
  intro e
  rw [e, Int.toNat_natCast] at h9
  omega
theorem cntL_len (t : Topo) (down : List Bool) (dist : List Int) (d most : Int) (hm : 0 ≤ most) (l : List Int) : (cntL t down dist d most l).length = t.n.toNat := (CntOk.all hm l).len
theorem cntL_stay (ht : t.ok = true) (hI : SP.IsDist (t.gr down d false) dist) (hm : 0 ≤ most) : ∀ (pre rest : List Int), (∀ x ∈ pre, ∃ i : Nat, x = i ∧ i < dist.length) → ∀ j : Nat, (j : Int) ∉ pre →
    (cntL t down dist d most (pre ++ rest)).getD j 0 = (cntL t down dist d most rest).getD j 0
  | [], rest, _, j, _ => rfl
  | x :: pre, rest, h, j, hj => by
    obtain ⟨i, rfl, hi⟩ := h x (by simp)
    have hl := gr_n ht hI
    have hne : j ≠ i := fun e => hj (by rw [e]; simp)
    rw [List.cons_append]
    simp only [cntL]
    rw [cntX_get ht hI (by rw [cntL_len t down dist d most hm]; omega), if_neg hne]
    exact cntL_stay ht hI hm pre rest (fun y hy => h y (by simp [hy])) j (fun hy => hj (by simp [hy]))
theorem orderL_nodup (dist : List Int) : (orderL dist).Pairwise (· ≠ ·) := (orderL_sorted dist).imp fun {a b} h e => by
  subst e; exact SP.Rk.irrefl h
theorem cnt0_get (t : Topo) (d most : Int) (j : Nat) (hd : d.toNat < t.n.toNat) : (cnt0 t d most).getD j 0 = if j = d.toNat then (if most < 1 then most else 1) else 0 := by
  unfold cnt0
  rw [getD_set0]
  by_cases h : d.toNat = j
  · subst h; simp [hd]
  · rw [if_neg (by omega), if_neg (by omega)]
    simp only [List.getD_eq_getElem?_getD, List.getElem?_replicate]
    split <;> rfl
/-- The number of shortest paths from a node is the sum of those from the ends of its next arcs. -/
theorem cnt_sum (ht : t.ok = true) (hI : SP.IsDist (t.gr down d false) dist) (hm : 0 ≤ most) (hd0 : 0 ≤ d) (hd1 : d < t.n) (n : Nat) (hn : (n : Int) < t.n) (hne : (n : Int) ≠ d) :
    (cntL t down dist d most (orderL dist)).getD n 0 =
      if most < ((nextL t down dist n d).map fun a => (cntL t down dist d most (orderL dist)).getD (t.head a).toNat 0).sum then most
      else ((nextL t down dist n d).map fun a => (cntL t down dist d most (orderL dist)).getD (t.head a).toNat 0).sum := by
  have hl := gr_n ht hI
  have hel : ∀ x ∈ orderL dist, ∃ i : Nat, x = i ∧ i < dist.length := fun x hx => by
    obtain ⟨i, e1, e2, _⟩ := orderL_mem.1 hx
    exact ⟨i, e1, e2⟩
  by_cases hmem : (n : Int) ∈ orderL dist
  · obtain ⟨i, hi, hie⟩ := List.getElem_of_mem hmem
    have hgi : (orderL dist).getD i 0 = n := by rw [← hie]; simp [List.getD, hi]
    have hlater := fun a => next_later ht hI (a := a) hi
    rw [hgi] at hlater
    have hnd := orderL_nodup dist
    have hstay := cntL_stay ht hI hm (rest := (orderL dist).drop (i + 1)) ((orderL dist).take (i + 1)) (fun x hx => hel x (List.mem_of_mem_take hx))
    rw [List.take_append_drop] at hstay
    have hsplit : orderL dist = (orderL dist).take i ++ (n : Int) :: (orderL dist).drop (i + 1) := by
      rw [← hie, ← List.drop_eq_getElem_cons hi, List.take_append_drop]
    have hapart : ∀ x, x ∈ (orderL dist).drop (i + 1) → x ∉ (orderL dist).take (i + 1) := fun x hx hy => by
      have h3 := hnd
      rw [← List.take_append_drop (i + 1) (orderL dist)] at h3
      exact (List.pairwise_append.1 h3).2.2 x hy x hx rfl
    have hn1 : (n : Int) ∉ (orderL dist).take i ∧ (n : Int) ∉ (orderL dist).drop (i + 1) := by
      have h3 := hnd
      rw [hsplit] at h3
      obtain ⟨_, h4, h5⟩ := List.pairwise_append.1 h3
      exact ⟨fun hy => h5 _ hy _ (by simp) rfl, fun hy => (List.pairwise_cons.1 h4).1 _ hy rfl⟩
    have e1 : (cntL t down dist d most (orderL dist)).getD n 0 = (cntL t down dist d most ((n : Int) :: (orderL dist).drop (i + 1))).getD n 0 := by
      conv => lhs; rw [hsplit]
      exact cntL_stay ht hI hm _ _ (fun x hx => hel x (List.mem_of_mem_take hx)) n hn1.1
    have e2 : (cntL t down dist d most ((orderL dist).drop (i + 1))).getD n 0 = 0 := by
      have := cntL_stay ht hI hm (rest := []) ((orderL dist).drop (i + 1)) (fun x hx => hel x (List.mem_of_mem_drop hx)) n hn1.2
      rw [List.append_nil] at this
      rw [this]
      show (cnt0 t d most).getD n 0 = 0
      rw [cnt0_get t d most n (by omega), if_neg (by omega)]
    have e3 : ((nextL t down dist n d).map fun a => (cntL t down dist d most ((orderL dist).drop (i + 1))).getD (t.head a).toNat 0) =
        (nextL t down dist n d).map fun a => (cntL t down dist d most (orderL dist)).getD (t.head a).toNat 0 := by
      refine List.map_congr_left fun a ha => ?_
      have hh := hapart _ (hlater a ha)
      obtain ⟨h1, h2, h3, h4, h5, h6, h7, h8, h9, h10⟩ := next_down ht hI ha
      have eh : (((t.head a).toNat : Nat) : Int) = t.head a := by omega
      exact (hstay (t.head a).toNat (by rw [eh]; exact hh)).symm
    rw [e1]
    simp only [cntL]
    rw [cntX_get ht hI (by rw [cntL_len t down dist d most hm]; omega), if_pos rfl, e2, e3]
    have := addM_fold most ((nextL t down dist n d).map fun a => (cntL t down dist d most (orderL dist)).getD (t.head a).toNat 0) 0 hm (fun x hx => by
      obtain ⟨a, _, rfl⟩ := List.mem_map.1 hx
      exact (CntOk.all hm _).lo _)
    rw [this]
    simp only [Int.zero_add]
  · have h0 : dist.getD n (-1) < 0 := Classical.byContradiction fun h => hmem (orderL_mem.2 ⟨n, rfl, by omega, by omega⟩)
    rw [nextL_none t ht down dist n d (.inr (by rw [Int.toNat_natCast, getD_01 (by omega)]; exact h0))]
    have := cntL_stay ht hI hm (rest := []) (orderL dist) hel n hmem
    rw [List.append_nil] at this
    rw [this]
    show (cnt0 t d most).getD n 0 = _
    rw [cnt0_get t d most n (by omega), if_neg (by omega)]
    simp
    omega
end
end Go.V
/- The statement DagOrder, as a contract. -/
set_option linter.unusedVariables false
set_option linter.unusedSimpArgs false
namespace Go.V
open Go.RowKit Go.Proofs
attribute [local irreducible] wp seqK lexK opK callK upd sto Good GoodR

theorem orV_len (t : Topo) (down : List Bool) (d : Int) : (orV t down d).length ≤ 1000000 := by
  unfold orV
  split
  · rename_i h
    obtain ⟨h1, h2, h3⟩ := distE_ok h
    have ht := maskOk_ok h1
    have hl := gr_n ht (distL_is ht down h2 h3 false)
    have := Topo.frame_n (Topo.ok_frame ht)
    have := orderL_length (distL t down d false)
    omega
  · simp
theorem ord_fact {t : Topo} {down : List Bool} {d : Int} {i : Nat} (hi : i < (orV t down d).length) : ∃ n : Nat, (orV t down d).getD i 0 = n ∧ t.ok = true ∧ nxE t down n d = 0 ∧
    decide (((nxV t down n d).length : Int) = 0) = decide ((n : Int) = d) ∧ ∀ k, k < (nxV t down n d).length → t.arc ((nxV t down n d).getD k 0) ∧ t.head ((nxV t down n d).getD k 0) ∈ (orV t down d).drop (i + 1) := by
  by_cases he : distE t down d = 0
  · have e1 : orV t down d = orderL (distL t down d false) := if_pos he
    rw [e1] at hi ⊢
    obtain ⟨h1, h2, h3⟩ := distE_ok he
    have ht := maskOk_ok h1
    have hI := distL_is ht down h2 h3 false
    have hl := gr_n ht hI
    obtain ⟨n, e2, e3, e4⟩ := orderL_mem.1 (show (orderL (distL t down d false)).getD i 0 ∈ orderL (distL t down d false) by simp [List.getD, hi])
    have hin : 0 ≤ (n : Int) ∧ (n : Int) < t.n := by omega
    have e5 : nxV t down n d = nextL t down (distL t down d false) n d := by unfold nxV; rw [if_pos he, if_pos hin]
    refine ⟨n, e2, ht, by unfold nxE; rw [if_pos he, if_pos hin], ?_, fun k hk => ?_⟩
    · rw [e5]
      have := next_nil_iff ht hI hin.2 h2 e4
      rw [← List.length_eq_zero_iff] at this
      by_cases c : (n : Int) = d
      · rw [decide_eq_true c, decide_eq_true (by have := this.2 c; omega)]
      · rw [decide_eq_false c, decide_eq_false (fun h => c (this.1 (by omega)))]
    · rw [e5] at hk ⊢
      have hm : (nextL t down (distL t down d false) n d).getD k 0 ∈ nextL t down (distL t down d false) n d := by simp [List.getD, hk]
      refine ⟨(mem_next ht).1 hm |>.1, ?_⟩
      rw [← e2] at hm
      have := next_later ht hI hi hm
      rw [e2] at this
      exact this
  · have e1 : orV t down d = [] := if_neg he
    rw [e1] at hi
    simp at hi
theorem thead_good (t : Topo) (a : Int) (ht : t.ok = true) (ha : t.arc a) : Good Try.prog 19 [pvT t, .int .i64 a] (.int .i64 (t.head a)) := by
  have h := rhead_good t a ht ha
  generalize t.head a = x at *
  refine v_enter ttok mixed Try.func19 (by kernel_rfl) rfl Try.ntmps19 Try.results19 (by simp) ?_; rw [fresh_sto]; simp only [argEnv, List.range, List.range.loop, List.length_cons, List.length_nil, List.zip_cons_cons, List.zip_nil_left]
  (repeat (first | refine Stp.go ?_ | refine v_region ?_ | refine v_regionD ?_ | refine v_blocky (by decide) ?_ | ((first | refine v_o rfl ?_ ?_ | refine v_oD rfl ?_ ?_); (focus (simp only [pvT, go_sem]; done)); simp only [Env.put]) | ((first | refine v_u rfl fun K hK => ?_ | refine v_g rfl fun K hK => ?_ | refine v_uD rfl fun K hK => ?_ | refine v_gD rfl fun K hK => ?_); simp only [pvT, go_sem]) | ((refine callK_pure (fun hc => h) rfl ?_; simp only [upds, eq_self, true_or, true_and])) | refine v_end ?_ | refine v_endD (by kernel_rfl) ?_ | (refine hK _ _ ?_; clear hK K) | refine ⟨by (first | trivial | assumption | omega | (intros; first | assumption | omega)), ?_⟩ | (apply v_condb; (focus (simp only [pvT, go_sem]; first | exact pvt | exact pvf)); simp only [cond_true, cond_false]) | fail))
  (first | refine v_fin_n ?_ | refine v_fin_r ?_); simp only [ resK, one, PV.snap, go_sem]
  exact .refl _

set_option maxHeartbeats 4000000 in
theorem dagorder_good (t : Topo) (down : List Bool) (d : Int) : Good Try.prog 4 [pvT t, .slc 1 (bools down), .int .i64 d] (.bool true) := by
  have hw := awake_good
  have hl := large_good t down
  have h2 := rorder_good t down d
  have hfact := fun i => ord_fact (t := t) (down := down) (d := d) (i := i)
  have hol := orV_len t down d
  rw [orderR_eq] at h2
  refine v_enter ttok mixed Try.func4 (by kernel_rfl) rfl Try.ntmps4 Try.results4 (by simp) ?_; rw [fresh_sto]; simp only [argEnv, List.range, List.range.loop, List.length_cons, List.length_nil, List.zip_cons_cons, List.zip_nil_left]
  cases c : largeB t down with
  | true =>
    rw [c] at hl
    (repeat (first | refine Stp.go ?_ | refine v_region ?_ | refine v_regionD ?_ | refine v_blocky (by decide) ?_ | ((first | refine v_o rfl ?_ ?_ | refine v_oD rfl ?_ ?_); (focus (simp only [pvT, go_sem]; done)); simp only [Env.put]) | ((first | refine v_u rfl fun K hK => ?_ | refine v_g rfl fun K hK => ?_ | refine v_uD rfl fun K hK => ?_ | refine v_gD rfl fun K hK => ?_); simp only [pvT, go_sem]) | (first | (refine callK_pure (fun hc => hw) rfl ?_; simp only [upds, eq_self, true_or, true_and]) | (refine callK_pure (fun hc => hl) rfl ?_; simp only [upds, eq_self, true_or, true_and])) | refine v_end ?_ | refine v_endD (by kernel_rfl) ?_ | (refine hK _ _ ?_; clear hK K) | refine ⟨by (first | trivial | assumption | omega | (intros; first | assumption | omega)), ?_⟩ | (apply v_condb; (focus (simp only [pvT, go_sem]; first | exact pvt | exact pvf)); simp only [cond_true, cond_false]) | fail))
    (first | refine v_fin_n ?_ | refine v_fin_r ?_); simp only [ resK, one, PV.snap, go_sem]
    exact .refl _
  | false =>
    rw [c] at hl
    have hn := (large_no c).1
    have h1 := order_good t down d (by omega)
    rw [orderR_eq] at h1
    generalize orV t down d = ord at *
    generalize distE t down d = e at *
    have h3 := same_sq ord (by omega)
    (repeat (first | refine Stp.go ?_ | refine v_region ?_ | refine v_regionD ?_ | refine v_blocky (by decide) ?_ | ((first | refine v_o rfl ?_ ?_ | refine v_oD rfl ?_ ?_); (focus (simp only [pvT, eq_self, decide_true, not_true_eq_false, decide_false, ints_length, go_sem]; done)); simp only [Env.put]) | ((first | refine v_u rfl fun K hK => ?_ | refine v_g rfl fun K hK => ?_ | refine v_uD rfl fun K hK => ?_ | refine v_gD rfl fun K hK => ?_); simp only [pvT, eq_self, decide_true, not_true_eq_false, decide_false, ints_length, go_sem]) | (first | (refine callK_pure (fun hc => hw) rfl ?_; simp only [upds, eq_self, true_or, true_and]) | (refine callK_pure (fun hc => hl) rfl ?_; simp only [upds, eq_self, true_or, true_and]) | (refine callK_pure (fun hc => h1) rfl ?_; simp only [upds, eq_self, true_or, true_and]) | (refine callK_pure (fun hc => h2) rfl ?_; simp only [upds, eq_self, true_or, true_and]) | (refine callK_pure (fun hc => h3) rfl ?_; simp only [upds, eq_self, true_or, true_and])) | refine v_end ?_ | refine v_endD (by kernel_rfl) ?_ | (refine hK _ _ ?_; clear hK K) | refine ⟨by (first | trivial | assumption | omega | (intros; first | assumption | omega)), ?_⟩ | (apply v_condb; (focus (simp only [pvT, eq_self, decide_true, not_true_eq_false, decide_false, ints_length, go_sem]; first | exact pvt | exact pvf)); simp only [cond_true, cond_false]) | fail))
    refine v_loop [1, 2, 3, 7, 45, 46, 47] (fun k : Nat => k ≤ ord.length) (fun k => ord.length - k)
      (fun k => [.slc 1 (bools down), .int .i64 d, .ptr 102 3 0 0, .slc 1 (ints ord), .slc 1 (ints ord), .int .i64 ord.length, .int .i64 k]) (fun k => [(102, .row 25 3 [pvT t])]) 0 (Nat.zero_le _) ?_ ?_
    · exact (fits_sto _ (fun x => if x = 102 then 1000 else x) (by simp [Env.get, PV.renL, PV.ren , pvT]) (by simp [PV.refsL, PV.refs , pvT]) (by simp [SC.live, SC.ren, SC.refs, PV.renL, PV.ren, PV.refsL, PV.refs, sto_cons, sto_nil , pvT]) (by simp []))
    · intro k hk
      simp only [List.zip_cons_cons, List.zip_nil_left]
      by_cases hc : k < ord.length
      · obtain ⟨n, hx, ht, hE, hiff, hin⟩ := hfact k hc
        have hnx := next_good t down n d
        rw [nextR_eq, hE] at hnx
        have hnl := nxV_len t down n d
        generalize nxV t down n d = l at *
        have z1 : (k : Int) < ord.length := by omega
        have z2 : (0 : Int) ≤ k := by omega
        have z3 : IntKind.i64.wrap ((k : Int) + 1) = ((k + 1 : Nat) : Int) := by rw [wrap_i64 (by omega) (by omega)]; omega
        have z4 : (ints ord).getD k .undef = .int .i64 n := by rw [ints_get hc, hx]
        have z5 : (0 : Int) ≤ ((k + 1 : Nat) : Int) := by omega
        have z6 : ((k + 1 : Nat) : Int) ≤ ord.length := by omega
        have z7 : (ord.length : Int) ≤ ord.length := by omega
        have z8 : List.take (((ord.length : Nat) : Int) - ((k + 1 : Nat) : Int)).toNat (List.drop (k + 1) (ints ord)) = ints (ord.drop (k + 1)) := by
          rw [ints_drop]; exact List.take_of_length_le (by simp [ints_length]; omega)
        (repeat (first | refine Stp.go ?_ | refine v_region ?_ | refine v_regionD ?_ | refine v_blocky (by decide) ?_ | ((first | refine v_o rfl ?_ ?_ | refine v_oD rfl ?_ ?_); (focus (simp only [pvT, ints_length, eq_self, decide_true, not_true_eq_false, decide_false, hiff, beq_self_eq_true, Bool.not_true, z1, z2, z4, go_sem]; done)); simp only [Env.put]) | ((first | refine v_u rfl fun K hK => ?_ | refine v_g rfl fun K hK => ?_ | refine v_uD rfl fun K hK => ?_ | refine v_gD rfl fun K hK => ?_); simp only [pvT, ints_length, eq_self, decide_true, not_true_eq_false, decide_false, hiff, beq_self_eq_true, Bool.not_true, z1, z2, z4, go_sem]) | ((refine callK_pure (fun hc => hnx) rfl ?_; simp only [upds, eq_self, true_or, true_and])) | refine v_end ?_ | refine v_endD (by kernel_rfl) ?_ | (refine hK _ _ ?_; clear hK K) | refine ⟨by (first | trivial | assumption | omega | (intros; first | assumption | omega)), ?_⟩ | (apply v_condb; (focus (simp only [pvT, ints_length, eq_self, decide_true, not_true_eq_false, decide_false, hiff, beq_self_eq_true, Bool.not_true, z1, z2, z4, go_sem]; first | exact pvt | exact pvf)); simp only [cond_true, cond_false]) | fail))
        refine v_loop [1, 2, 3, 7, 45, 46, 47, 11, 71, 72, 73] (fun j : Nat => j ≤ l.length) (fun j => l.length - j)
          (fun j => [.slc 1 (bools down), .int .i64 d, .ptr 102 3 0 0, .slc 1 (ints ord), .slc 1 (ints ord), .int .i64 ord.length, .int .i64 k, .int .i64 k, .slc 1 (ints l), .int .i64 l.length, .int .i64 j]) (fun j => [(102, .row 25 3 [pvT t])]) 0 (Nat.zero_le _) ?_ ?_
        · exact (fits_sto _ id (by simp [Env.get, PV.renL, PV.ren , pvT]) (by simp [PV.refsL, PV.refs , pvT]) (by simp [SC.live, SC.ren, SC.refs, PV.renL, PV.ren, PV.refsL, PV.refs, sto_cons, sto_nil , pvT]) (by simp []))
        · intro j hj
          simp only [List.zip_cons_cons, List.zip_nil_left]
          by_cases hcj : j < l.length
          · obtain ⟨ha, hmem⟩ := hin j hcj
            have hA := ints_get hcj
            generalize l.getD j 0 = a at *
            have hhd := thead_good t a ht ha
            have hhas := has_in_good (ord.drop (k + 1)) (t.head a) (by simp; omega)
            rw [decide_eq_true hmem] at hhas
            generalize t.head a = h at *
            have w1 : (j : Int) < l.length := by omega
            have w2 : (0 : Int) ≤ j := by omega
            have w3 : IntKind.i64.wrap ((j : Int) + 1) = ((j + 1 : Nat) : Int) := by rw [wrap_i64 (by omega) (by omega)]; omega
            (repeat (first | refine Stp.go ?_ | refine v_region ?_ | refine v_regionD ?_ | refine v_blocky (by decide) ?_ | ((first | refine v_o rfl ?_ ?_ | refine v_oD rfl ?_ ?_); (focus (simp only [pvT, ints_length, Int.toNat_natCast, w1, w2, w3, hA, z3, z5, z6, z7, z8, go_sem]; done)); simp only [Env.put]) | ((first | refine v_u rfl fun K hK => ?_ | refine v_g rfl fun K hK => ?_ | refine v_uD rfl fun K hK => ?_ | refine v_gD rfl fun K hK => ?_); simp only [pvT, ints_length, Int.toNat_natCast, w1, w2, w3, hA, z3, z5, z6, z7, z8, go_sem]) | (first | (refine callK_pure (fun hc => hhd) rfl ?_; simp only [upds, eq_self, true_or, true_and]) | (refine callK_pure (fun hc => hhas) rfl ?_; simp only [upds, eq_self, true_or, true_and])) | refine v_end ?_ | refine v_endD (by kernel_rfl) ?_ | (refine hK _ _ ?_; clear hK K) | refine ⟨by (first | trivial | assumption | omega | (intros; first | assumption | omega)), ?_⟩ | (apply v_condb; (focus (simp only [pvT, ints_length, Int.toNat_natCast, w1, w2, w3, hA, z3, z5, z6, z7, z8, go_sem]; first | exact pvt | exact pvf)); simp only [cond_true, cond_false]) | fail))
            refine v_round (j + 1) hcj (by omega) (fits_sto _ id (by simp [Env.get, PV.renL, PV.ren , pvT, renL_ints, refsL_ints]) (by simp [PV.refsL, PV.refs , pvT, renL_ints, refsL_ints]) (by simp [SC.live, SC.ren, SC.refs, PV.renL, PV.ren, PV.refsL, PV.refs, sto_cons, sto_nil , pvT, renL_ints, refsL_ints]) (by simp []))
          · have w1 : ¬ (j : Int) < l.length := by omega
            (repeat (first | refine Stp.go ?_ | refine v_region ?_ | refine v_regionD ?_ | refine v_blocky (by decide) ?_ | ((first | refine v_o rfl ?_ ?_ | refine v_oD rfl ?_ ?_); (focus (simp only [pvT, ints_length, w1, z3, go_sem]; done)); simp only [Env.put]) | ((first | refine v_u rfl fun K hK => ?_ | refine v_g rfl fun K hK => ?_ | refine v_uD rfl fun K hK => ?_ | refine v_gD rfl fun K hK => ?_); simp only [pvT, ints_length, w1, z3, go_sem]) | (refine v_loopx ?_) | refine v_end ?_ | refine v_endD (by kernel_rfl) ?_ | (refine hK _ _ ?_; clear hK K) | refine ⟨by (first | trivial | assumption | omega | (intros; first | assumption | omega)), ?_⟩ | (apply v_condb; (focus (simp only [pvT, ints_length, w1, z3, go_sem]; first | exact pvt | exact pvf)); simp only [cond_true, cond_false]) | fail))
            refine v_round (k + 1) hc (by omega) (fits_sto _ id (by simp [Env.get, PV.renL, PV.ren , pvT, renL_ints, refsL_ints]) (by simp [PV.refsL, PV.refs , pvT, renL_ints, refsL_ints]) (by simp [SC.live, SC.ren, SC.refs, PV.renL, PV.ren, PV.refsL, PV.refs, sto_cons, sto_nil , pvT, renL_ints, refsL_ints]) (by simp []))
      · have z1 : ¬ (k : Int) < ord.length := by omega
        (repeat (first | refine Stp.go ?_ | refine v_region ?_ | refine v_regionD ?_ | refine v_blocky (by decide) ?_ | ((first | refine v_o rfl ?_ ?_ | refine v_oD rfl ?_ ?_); (focus (simp only [pvT, ints_length, z1, go_sem]; done)); simp only [Env.put]) | ((first | refine v_u rfl fun K hK => ?_ | refine v_g rfl fun K hK => ?_ | refine v_uD rfl fun K hK => ?_ | refine v_gD rfl fun K hK => ?_); simp only [pvT, ints_length, z1, go_sem]) | (refine v_loopx ?_) | refine v_end ?_ | refine v_endD (by kernel_rfl) ?_ | (refine hK _ _ ?_; clear hK K) | refine ⟨by (first | trivial | assumption | omega | (intros; first | assumption | omega)), ?_⟩ | (apply v_condb; (focus (simp only [pvT, ints_length, z1, go_sem]; first | exact pvt | exact pvf)); simp only [cond_true, cond_false]) | fail))
        (first | refine v_fin_n ?_ | refine v_fin_r ?_); simp only [ resK, one, PV.snap, go_sem]
        exact .refl _
end Go.V
