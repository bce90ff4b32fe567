import Derived.Test.YtjadcdikckmooaaMU
/- The statement DagSums, as a contract. -/
set_option linter.unusedVariables false
set_option linter.unusedSimpArgs false
namespace Go.V
open Go.RowKit Go.Proofs
attribute [local irreducible] wp seqK lexK opK callK upd sto Good GoodR

theorem cntE_nx {t : Topo} {down : List Bool} {n d most : Int} (hm : 0 ≤ most) : cntE t down n d most = nxE t down n d := by
  unfold cntE nxE
  simp only [if_pos hm]
theorem nxE_ok {t : Topo} {down : List Bool} {n d : Int} (h : nxE t down n d = 0) : distE t down d = 0 ∧ 0 ≤ n ∧ n < t.n := by
  unfold nxE at h
  split at h
  · rename_i h1
    split at h
    · rename_i h2; exact ⟨h1, h2⟩
    · omega
  · rename_i h1; exact absurd h h1
theorem cnt_dest {t : Topo} {down : List Bool} {d most : Int} {dist : List Int} (ht : t.ok = true) (hI : SP.IsDist (t.gr down d false) dist) (hm : 0 ≤ most) (hd0 : 0 ≤ d) (hd1 : d < t.n) : ∀ l : List Int, (∀ x ∈ l, ∃ i : Nat, x = i ∧ i < dist.length) →
    (cntL t down dist d most l).getD d.toNat 0 = (if most < 1 then most else 1)
  | [], _ => by
    show (cnt0 t d most).getD d.toNat 0 = _
    rw [cnt0_get t d most _ (by omega), if_pos rfl]
  | x :: l, h => by
    obtain ⟨i, rfl, hi⟩ := h x (by simp)
    have hl := gr_n ht hI
    have ih := cnt_dest ht hI hm hd0 hd1 l fun y hy => h y (by simp [hy])
    simp only [cntL]
    rw [cntX_get ht hI (by rw [cntL_len t down dist d most hm]; omega)]
    by_cases e : d.toNat = i
    · rw [if_pos e, nextL_none t ht down dist i d (.inl (by omega)), List.map_nil, List.foldl_nil, ← e]
      exact ih
    · rw [if_neg e]; exact ih
theorem ord_el {dist : List Int} : ∀ x ∈ orderL dist, ∃ i : Nat, x = i ∧ i < dist.length := fun x hx => by
  obtain ⟨i, e1, e2, _⟩ := orderL_mem.1 hx
  exact ⟨i, e1, e2⟩
/-- What DagSums says. -/
theorem sums_law {t : Topo} {down : List Bool} {n d most : Int} (hm : 1 ≤ most) (h : nxE t down n d = 0) :
    (n = d → cntV t down n d most = 1) ∧ (n ≠ d → cntV t down n d most = if most < ((nxV t down n d).map fun a => cntV t down (t.head a) d most).sum then most else ((nxV t down n d).map fun a => cntV t down (t.head a) d most).sum) ∧
      ∀ a ∈ nxV t down n d, t.ok = true ∧ t.arc a ∧ nxE t down (t.head a) d = 0 := by
  obtain ⟨he, h1, h2⟩ := nxE_ok h
  obtain ⟨hk, hd0, hd1⟩ := distE_ok he
  have ht := maskOk_ok hk
  have hI := distL_is ht down hd0 hd1 false
  obtain ⟨m, rfl⟩ : ∃ m : Nat, n = m := ⟨n.toNat, by omega⟩
  have e0 : ∀ x : Int, 0 ≤ x → x < t.n → cntV t down x d most = (cntL t down (distL t down d false) d most (orderL (distL t down d false))).getD x.toNat 0 := fun x hx hx' => by
    unfold cntV; rw [if_pos he, if_pos ⟨hx, hx'⟩, if_pos (by omega)]
  have e1 : nxV t down m d = nextL t down (distL t down d false) m d := by unfold nxV; rw [if_pos he, if_pos ⟨h1, h2⟩]
  rw [e0 m h1 h2, e1]
  have e2 : ((nextL t down (distL t down d false) m d).map fun a => cntV t down (t.head a) d most) =
      (nextL t down (distL t down d false) m d).map fun a => (cntL t down (distL t down d false) d most (orderL (distL t down d false))).getD (t.head a).toNat 0 :=
    List.map_congr_left fun a ha => by
      obtain ⟨_, _, _, _, _, h6, h7, _⟩ := next_down ht hI ha
      exact e0 _ h6 h7
  refine ⟨fun e => ?_, fun hne => ?_, fun a ha => ?_⟩
  · rw [e, cnt_dest ht hI (by omega) hd0 hd1 _ ord_el, if_neg (by omega)] <;> omega
  · rw [e2, Int.toNat_natCast]
    exact cnt_sum ht hI (by omega) hd0 hd1 m h2 hne
  · obtain ⟨h3, _, _, _, _, h6, h7, _⟩ := next_down ht hI ha
    exact ⟨ht, h3, by unfold nxE; rw [if_pos he, if_pos ⟨h6, h7⟩]⟩
theorem cntV_in {t : Topo} {down : List Bool} {n d most : Int} (hm : 0 ≤ most) : 0 ≤ cntV t down n d most ∧ cntV t down n d most ≤ most := by
  unfold cntV
  simp only [if_pos hm]
  split
  · split
    · exact ⟨(CntOk.all hm _).lo _, (CntOk.all hm _).hi _⟩
    · omega
  · omega
theorem sum_bound {most : Int} : ∀ l : List Int, (∀ x ∈ l, 0 ≤ x ∧ x ≤ most) → 0 ≤ l.sum ∧ l.sum ≤ l.length * most
  | [], _ => by simp
  | x :: l, h => by
    have ih := sum_bound l fun y hy => h y (by simp [hy])
    have hx := h x (by simp)
    simp only [List.sum_cons, List.length_cons, Int.natCast_add, Int.add_mul, Int.natCast_one, Int.one_mul]
    omega
theorem sum_take {l : List Int} {k : Nat} (h : k < l.length) : (l.take (k + 1)).sum = (l.take k).sum + l.getD k 0 := by
  rw [List.take_succ_eq_append_getElem h, List.sum_append]
  simp [List.getD, h]

set_option maxHeartbeats 4000000 in
theorem dagsums_good (t : Topo) (down : List Bool) (a b : Int) : Good Try.prog 7 [pvT t, .slc 1 (bools down), .agg [.int .i64 a, .int .i64 b]] (.bool true) := by
  have hw := awake_good
  have hl := large_good t down
  have h2 := next_good t down a b
  rw [nextR_eq] at h2
  have hnl : (nxV t down a b).length ≤ 512 := by
    unfold nxV
    split
    · rename_i h
      split
      · exact nextL_len (maskOk_ok (distE_ok h).1) ..
      · simp
    · simp
  refine v_enter ttok mixed Try.func7 (by kernel_rfl) rfl Try.ntmps7 Try.results7 (by simp) ?_; rw [fresh_sto]; simp only [argEnv, List.range, List.range.loop, List.length_cons, List.length_nil, List.zip_cons_cons, List.zip_nil_left]
  cases c : largeB t down with
  | true =>
    rw [c] at hl
    (repeat (first | refine Stp.go ?_ | refine v_region ?_ | refine v_regionD ?_ | refine v_blocky (by decide) ?_ | ((first | refine v_o rfl ?_ ?_ | refine v_oD rfl ?_ ?_); (focus (simp only [pvT, go_sem]; done)); simp only [Env.put]) | ((first | refine v_u rfl fun K hK => ?_ | refine v_g rfl fun K hK => ?_ | refine v_uD rfl fun K hK => ?_ | refine v_gD rfl fun K hK => ?_); simp only [pvT, go_sem]) | (first | (refine callK_pure (fun hc => hw) rfl ?_; simp only [upds, eq_self, true_or, true_and]) | (refine callK_pure (fun hc => hl) rfl ?_; simp only [upds, eq_self, true_or, true_and])) | refine v_end ?_ | refine v_endD (by kernel_rfl) ?_ | (refine hK _ _ ?_; clear hK K) | refine ⟨by (first | trivial | assumption | omega | (intros; first | assumption | omega)), ?_⟩ | (apply v_condb; (focus (simp only [pvT, go_sem]; first | exact pvt | exact pvf)); simp only [cond_true, cond_false]) | fail))
    (first | refine v_fin_n ?_ | refine v_fin_r ?_); simp only [ resK, one, PV.snap, go_sem]
    exact .refl _
  | false =>
    rw [c] at hl
    have hn := (large_no c).1
    have h1 := fun n => count_good t down n b 1000000 (by decide) (by omega)
    have h1a := h1 a
    rw [countR_eq, cntE_nx (by decide)] at h1a
    by_cases he : nxE t down a b = 0
    · obtain ⟨q1, q2, q3⟩ := sums_law (most := 1000000) (by decide) he
      rw [he] at h1a h2
      by_cases hab : a = b
      · rw [q1 hab] at h1a
        subst hab
        generalize nxV t down a a = l at *
        (repeat (first | refine Stp.go ?_ | refine v_region ?_ | refine v_regionD ?_ | refine v_blocky (by decide) ?_ | ((first | refine v_o rfl ?_ ?_ | refine v_oD rfl ?_ ?_); (focus (simp only [pvT, eq_self, decide_true, not_true_eq_false, decide_false, go_sem]; done)); simp only [Env.put]) | ((first | refine v_u rfl fun K hK => ?_ | refine v_g rfl fun K hK => ?_ | refine v_uD rfl fun K hK => ?_ | refine v_gD rfl fun K hK => ?_); simp only [pvT, eq_self, decide_true, not_true_eq_false, decide_false, go_sem]) | (first | (refine callK_pure (fun hc => hw) rfl ?_; simp only [upds, eq_self, true_or, true_and]) | (refine callK_pure (fun hc => hl) rfl ?_; simp only [upds, eq_self, true_or, true_and]) | (refine callK_pure (fun hc => h1a) rfl ?_; simp only [upds, eq_self, true_or, true_and]) | (refine callK_pure (fun hc => h2) rfl ?_; simp only [upds, eq_self, true_or, true_and])) | refine v_end ?_ | refine v_endD (by kernel_rfl) ?_ | (refine hK _ _ ?_; clear hK K) | refine ⟨by (first | trivial | assumption | omega | (intros; first | assumption | omega)), ?_⟩ | (apply v_condb; (focus (simp only [pvT, eq_self, decide_true, not_true_eq_false, decide_false, go_sem]; first | exact pvt | exact pvf)); simp only [cond_true, cond_false]) | fail))
        (first | refine v_fin_n ?_ | refine v_fin_r ?_); simp only [ resK, one, PV.snap, go_sem]
        exact .refl _
      · have q2 := q2 hab
        generalize cntV t down a b 1000000 = v at *
        generalize nxV t down a b = l at *
        (repeat (first | refine Stp.go ?_ | refine v_region ?_ | refine v_regionD ?_ | refine v_blocky (by decide) ?_ | ((first | refine v_o rfl ?_ ?_ | refine v_oD rfl ?_ ?_); (focus (simp only [pvT, eq_self, decide_true, not_true_eq_false, decide_false, hab, ints_length, go_sem]; done)); simp only [Env.put]) | ((first | refine v_u rfl fun K hK => ?_ | refine v_g rfl fun K hK => ?_ | refine v_uD rfl fun K hK => ?_ | refine v_gD rfl fun K hK => ?_); simp only [pvT, eq_self, decide_true, not_true_eq_false, decide_false, hab, ints_length, go_sem]) | (first | (refine callK_pure (fun hc => hw) rfl ?_; simp only [upds, eq_self, true_or, true_and]) | (refine callK_pure (fun hc => hl) rfl ?_; simp only [upds, eq_self, true_or, true_and]) | (refine callK_pure (fun hc => h1a) rfl ?_; simp only [upds, eq_self, true_or, true_and]) | (refine callK_pure (fun hc => h2) rfl ?_; simp only [upds, eq_self, true_or, true_and])) | refine v_end ?_ | refine v_endD (by kernel_rfl) ?_ | (refine hK _ _ ?_; clear hK K) | refine ⟨by (first | trivial | assumption | omega | (intros; first | assumption | omega)), ?_⟩ | (apply v_condb; (focus (simp only [pvT, eq_self, decide_true, not_true_eq_false, decide_false, hab, ints_length, go_sem]; first | exact pvt | exact pvf)); simp only [cond_true, cond_false]) | fail))
        have hel : ∀ x ∈ l.map fun a => cntV t down (t.head a) b 1000000, 0 ≤ x ∧ x ≤ 1000000 := fun x hx => by
          obtain ⟨y, _, rfl⟩ := List.mem_map.1 hx
          exact cntV_in (by decide)
        have hget : ∀ k, k < l.length → (l.map fun a => cntV t down (t.head a) b 1000000).getD k 0 = cntV t down (t.head (l.getD k 0)) b 1000000 := fun k hk => by simp [List.getD, hk]
        have hml : (l.map fun a => cntV t down (t.head a) b 1000000).length = l.length := by simp
        generalize (l.map fun a => cntV t down (t.head a) b 1000000) = ys at *
        refine v_loop [1, 3, 5, 7, 11, 65, 66, 67] (fun k : Nat => k ≤ l.length) (fun k => l.length - k)
          (fun k => [.slc 1 (bools down), .ptr 102 3 0 0, .ptr 103 2 0 0, .int .i64 v, .int .i64 (ys.take k).sum, .slc 1 (ints l), .int .i64 l.length, .int .i64 k]) (fun k => [(102, .row 25 3 [pvT t]), (103, .row 26 2 [.agg [.int .i64 a, .int .i64 b]])]) 0 (Nat.zero_le _) ?_ ?_
        · exact (fits_sto _ (fun x => if x = 102 then 1000 else if x = 103 then 1001 else x) (by simp [Env.get, PV.renL, PV.ren , pvT]) (by simp [PV.refsL, PV.refs , pvT]) (by simp [SC.live, SC.ren, SC.refs, PV.renL, PV.ren, PV.refsL, PV.refs, sto_cons, sto_nil , pvT]) (by simp []))
        · intro k hk
          simp only [List.zip_cons_cons, List.zip_nil_left]
          by_cases hc : k < l.length
          · have hsum := sum_take (l := ys) (k := k) (by omega)
            have hb1 := sum_bound (most := 1000000) (ys.take k) fun x hx => hel x (List.mem_of_mem_take hx)
            have hb2 := hel (ys.getD k 0) (by simp [List.getD, hml, hc])
            have hb3 : (ys.take k).length ≤ 512 := Nat.le_trans (List.length_take_le _ _) (by omega)
            rw [hget k hc] at hsum hb2
            obtain ⟨ht, ha, hE⟩ := q3 (l.getD k 0) (by simp [List.getD, hc])
            have hA := ints_get hc
            have h1c := h1 (t.head (l.getD k 0))
            rw [countR_eq, cntE_nx (by decide), hE] at h1c
            generalize l.getD k 0 = x at *
            have hhd := rhead_good t x ht ha
            generalize cntV t down (t.head x) b 1000000 = y at *
            generalize t.head x = h at *
            generalize (ys.take k).sum = s at *
            have w1 : (k : Int) < l.length := by omega
            have w2 : (0 : Int) ≤ k := by omega
            have w3 : IntKind.i64.wrap ((k : Int) + 1) = ((k + 1 : Nat) : Int) := by rw [wrap_i64 (by omega) (by omega)]; omega
            have w4 : IntKind.i64.wrap (s + y) = s + y := wrap_i64 (by omega) (by omega)
            (repeat (first | refine Stp.go ?_ | refine v_region ?_ | refine v_regionD ?_ | refine v_blocky (by decide) ?_ | ((first | refine v_o rfl ?_ ?_ | refine v_oD rfl ?_ ?_); (focus (simp only [pvT, ints_length, eq_self, decide_true, not_true_eq_false, decide_false, w1, w2, w3, w4, hA, go_sem]; done)); simp only [Env.put]) | ((first | refine v_u rfl fun K hK => ?_ | refine v_g rfl fun K hK => ?_ | refine v_uD rfl fun K hK => ?_ | refine v_gD rfl fun K hK => ?_); simp only [pvT, ints_length, eq_self, decide_true, not_true_eq_false, decide_false, w1, w2, w3, w4, hA, go_sem]) | (first | (refine callK_pure (fun hc => hhd) rfl ?_; simp only [upds, eq_self, true_or, true_and]) | (refine callK_pure (fun hc => h1c) rfl ?_; simp only [upds, eq_self, true_or, true_and])) | refine v_end ?_ | refine v_endD (by kernel_rfl) ?_ | (refine hK _ _ ?_; clear hK K) | refine ⟨by (first | trivial | assumption | omega | (intros; first | assumption | omega)), ?_⟩ | (apply v_condb; (focus (simp only [pvT, ints_length, eq_self, decide_true, not_true_eq_false, decide_false, w1, w2, w3, w4, hA, go_sem]; first | exact pvt | exact pvf)); simp only [cond_true, cond_false]) | fail))
            refine v_round (k + 1) hc (by omega) (fits_sto _ id (by simp [Env.get, PV.renL, PV.ren , pvT, renL_ints, refsL_ints, hsum]) (by simp [PV.refsL, PV.refs , pvT, renL_ints, refsL_ints, hsum]) (by simp [SC.live, SC.ren, SC.refs, PV.renL, PV.ren, PV.refsL, PV.refs, sto_cons, sto_nil , pvT, renL_ints, refsL_ints, hsum]) (by simp []))
          · have w1 : ¬ (k : Int) < l.length := by omega
            rw [List.take_of_length_le (by omega)]
            generalize ys.sum = s at *
            (repeat (first | refine Stp.go ?_ | refine v_region ?_ | refine v_regionD ?_ | refine v_blocky (by decide) ?_ | ((first | refine v_o rfl ?_ ?_ | refine v_oD rfl ?_ ?_); (focus (simp only [pvT, ints_length, w1, go_sem]; done)); simp only [Env.put]) | ((first | refine v_u rfl fun K hK => ?_ | refine v_g rfl fun K hK => ?_ | refine v_uD rfl fun K hK => ?_ | refine v_gD rfl fun K hK => ?_); simp only [pvT, ints_length, w1, go_sem]) | (refine v_loopx ?_) | refine v_end ?_ | refine v_endD (by kernel_rfl) ?_ | (refine hK _ _ ?_; clear hK K) | refine ⟨by (first | trivial | assumption | omega | (intros; first | assumption | omega)), ?_⟩ | (apply v_condb; (focus (simp only [pvT, ints_length, w1, go_sem]; first | exact pvt | exact pvf)); simp only [cond_true, cond_false]) | fail))
            (first | refine v_fin_n ?_ | refine v_fin_r ?_); simp only [ resK, one, PV.snap, go_sem]
            exact wk_bool (by rw [q2]; simp)
    · generalize cntV t down a b 1000000 = v at *
      generalize nxV t down a b = l at *
      generalize nxE t down a b = e at *
      (repeat (first | refine Stp.go ?_ | refine v_region ?_ | refine v_regionD ?_ | refine v_blocky (by decide) ?_ | ((first | refine v_o rfl ?_ ?_ | refine v_oD rfl ?_ ?_); (focus (simp only [pvT, eq_self, decide_true, not_true_eq_false, not_false_eq_true, decide_false, he, go_sem]; done)); simp only [Env.put]) | ((first | refine v_u rfl fun K hK => ?_ | refine v_g rfl fun K hK => ?_ | refine v_uD rfl fun K hK => ?_ | refine v_gD rfl fun K hK => ?_); simp only [pvT, eq_self, decide_true, not_true_eq_false, not_false_eq_true, decide_false, he, go_sem]) | (first | (refine callK_pure (fun hc => hw) rfl ?_; simp only [upds, eq_self, true_or, true_and]) | (refine callK_pure (fun hc => hl) rfl ?_; simp only [upds, eq_self, true_or, true_and]) | (refine callK_pure (fun hc => h1a) rfl ?_; simp only [upds, eq_self, true_or, true_and]) | (refine callK_pure (fun hc => h2) rfl ?_; simp only [upds, eq_self, true_or, true_and])) | refine v_end ?_ | refine v_endD (by kernel_rfl) ?_ | (refine hK _ _ ?_; clear hK K) | refine ⟨by (first | trivial | assumption | omega | (intros; first | assumption | omega)), ?_⟩ | (apply v_condb; (focus (simp only [pvT, eq_self, decide_true, not_true_eq_false, not_false_eq_true, decide_false, he, go_sem]; first | exact pvt | exact pvf)); simp only [cond_true, cond_false]) | fail))
      (first | refine v_fin_n ?_ | refine v_fin_r ?_); simp only [ resK, one, PV.snap, go_sem]
      exact .refl _
end Go.V
