import Derived.Test.YtjadcdikckmooaaMY
/- The statement DagParts, as a contract. -/
set_option linter.unusedVariables false
set_option linter.unusedSimpArgs false
namespace Go.V
open Go.RowKit Go.Proofs
attribute [local irreducible] wp seqK lexK opK callK upd sto Good GoodR

/-- The parts of a unique shortest path. -/
theorem parts_law {t : Topo} {down : List Bool} {a b : Int} (h : uniqB t down a b = true) {i k : Nat} (hik : i ≤ k) (hk : k < (ptV t down a b).length) :
    t.ok = true ∧ t.arc ((ptV t down a b).getD i 0) ∧ t.arc ((ptV t down a b).getD k 0) ∧
      uniqB t down (t.tail ((ptV t down a b).getD i 0)) (t.head ((ptV t down a b).getD k 0)) = true ∧ ptE t down (t.tail ((ptV t down a b).getD i 0)) (t.head ((ptV t down a b).getD k 0)) = 0 ∧
      ptV t down (t.tail ((ptV t down a b).getD i 0)) (t.head ((ptV t down a b).getD k 0)) = ((ptV t down a b).drop i).take (k + 1 - i) := by
  obtain ⟨he, h0, h1, hr, hc⟩ := uniq_elim h
  obtain ⟨hmk, hd0, hd1⟩ := distE_ok he
  have ht := maskOk_ok hmk
  have hI := distL_is ht down hd0 hd1 false
  have ho := (uniq_path h).2
  generalize ptV t down a b = P at *
  obtain ⟨a1, a2⟩ := Only.arc ht hI (i := i) (by omega) ho
  obtain ⟨b1, b2⟩ := Only.arc ht hI (i := k) hk ho
  have hdr := Only.drop ht hI i (by omega) ho
  obtain ⟨c1, c2, c3, c4, c5, c6, c7, c8, c9, c10⟩ := next_down ht hI a1
  obtain ⟨e1, e2, e3, e4, e5, e6, e7, e8, e9, e10⟩ := next_down ht hI b1
  have hon := on_iff.1 ((mem_next ht).1 b1).2.2
  rw [c2]
  have hsplit : P.drop i = (P.drop i).take (k + 1 - i) ++ P.drop (k + 1) := by
    conv => lhs; rw [← List.take_append_drop (k + 1 - i) (P.drop i)]
    rw [List.drop_drop, show i + (k + 1 - i) = k + 1 by omega]
  rw [hsplit] at hdr
  have hpe : pEnd t (pEnd t a (P.take i)) ((P.drop i).take (k + 1 - i)) = t.head (P.getD k 0) := by
    rw [← b2]
    unfold pEnd
    rw [← List.foldl_append]
    congr 1
    rw [← List.take_add, show i + (k + 1 - i) = k + 1 by omega]
  have he' : distE t down (t.head (P.getD k 0)) = 0 := by
    unfold distE; rw [if_pos hmk, if_pos ⟨e6, e7⟩]
  have hI' := distL_is ht down e6 e7 false
  have hup' : ∀ x ∈ (P.drop i).take (k + 1 - i), upB down x = true := fun x hx => by
    obtain ⟨j, hj, rfl⟩ := List.getElem_of_mem (List.mem_of_mem_drop (List.mem_of_mem_take hx))
    have := (Only.arc ht hI (i := j) hj ho).1
    rw [show P.getD j 0 = P[j] by simp [List.getD, hj]] at this
    exact (on_iff.1 ((mem_next ht).1 this).2.2).1
  obtain ⟨o1, o2, o3⟩ := two_only ht hI hI' hd0 e6 e7 (fun _ _ h => h) hon.2.2.2.1 e8 _ _ _ c3 c4 hdr hpe hup'
  obtain ⟨p1, p2⟩ := pt_ok he' c3 c4 o2
  exact ⟨ht, c1, e1, uniq_intro he' c3 c4 (only_uniq ht hI' e6 e7 _ _ c3 c4 o1), p1, by rw [p2, Only.fpath_eq ht hI' c3 c4 o2 o1]⟩
set_option maxHeartbeats 4000000 in
theorem dagparts_good (t : Topo) (down : List Bool) (a b : Int) : Good Try.prog 9 [pvT t, .slc 1 (bools down), .agg [.int .i64 a, .int .i64 b]] (.bool true) := by
  have hw := awake_good
  have hl := large_good t down
  have hp := path11_good t down a b
  refine v_enter ttok mixed Try.func9 (by kernel_rfl) rfl Try.ntmps9 Try.results9 (by simp) ?_; rw [fresh_sto]; simp only [argEnv, List.range, List.range.loop, List.length_cons, List.length_nil, List.zip_cons_cons, List.zip_nil_left]
  cases c : largeB t down with
  | true =>
    rw [c] at hl
    (repeat (first | refine Stp.go ?_ | refine v_region ?_ | refine v_regionD ?_ | refine v_blocky (by decide) ?_ | ((first | refine v_o rfl ?_ ?_ | refine v_oD rfl ?_ ?_); (focus (simp only [pvT, go_sem]; done)); simp only [Env.put]) | ((first | refine v_u rfl fun K hK => ?_ | refine v_g rfl fun K hK => ?_ | refine v_uD rfl fun K hK => ?_ | refine v_gD rfl fun K hK => ?_); simp only [pvT, go_sem]) | (first | (refine callK_pure (fun hc => hw) rfl ?_; simp only [upds, eq_self, true_or, true_and]) | (refine callK_pure (fun hc => hl) rfl ?_; simp only [upds, eq_self, true_or, true_and])) | refine v_end ?_ | refine v_endD (by kernel_rfl) ?_ | (refine hK _ _ ?_; clear hK K) | refine ⟨by (first | trivial | assumption | omega | (intros; first | assumption | omega)), ?_⟩ | (apply v_condb; (focus (simp only [pvT, go_sem]; first | exact pvt | exact pvf)); simp only [cond_true, cond_false]) | fail))
    (first | refine v_fin_n ?_ | refine v_fin_r ?_); simp only [ resK, one, PV.snap, go_sem]
    exact .refl _
  | false =>
    rw [c] at hl
    have hn := (large_no c).1
    have hu := unique_good t down a b (by omega)
    cases cu : uniqB t down a b with
    | false =>
      rw [cu] at hu
      (repeat (first | refine Stp.go ?_ | refine v_region ?_ | refine v_regionD ?_ | refine v_blocky (by decide) ?_ | ((first | refine v_o rfl ?_ ?_ | refine v_oD rfl ?_ ?_); (focus (simp only [pvT, eq_self, decide_true, not_true_eq_false, decide_false, Bool.not_false, Bool.not_true, go_sem]; done)); simp only [Env.put]) | ((first | refine v_u rfl fun K hK => ?_ | refine v_g rfl fun K hK => ?_ | refine v_uD rfl fun K hK => ?_ | refine v_gD rfl fun K hK => ?_); simp only [pvT, eq_self, decide_true, not_true_eq_false, decide_false, Bool.not_false, Bool.not_true, go_sem]) | (first | (refine callK_pure (fun hc => hw) rfl ?_; simp only [upds, eq_self, true_or, true_and]) | (refine callK_pure (fun hc => hl) rfl ?_; simp only [upds, eq_self, true_or, true_and]) | (refine callK_pure (fun hc => hu) rfl ?_; simp only [upds, eq_self, true_or, true_and])) | refine v_end ?_ | refine v_endD (by kernel_rfl) ?_ | (refine hK _ _ ?_; clear hK K) | refine ⟨by (first | trivial | assumption | omega | (intros; first | assumption | omega)), ?_⟩ | (apply v_condb; (focus (simp only [pvT, eq_self, decide_true, not_true_eq_false, decide_false, Bool.not_false, Bool.not_true, go_sem]; first | exact pvt | exact pvf)); simp only [cond_true, cond_false]) | fail))
      (first | refine v_fin_n ?_ | refine v_fin_r ?_); simp only [ resK, one, PV.snap, go_sem]
      exact .refl _
    | true =>
      rw [cu] at hu
      rw [(uniq_path cu).1] at hp
      have hlaw := fun i k => parts_law cu (i := i) (k := k)
      have hpl := ptV_len t down a b
      generalize ptV t down a b = P at *
      (repeat (first | refine Stp.go ?_ | refine v_region ?_ | refine v_regionD ?_ | refine v_blocky (by decide) ?_ | ((first | refine v_o rfl ?_ ?_ | refine v_oD rfl ?_ ?_); (focus (simp only [pvT, ints_length, eq_self, decide_true, not_true_eq_false, decide_false, Bool.not_false, Bool.not_true, go_sem]; done)); simp only [Env.put]) | ((first | refine v_u rfl fun K hK => ?_ | refine v_g rfl fun K hK => ?_ | refine v_uD rfl fun K hK => ?_ | refine v_gD rfl fun K hK => ?_); simp only [pvT, ints_length, eq_self, decide_true, not_true_eq_false, decide_false, Bool.not_false, Bool.not_true, go_sem]) | (first | (refine callK_pure (fun hc => hw) rfl ?_; simp only [upds, eq_self, true_or, true_and]) | (refine callK_pure (fun hc => hl) rfl ?_; simp only [upds, eq_self, true_or, true_and]) | (refine callK_pure (fun hc => hu) rfl ?_; simp only [upds, eq_self, true_or, true_and]) | (refine callK_pure (fun hc => hp) rfl ?_; simp only [upds, eq_self, true_or, true_and])) | refine v_end ?_ | refine v_endD (by kernel_rfl) ?_ | (refine hK _ _ ?_; clear hK K) | refine ⟨by (first | trivial | assumption | omega | (intros; first | assumption | omega)), ?_⟩ | (apply v_condb; (focus (simp only [pvT, ints_length, eq_self, decide_true, not_true_eq_false, decide_false, Bool.not_false, Bool.not_true, go_sem]; first | exact pvt | exact pvf)); simp only [cond_true, cond_false]) | fail))
      refine v_loop [1, 3, 7, 43, 44] (fun i : Nat => i ≤ P.length) (fun i => P.length - i)
        (fun i => [.slc 1 (bools down), .ptr 102 3 0 0, .slc 1 (ints P), .int .i64 P.length, .int .i64 i]) (fun i => [(102, .row 25 3 [pvT t])]) 0 (Nat.zero_le _) ?_ ?_
      · exact (fits_sto _ (fun x => if x = 102 then 1000 else x) (by simp [Env.get, PV.renL, PV.ren , pvT]) (by simp [PV.refsL, PV.refs , pvT]) (by simp [SC.live, SC.ren, SC.refs, PV.renL, PV.ren, PV.refsL, PV.refs, sto_cons, sto_nil , pvT]) (by simp []))
      · intro i hi
        simp only [List.zip_cons_cons, List.zip_nil_left]
        by_cases hc : i < P.length
        · have z1 : (i : Int) < P.length := by omega
          have z2 : (0 : Int) ≤ i := by omega
          have z3 : IntKind.i64.wrap ((i : Int) + 1) = ((i + 1 : Nat) : Int) := by rw [wrap_i64 (by omega) (by omega)]; omega
          have z4 := ints_get hc
          (repeat (first | refine Stp.go ?_ | refine v_region ?_ | refine v_regionD ?_ | refine v_blocky (by decide) ?_ | ((first | refine v_o rfl ?_ ?_ | refine v_oD rfl ?_ ?_); (focus (simp only [pvT, ints_length, z1, z2, go_sem]; done)); simp only [Env.put]) | ((first | refine v_u rfl fun K hK => ?_ | refine v_g rfl fun K hK => ?_ | refine v_uD rfl fun K hK => ?_ | refine v_gD rfl fun K hK => ?_); simp only [pvT, ints_length, z1, z2, go_sem]) | (fail) | refine v_end ?_ | refine v_endD (by kernel_rfl) ?_ | (refine hK _ _ ?_; clear hK K) | refine ⟨by (first | trivial | assumption | omega | (intros; first | assumption | omega)), ?_⟩ | (apply v_condb; (focus (simp only [pvT, ints_length, z1, z2, go_sem]; first | exact pvt | exact pvf)); simp only [cond_true, cond_false]) | fail))
          refine v_loop [1, 3, 7, 43, 44, 9, 10] (fun k : Nat => i ≤ k ∧ k ≤ P.length) (fun k => P.length - k)
            (fun k => [.slc 1 (bools down), .ptr 102 3 0 0, .slc 1 (ints P), .int .i64 P.length, .int .i64 i, .int .i64 i, .int .i64 k]) (fun k => [(102, .row 25 3 [pvT t])]) i ⟨Nat.le_refl _, hi⟩ ?_ ?_
          · exact (fits_sto _ id (by simp [Env.get, PV.renL, PV.ren , pvT]) (by simp [PV.refsL, PV.refs , pvT]) (by simp [SC.live, SC.ren, SC.refs, PV.renL, PV.ren, PV.refsL, PV.refs, sto_cons, sto_nil , pvT]) (by simp []))
          · rintro k ⟨hik, hk⟩
            simp only [List.zip_cons_cons, List.zip_nil_left]
            by_cases hck : k < P.length
            · obtain ⟨ht, ha1, ha2, hq1, hq2, hq3⟩ := hlaw i k hik hck
              have w4 := ints_get hck
              have htl := rtail_good t _ ht ha1
              have hhd := rhead_good t _ ht ha2
              generalize P.getD i 0 = ai at *
              generalize P.getD k 0 = ak at *
              generalize t.tail ai = x at *
              generalize t.head ak = y at *
              have hpx := path11_good t down x y
              have hux := unique_good t down x y (by omega)
              rw [hq2, hq3] at hpx
              rw [hq1] at hux
              have hsm := same_sq ((P.drop i).take (k + 1 - i)) (Nat.le_trans (List.length_take_le _ _) (by omega))
              have w1 : (k : Int) < P.length := by omega
              have w2 : (0 : Int) ≤ k := by omega
              have w3 : IntKind.i64.wrap ((k : Int) + 1) = ((k + 1 : Nat) : Int) := by rw [wrap_i64 (by omega) (by omega)]; omega
              have w5 : (i : Int) ≤ ((k + 1 : Nat) : Int) := by omega
              have w6 : ((k + 1 : Nat) : Int) ≤ P.length := by omega
              have w8 : List.take (((k + 1 : Nat) : Int) - (i : Int)).toNat (List.drop i (ints P)) = ints ((P.drop i).take (k + 1 - i)) := by
                rw [show (((k + 1 : Nat) : Int) - (i : Int)).toNat = k + 1 - i by omega, ints_drop, ints_take]
              generalize (P.drop i).take (k + 1 - i) = q at *
              (repeat (first | refine Stp.go ?_ | refine v_region ?_ | refine v_regionD ?_ | refine v_blocky (by decide) ?_ | ((first | refine v_o rfl ?_ ?_ | refine v_oD rfl ?_ ?_); (focus (simp only [pvT, ints_length, Int.toNat_natCast, eq_self, decide_true, not_true_eq_false, decide_false, Bool.not_false, Bool.not_true, z1, z2, z4, w1, w2, w3, w4, w5, w6, w8, go_sem]; done)); simp only [Env.put]) | ((first | refine v_u rfl fun K hK => ?_ | refine v_g rfl fun K hK => ?_ | refine v_uD rfl fun K hK => ?_ | refine v_gD rfl fun K hK => ?_); simp only [pvT, ints_length, Int.toNat_natCast, eq_self, decide_true, not_true_eq_false, decide_false, Bool.not_false, Bool.not_true, z1, z2, z4, w1, w2, w3, w4, w5, w6, w8, go_sem]) | (first | (refine callK_pure (fun hc => htl) rfl ?_; simp only [upds, eq_self, true_or, true_and]) | (refine callK_pure (fun hc => hhd) rfl ?_; simp only [upds, eq_self, true_or, true_and]) | (refine callK_pure (fun hc => hpx) rfl ?_; simp only [upds, eq_self, true_or, true_and]) | (refine callK_pure (fun hc => hux) rfl ?_; simp only [upds, eq_self, true_or, true_and]) | (refine callK_pure (fun hc => hsm) rfl ?_; simp only [upds, eq_self, true_or, true_and])) | refine v_end ?_ | refine v_endD (by kernel_rfl) ?_ | (refine hK _ _ ?_; clear hK K) | refine ⟨by (first | trivial | assumption | omega | (intros; first | assumption | omega)), ?_⟩ | (apply v_condb; (focus (simp only [pvT, ints_length, Int.toNat_natCast, eq_self, decide_true, not_true_eq_false, decide_false, Bool.not_false, Bool.not_true, z1, z2, z4, w1, w2, w3, w4, w5, w6, w8, go_sem]; first | exact pvt | exact pvf)); simp only [cond_true, cond_false]) | fail))
              refine v_round (k + 1) ⟨by omega, hck⟩ (by omega) (fits_sto _ id (by simp [Env.get, PV.renL, PV.ren , pvT, renL_ints, refsL_ints]) (by simp [PV.refsL, PV.refs , pvT, renL_ints, refsL_ints]) (by simp [SC.live, SC.ren, SC.refs, PV.renL, PV.ren, PV.refsL, PV.refs, sto_cons, sto_nil , pvT, renL_ints, refsL_ints]) (by simp []))
            · have w1 : ¬ (k : Int) < P.length := by omega
              (repeat (first | refine Stp.go ?_ | refine v_region ?_ | refine v_regionD ?_ | refine v_blocky (by decide) ?_ | ((first | refine v_o rfl ?_ ?_ | refine v_oD rfl ?_ ?_); (focus (simp only [pvT, ints_length, w1, z3, go_sem]; done)); simp only [Env.put]) | ((first | refine v_u rfl fun K hK => ?_ | refine v_g rfl fun K hK => ?_ | refine v_uD rfl fun K hK => ?_ | refine v_gD rfl fun K hK => ?_); simp only [pvT, ints_length, w1, z3, go_sem]) | (refine v_loopx ?_) | refine v_end ?_ | refine v_endD (by kernel_rfl) ?_ | (refine hK _ _ ?_; clear hK K) | refine ⟨by (first | trivial | assumption | omega | (intros; first | assumption | omega)), ?_⟩ | (apply v_condb; (focus (simp only [pvT, ints_length, w1, z3, go_sem]; first | exact pvt | exact pvf)); simp only [cond_true, cond_false]) | fail))
              refine v_round (i + 1) hc (by omega) (fits_sto _ id (by simp [Env.get, PV.renL, PV.ren , pvT, renL_ints, refsL_ints]) (by simp [PV.refsL, PV.refs , pvT, renL_ints, refsL_ints]) (by simp [SC.live, SC.ren, SC.refs, PV.renL, PV.ren, PV.refsL, PV.refs, sto_cons, sto_nil , pvT, renL_ints, refsL_ints]) (by simp []))
        · have z1 : ¬ (i : Int) < P.length := by omega
          (repeat (first | refine Stp.go ?_ | refine v_region ?_ | refine v_regionD ?_ | refine v_blocky (by decide) ?_ | ((first | refine v_o rfl ?_ ?_ | refine v_oD rfl ?_ ?_); (focus (simp only [pvT, ints_length, z1, go_sem]; done)); simp only [Env.put]) | ((first | refine v_u rfl fun K hK => ?_ | refine v_g rfl fun K hK => ?_ | refine v_uD rfl fun K hK => ?_ | refine v_gD rfl fun K hK => ?_); simp only [pvT, ints_length, z1, go_sem]) | (refine v_loopx ?_) | refine v_end ?_ | refine v_endD (by kernel_rfl) ?_ | (refine hK _ _ ?_; clear hK K) | refine ⟨by (first | trivial | assumption | omega | (intros; first | assumption | omega)), ?_⟩ | (apply v_condb; (focus (simp only [pvT, ints_length, z1, go_sem]; first | exact pvt | exact pvf)); simp only [cond_true, cond_false]) | fail))
          (first | refine v_fin_n ?_ | refine v_fin_r ?_); simp only [ resK, one, PV.snap, go_sem]
          exact .refl _
end Go.V
