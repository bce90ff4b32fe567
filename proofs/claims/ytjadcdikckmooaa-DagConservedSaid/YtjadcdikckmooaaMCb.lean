import Derived.Test.YtjadcdikckmooaaMCa
import Derived.Test.YtjadcdikckmooaaML
/- The statement DagConserved, as a contract. -/
set_option linter.unusedVariables false
set_option linter.unusedSimpArgs false
namespace Go.V
open Go.RowKit Go.Proofs

section
variable {t : Topo} {down : List Bool} {d : Int} {dist : List Int} {s : Int}
/-- Nothing flows. -/
theorem zero_run (ht : t.ok = true) (hI : SP.IsDist (t.gr down d false) dist) (hs : s ∉ orderL dist) (c : Nat) (x : Int) (hx : x ≠ s) : ∀ (l : List Int) (st : ShS), (∀ a ∈ l, t.head a ≠ s) → (∀ v, v ≠ s → st.at v = 0) → ∀ v, v ≠ s → (l.foldl (shStep t c x) st).at v = 0
  | [], st, _, h, v, hv => h v hv
  | a :: l, st, hl, h, v, hv => by
    rw [List.foldl_cons]
    refine zero_run ht hI hs c x hx l _ (fun b hb => hl b (by simp [hb])) (fun w hw => ?_) v hv
    rw [shStep_at, h x hx]
    split
    · rw [h _ (hl a (by simp)), Rat.div_def, Rat.zero_mul, Rat.add_zero]
    · exact h w hw
theorem head_ord (ht : t.ok = true) (hI : SP.IsDist (t.gr down d false) dist) {x a : Int} (ha : a ∈ nextL t down dist x d) : t.head a ∈ orderL dist := by
  obtain ⟨_, _, _, _, _, h6, h7, h8, _⟩ := next_down ht hI ha
  have hl := gr_n ht hI
  exact orderL_mem.2 ⟨(t.head a).toNat, by omega, by omega, h8⟩
theorem zero_all (ht : t.ok = true) (hI : SP.IsDist (t.gr down d false) dist) (hs : s ∉ orderL dist) : ∀ (l : List Int), (∀ x ∈ l, x ∈ orderL dist) → ∀ v, v ≠ s → (shL t down dist s d l).at v = 0 := by
  have key : ∀ (l : List Int) (st : ShS), (∀ x ∈ l, x ∈ orderL dist) → (∀ v, v ≠ s → st.at v = 0) → ∀ v, v ≠ s → (l.foldl (shNode t down dist d) st).at v = 0 := by
    intro l
    induction l with
    | nil => intro st _ h v hv; exact h v hv
    | cons x l ih =>
      intro st hl h v hv
      rw [List.foldl_cons]
      refine ih _ (fun y hy => hl y (by simp [hy])) (fun w hw => ?_) v hv
      exact zero_run ht hI hs _ x (fun e => hs (by rw [← e]; exact hl x (by simp))) _ st (fun a ha e => hs (by rw [← e]; exact head_ord ht hI ha)) h w hw
  intro l hl
  refine key l _ hl fun v hv => ?_
  unfold ShS.at sh0
  simp only [amFind]
  rw [if_neg (Ne.symm hv)]
  rfl
theorem share_none (ht : t.ok = true) (hI : SP.IsDist (t.gr down d false) dist) (hs : s ∉ orderL dist) : ShOk t down dist s d (orderL dist) := by
  intro i k hi hk
  have hx : (orderL dist).getD i 0 ∈ orderL dist := by simp [List.getD, hi]
  have hxs : (orderL dist).getD i 0 ≠ s := fun e => hs (by rw [← e]; exact hx)
  have hz := zero_all ht hI hs ((orderL dist).take i) (fun x hx => List.mem_of_mem_take hx)
  have hc := nextL_len ht down dist ((orderL dist).getD i 0) d
  have hhd : ∀ a ∈ nextL t down dist ((orderL dist).getD i 0) d, t.head a ≠ s := fun a ha e => hs (by rw [← e]; exact head_ord ht hI ha)
  have hz2 := zero_run ht hI hs (nextL t down dist ((orderL dist).getD i 0) d).length _ hxs ((nextL t down dist ((orderL dist).getD i 0) d).take k) _ (fun a ha => hhd a (List.mem_of_mem_take ha)) hz
  have gm : ∀ (l : List Int) (k : Nat), k < l.length → l.getD k 0 ∈ l := fun l k h => by simp [List.getD, h]
  have hm := gm _ k hk
  unfold stepOk
  rw [hz2 _ hxs, hz2 _ (hhd _ hm), Rat.div_def, Rat.zero_mul]
  have h0 : Rt.ok 0 := rt_le (by decide +kernel)
  have d1 : (0 : Rat).den = 1 := rfl
  rw [d1]
  exact ⟨h0, by omega, h0, h0, by decide⟩
end

noncomputable def shV (t : Topo) (down : List Bool) (s d : Int) : List (Option Rat) :=
  if distE t down d = 0 then if 0 ≤ s ∧ s < t.n then if 0 ≤ (distL t down d false).getD s.toNat (-1) then (shL t down (distL t down d false) s d (orderL (distL t down d false))).sh else [] else [] else []
noncomputable def shE (t : Topo) (down : List Bool) (s d : Int) : Int :=
  if distE t down d = 0 then if 0 ≤ s ∧ s < t.n then if 0 ≤ (distL t down d false).getD s.toNat (-1) then 0 else 11 else 2 else distE t down d
theorem shareR_eq (t : Topo) (down : List Bool) (s d : Int) : shareR t down s d = .tup [.slc 3 (rats (shV t down s d)), .int .i64 (shE t down s d)] := by
  unfold shareR shV shE
  split
  · split
    · split <;> rfl
    · rfl
  · rfl
theorem share_all (t : Topo) (down : List Bool) (s d : Int) (h20 : t.n < 20) (h24 : t.ls.length ≤ 24) : Good Try.prog 26 [pvT t, .slc 1 (bools down), .int .i64 s, .int .i64 d] (.tup [.slc 3 (rats (shV t down s d)), .int .i64 (shE t down s d)]) := by
  rw [← shareR_eq]
  refine share_good t down s d h20 fun he h0 h1 => ?_
  obtain ⟨hk, hd0, hd1⟩ := distE_ok he
  have ht := maskOk_ok hk
  have hI := distL_is ht down hd0 hd1 false
  by_cases hs : s ∈ orderL (distL t down d false)
  · exact (share_small ht hI hd0 hd1 hs h24).2
  · exact share_none ht hI hs
/-- What DagConserved says. -/
theorem cons_pack (t : Topo) (down : List Bool) (a b : Int) (h24 : t.ls.length ≤ 24) : (shE t down a b ≠ 0 ∧ shV t down a b = []) ∨
    (shE t down a b = 0 ∧ t.ok = true ∧ ∃ (D : Nat) (S : Nat → Nat), D ≠ 0 ∧ D ≤ 6561 ∧ (shV t down a b).length = 2 * t.ls.length ∧ (∀ k, k < 2 * t.ls.length → ratO ((shV t down a b).getD k none) = mkRat (S k) D) ∧ (∀ k, S k ≤ D) ∧
      (a = b → ∀ k, S k = 0) ∧ ∀ v, outN t S v + (if v = b then D else 0) = inN t S v + (if v = a then D else 0)) := by
  unfold shE shV
  by_cases he : distE t down b = 0
  · rw [if_pos he, if_pos he]
    by_cases hs : 0 ≤ a ∧ a < t.n
    · rw [if_pos hs, if_pos hs]
      by_cases hr : 0 ≤ (distL t down b false).getD a.toNat (-1)
      · rw [if_pos hr, if_pos hr]
        obtain ⟨hk, hd0, hd1⟩ := distE_ok he
        have ht := maskOk_ok hk
        have hI := distL_is ht down hd0 hd1 false
        have hl := gr_n ht hI
        have hso : a ∈ orderL (distL t down b false) := orderL_mem.2 ⟨a.toNat, by omega, by omega, hr⟩
        obtain ⟨A, S, h⟩ := run_all ht hI hd0 hd1 hso _ (Nat.le_refl _)
        rw [List.take_length, List.drop_length] at h
        have hD6 := (share_small ht hI hd0 hd1 hso h24).1
        exact .inr ⟨rfl, ht, _, S, Nat.ne_of_gt (prodD_pos _ _), hD6, h.len, h.sh, h.bnd, h.zero, conserved ht hI hd0 hd1 hso h⟩
      · rw [if_neg hr, if_neg hr]; exact .inl ⟨by decide, rfl⟩
    · rw [if_neg hs, if_neg hs]; exact .inl ⟨by decide, rfl⟩
  · rw [if_neg he, if_neg he]; exact .inl ⟨he, rfl⟩
theorem gs_bound {f : Nat → Nat} {D : Nat} (h : ∀ b, f b ≤ D) : ∀ k, gs f k ≤ k * D
  | 0 => by simp [gs]
  | k + 1 => by
    have := gs_bound h k
    have := h k
    rw [gs, Nat.add_mul, Nat.one_mul]; omega

attribute [local irreducible] wp seqK lexK opK callK upd sto Good GoodR rats
theorem sign_so (so : Option Rat) : Good Try.prog 27 [.agg [.bool (os so), on so, ol so]] (.int .i64 (ratO so).num.sign) :=
  Good.pre (qsign_good (ratO so)) rfl fun j p q hp hq => by
    match j with
    | 0 => simp at hp hq; subst hp hq; exact wk_on so
    | j + 1 => simp at hp
theorem add_so (q : Rat) (so : Option Rat) (h1 : Rt.ok q) (h2 : Rt.ok (ratO so)) (h3 : q.den * (ratO so).den < 4294967296) :
    Good Try.prog 29 [.agg [.bool (os (some q)), on (some q), ol (some q)], .agg [.bool (os so), on so, ol so]] (.agg [.bool (os (some (q + ratO so))), on (some (q + ratO so)), ol (some (q + ratO so))]) :=
  good_ops (some q) so .undef .undef (radd_good q (ratO so) h1 h2 h3)
theorem sub_so (q : Rat) (so : Option Rat) (h1 : Rt.ok q) (h2 : Rt.ok (ratO so)) (h3 : q.den * (ratO so).den < 4294967296) :
    Good Try.prog 30 [.agg [.bool (os (some q)), on (some q), ol (some q)], .agg [.bool (os so), on so, ol so]] (.agg [.bool (os (some (q - ratO so))), on (some (q - ratO so)), ol (some (q - ratO so))]) :=
  good_ops (some q) so .undef .undef (rsub_good q (ratO so) h1 h2 h3)
theorem cmp_int (w : Int) (hw : w.natAbs ≤ 1) : Good Try.prog 31 [.agg [.bool (os (some ((w : Int) : Rat))), on (some ((w : Int) : Rat)), ol (some ((w : Int) : Rat))], .agg [.bool (os (some ((w : Int) : Rat))), on (some ((w : Int) : Rat)), ol (some ((w : Int) : Rat))]] (.int .i64 0) := by
  have e1 : ((w : Int) : Rat).num = w := Rat.num_intCast _
  have e2 : ((w : Int) : Rat).den = 1 := Rat.den_intCast _
  have h := rcmp_good ((w : Int) : Rat) ((w : Int) : Rat) (rt_le (by rw [e1]; omega)) (rt_le (by rw [e1]; omega)) (by rw [e2]; decide)
  rw [Rat.sub_self] at h
  exact good_ops (some ((w : Int) : Rat)) (some ((w : Int) : Rat)) .undef .undef h
theorem int_int (w : Int) (hw : w.natAbs ≤ 1) : Good Try.prog 28 [.int .i64 w] (.agg [.bool (os (some ((w : Int) : Rat))), on (some ((w : Int) : Rat)), ol (some ((w : Int) : Rat))]) := rint_good w (by omega) (by omega)

theorem q_int1 {D : Nat} (hD : D ≠ 0) {z : Int} (h : z = D) : mkRat z D = ((1 : Int) : Rat) := by rw [h, q_one hD]; rfl
theorem q_intm {D : Nat} (hD : D ≠ 0) {z : Int} (h : z = -(D : Int)) : mkRat z D = ((-1 : Int) : Rat) := by rw [h, ← Rat.neg_mkRat, q_one hD]; rfl
theorem q_int0 {D : Nat} {z : Int} (h : z = 0) : mkRat z D = ((0 : Int) : Rat) := by rw [h, Rat.zero_mkRat]; rfl
def sumO (t : Topo) (n : Int) (S : Nat → Nat) (k : Nat) : Int := (gs (fun b => if t.tail b = n then S b else 0) k : Int) - (gs (fun b => if t.head b = n then S b else 0) k : Int)
theorem sumO_succ (t : Topo) (n : Int) (S : Nat → Nat) (k : Nat) : sumO t n S (k + 1) = sumO t n S k + (if t.tail k = n then (S k : Int) else 0) - (if t.head k = n then (S k : Int) else 0) := by
  unfold sumO
  simp only [gs, Int.natCast_add]
  split <;> split <;> omega

set_option maxHeartbeats 8000000 in
theorem dagconserved_good (t : Topo) (down : List Bool) (a b : Int) : Good Try.prog 6 [pvT t, .slc 1 (bools down), .agg [.int .i64 a, .int .i64 b]] (.bool true) := by
  have hw := awake_good
  have hl := large_good t down
  refine v_enter ttok mixed Try.func6 (by kernel_rfl) rfl Try.ntmps6 Try.results6 (by simp) ?_; rw [fresh_sto]; simp only [argEnv, List.range, List.range.loop, List.length_cons, List.length_nil, List.zip_cons_cons, List.zip_nil_left]
  cases c : largeB t down with
  | true =>
    rw [c] at hl
    (repeat (first | refine Stp.go ?_ | refine v_region ?_ | refine v_regionD ?_ | refine v_blocky (by decide) ?_ | ((first | refine v_o rfl ?_ ?_ | refine v_oD rfl ?_ ?_); (focus (simp only [pvT, go_sem]; done)); simp only [Env.put]) | ((first | refine v_u rfl fun K hK => ?_ | refine v_g rfl fun K hK => ?_ | refine v_uD rfl fun K hK => ?_ | refine v_gD rfl fun K hK => ?_); simp only [pvT, go_sem]) | (first | (refine callK_pure (fun hc => hw) rfl ?_; simp only [upds, eq_self, true_or, true_and]) | (refine callK_pure (fun hc => hl) rfl ?_; simp only [upds, eq_self, true_or, true_and])) | refine v_end ?_ | refine v_endD (by kernel_rfl) ?_ | (refine hK _ _ ?_; clear hK K) | refine ⟨by (first | trivial | assumption | omega | (intros; first | assumption | omega)), ?_⟩ | (apply v_condb; (focus (simp only [pvT, go_sem]; first | exact pvt | exact pvf)); simp only [cond_true, cond_false]) | fail))
    (first | refine v_fin_n ?_ | refine v_fin_r ?_); simp only [ resK, one, PV.snap, go_sem]
    exact .refl _
  | false =>
    rw [c] at hl
    have hn := large_no c
    have h1 := share_all t down a b (by omega) hn.2.1
    rcases cons_pack t down a b hn.2.1 with ⟨he, hv⟩ | ⟨he, ht, D, S, hD, hD6, hlen, hsh, hS, hS0, hcons⟩
    · have hzero : ∀ k, k < (shV t down a b).length → ratO ((shV t down a b).getD k none) = 0 := fun k hk => by rw [hv] at hk; simp at hk
      have hll : (shV t down a b).length ≤ 64 := by rw [hv]; decide
      clear hv
      generalize shE t down a b = e at *
      generalize shV t down a b = l at *
      (repeat (first | refine Stp.go ?_ | refine v_region ?_ | refine v_regionD ?_ | refine v_blocky (by decide) ?_ | ((first | refine v_o rfl ?_ ?_ | refine v_oD rfl ?_ ?_); (focus (simp only [pvT, rats_length, eq_self, decide_true, not_true_eq_false, not_false_eq_true, decide_false, he, go_sem]; done)); simp only [Env.put]) | ((first | refine v_u rfl fun K hK => ?_ | refine v_g rfl fun K hK => ?_ | refine v_uD rfl fun K hK => ?_ | refine v_gD rfl fun K hK => ?_); simp only [pvT, rats_length, eq_self, decide_true, not_true_eq_false, not_false_eq_true, decide_false, he, go_sem]) | (first | (refine callK_pure (fun hc => hw) rfl ?_; simp only [upds, eq_self, true_or, true_and]) | (refine callK_pure (fun hc => hl) rfl ?_; simp only [upds, eq_self, true_or, true_and]) | (refine callK_pure (fun hc => h1) rfl ?_; simp only [upds, eq_self, true_or, true_and])) | refine v_end ?_ | refine v_endD (by kernel_rfl) ?_ | (refine hK _ _ ?_; clear hK K) | refine ⟨by (first | trivial | assumption | omega | (intros; first | assumption | omega)), ?_⟩ | (apply v_condb; (focus (simp only [pvT, rats_length, eq_self, decide_true, not_true_eq_false, not_false_eq_true, decide_false, he, go_sem]; first | exact pvt | exact pvf)); simp only [cond_true, cond_false]) | fail))
      refine v_loop [40, 41, 42] (fun k : Nat => k ≤ l.length) (fun k => l.length - k) (fun k => [.slc 3 (rats l), .int .i64 l.length, .int .i64 k]) (fun k => []) 0 (Nat.zero_le _) ?_ ?_
      · exact (fits_sto _ id (by simp [Env.get, PV.renL, PV.ren ]) (by simp [PV.refsL, PV.refs ]) (by simp [SC.live, SC.ren, SC.refs, PV.renL, PV.ren, PV.refsL, PV.refs, sto_cons, sto_nil ]) (by simp ))
      · intro k hk
        simp only [List.zip_cons_cons, List.zip_nil_left]
        by_cases hc : k < l.length
        · have z1 : (k : Int) < l.length := by omega
          have z2 : (0 : Int) ≤ k := by omega
          have z3 : IntKind.i64.wrap ((k : Int) + 1) = ((k + 1 : Nat) : Int) := by rw [wrap_i64 (by omega) (by omega)]; omega
          have u4 := rats_get hc
          have hz := hzero k hc
          generalize l.getD k none = so at *
          have hsg := sign_so so
          rw [hz, show (0 : Rat).num.sign = 0 from rfl] at hsg
          have r1 : PV.refsL [PV.agg [.bool (os so), on so, ol so]] = [] := by simp [PV.refsL, PV.refs, refs_on, refs_ol]
          (repeat (first | refine Stp.go ?_ | refine v_region ?_ | refine v_regionD ?_ | refine v_blocky (by decide) ?_ | ((first | refine v_o rfl ?_ ?_ | refine v_oD rfl ?_ ?_); (focus (simp only [rats_length, eq_self, decide_true, not_true_eq_false, decide_false, z1, z2, z3, u4, go_sem]; done)); simp only [Env.put]) | ((first | refine v_u rfl fun K hK => ?_ | refine v_g rfl fun K hK => ?_ | refine v_uD rfl fun K hK => ?_ | refine v_gD rfl fun K hK => ?_); simp only [rats_length, eq_self, decide_true, not_true_eq_false, decide_false, z1, z2, z3, u4, go_sem]) | ((refine callK_pure (fun hc => hsg) r1 ?_; simp only [upds, eq_self, true_or, true_and])) | refine v_end ?_ | refine v_endD (by kernel_rfl) ?_ | (refine hK _ _ ?_; clear hK K) | refine ⟨by (first | trivial | assumption | omega | (intros; first | assumption | omega)), ?_⟩ | (apply v_condb; (focus (simp only [rats_length, eq_self, decide_true, not_true_eq_false, decide_false, z1, z2, z3, u4, go_sem]; first | exact pvt | exact pvf)); simp only [cond_true, cond_false]) | fail))
          refine v_round (k + 1) hc (by omega) (fits_sto _ id (by simp [Env.get, PV.renL, PV.ren ]) (by simp [PV.refsL, PV.refs ]) (by simp [SC.live, SC.ren, SC.refs, PV.renL, PV.ren, PV.refsL, PV.refs, sto_cons, sto_nil ]) (by simp ))
        · have z1 : ¬ (k : Int) < l.length := by omega
          (repeat (first | refine Stp.go ?_ | refine v_region ?_ | refine v_regionD ?_ | refine v_blocky (by decide) ?_ | ((first | refine v_o rfl ?_ ?_ | refine v_oD rfl ?_ ?_); (focus (simp only [rats_length, z1, go_sem]; done)); simp only [Env.put]) | ((first | refine v_u rfl fun K hK => ?_ | refine v_g rfl fun K hK => ?_ | refine v_uD rfl fun K hK => ?_ | refine v_gD rfl fun K hK => ?_); simp only [rats_length, z1, go_sem]) | (refine v_loopx ?_) | refine v_end ?_ | refine v_endD (by kernel_rfl) ?_ | (refine hK _ _ ?_; clear hK K) | refine ⟨by (first | trivial | assumption | omega | (intros; first | assumption | omega)), ?_⟩ | (apply v_condb; (focus (simp only [rats_length, z1, go_sem]; first | exact pvt | exact pvf)); simp only [cond_true, cond_false]) | fail))
          (first | refine v_fin_n ?_ | refine v_fin_r ?_); simp only [ resK, one, PV.snap, go_sem]
          exact .refl _
    · rw [he] at h1
      generalize shV t down a b = l at *
      obtain ⟨M, hM⟩ : ∃ M : Nat, 2 * t.ls.length = M := ⟨_, rfl⟩
      rw [hM] at hlen hsh
      have hll : l.length ≤ 64 := by omega
      by_cases hab : a = b
      · have hzero : ∀ k, k < l.length → ratO (l.getD k none) = 0 := fun k hk => by
          rw [hsh k (by omega), hS0 hab k]
          exact Rat.zero_mkRat D
        subst hab
        (repeat (first | refine Stp.go ?_ | refine v_region ?_ | refine v_regionD ?_ | refine v_blocky (by decide) ?_ | ((first | refine v_o rfl ?_ ?_ | refine v_oD rfl ?_ ?_); (focus (simp only [pvT, rats_length, eq_self, decide_true, not_true_eq_false, not_false_eq_true, decide_false, go_sem]; done)); simp only [Env.put]) | ((first | refine v_u rfl fun K hK => ?_ | refine v_g rfl fun K hK => ?_ | refine v_uD rfl fun K hK => ?_ | refine v_gD rfl fun K hK => ?_); simp only [pvT, rats_length, eq_self, decide_true, not_true_eq_false, not_false_eq_true, decide_false, go_sem]) | (first | (refine callK_pure (fun hc => hw) rfl ?_; simp only [upds, eq_self, true_or, true_and]) | (refine callK_pure (fun hc => hl) rfl ?_; simp only [upds, eq_self, true_or, true_and]) | (refine callK_pure (fun hc => h1) rfl ?_; simp only [upds, eq_self, true_or, true_and])) | refine v_end ?_ | refine v_endD (by kernel_rfl) ?_ | (refine hK _ _ ?_; clear hK K) | refine ⟨by (first | trivial | assumption | omega | (intros; first | assumption | omega)), ?_⟩ | (apply v_condb; (focus (simp only [pvT, rats_length, eq_self, decide_true, not_true_eq_false, not_false_eq_true, decide_false, go_sem]; first | exact pvt | exact pvf)); simp only [cond_true, cond_false]) | fail))
        refine v_loop [40, 41, 42] (fun k : Nat => k ≤ l.length) (fun k => l.length - k) (fun k => [.slc 3 (rats l), .int .i64 l.length, .int .i64 k]) (fun k => []) 0 (Nat.zero_le _) ?_ ?_
        · exact (fits_sto _ id (by simp [Env.get, PV.renL, PV.ren ]) (by simp [PV.refsL, PV.refs ]) (by simp [SC.live, SC.ren, SC.refs, PV.renL, PV.ren, PV.refsL, PV.refs, sto_cons, sto_nil ]) (by simp ))
        · intro k hk
          simp only [List.zip_cons_cons, List.zip_nil_left]
          by_cases hc : k < l.length
          · have z1 : (k : Int) < l.length := by omega
            have z2 : (0 : Int) ≤ k := by omega
            have z3 : IntKind.i64.wrap ((k : Int) + 1) = ((k + 1 : Nat) : Int) := by rw [wrap_i64 (by omega) (by omega)]; omega
            have u4 := rats_get hc
            have hz := hzero k hc
            generalize l.getD k none = so at *
            have hsg := sign_so so
            rw [hz, show (0 : Rat).num.sign = 0 from rfl] at hsg
            have r1 : PV.refsL [PV.agg [.bool (os so), on so, ol so]] = [] := by simp [PV.refsL, PV.refs, refs_on, refs_ol]
            (repeat (first | refine Stp.go ?_ | refine v_region ?_ | refine v_regionD ?_ | refine v_blocky (by decide) ?_ | ((first | refine v_o rfl ?_ ?_ | refine v_oD rfl ?_ ?_); (focus (simp only [rats_length, eq_self, decide_true, not_true_eq_false, decide_false, z1, z2, z3, u4, go_sem]; done)); simp only [Env.put]) | ((first | refine v_u rfl fun K hK => ?_ | refine v_g rfl fun K hK => ?_ | refine v_uD rfl fun K hK => ?_ | refine v_gD rfl fun K hK => ?_); simp only [rats_length, eq_self, decide_true, not_true_eq_false, decide_false, z1, z2, z3, u4, go_sem]) | ((refine callK_pure (fun hc => hsg) r1 ?_; simp only [upds, eq_self, true_or, true_and])) | refine v_end ?_ | refine v_endD (by kernel_rfl) ?_ | (refine hK _ _ ?_; clear hK K) | refine ⟨by (first | trivial | assumption | omega | (intros; first | assumption | omega)), ?_⟩ | (apply v_condb; (focus (simp only [rats_length, eq_self, decide_true, not_true_eq_false, decide_false, z1, z2, z3, u4, go_sem]; first | exact pvt | exact pvf)); simp only [cond_true, cond_false]) | fail))
            refine v_round (k + 1) hc (by omega) (fits_sto _ id (by simp [Env.get, PV.renL, PV.ren ]) (by simp [PV.refsL, PV.refs ]) (by simp [SC.live, SC.ren, SC.refs, PV.renL, PV.ren, PV.refsL, PV.refs, sto_cons, sto_nil ]) (by simp ))
          · have z1 : ¬ (k : Int) < l.length := by omega
            (repeat (first | refine Stp.go ?_ | refine v_region ?_ | refine v_regionD ?_ | refine v_blocky (by decide) ?_ | ((first | refine v_o rfl ?_ ?_ | refine v_oD rfl ?_ ?_); (focus (simp only [rats_length, z1, go_sem]; done)); simp only [Env.put]) | ((first | refine v_u rfl fun K hK => ?_ | refine v_g rfl fun K hK => ?_ | refine v_uD rfl fun K hK => ?_ | refine v_gD rfl fun K hK => ?_); simp only [rats_length, z1, go_sem]) | (refine v_loopx ?_) | refine v_end ?_ | refine v_endD (by kernel_rfl) ?_ | (refine hK _ _ ?_; clear hK K) | refine ⟨by (first | trivial | assumption | omega | (intros; first | assumption | omega)), ?_⟩ | (apply v_condb; (focus (simp only [rats_length, z1, go_sem]; first | exact pvt | exact pvf)); simp only [cond_true, cond_false]) | fail))
            (first | refine v_fin_n ?_ | refine v_fin_r ?_); simp only [ resK, one, PV.snap, go_sem]
            exact .refl _
      · have v1 : IntKind.i64.wrap (2 * (t.ls.length : Int)) = 2 * (t.ls.length : Int) := wrap_i64 (by omega) (by omega)
        have v2 : (l.length : Int) = 2 * (t.ls.length : Int) := by omega
        have hn0 := (Topo.frame_n (Topo.ok_frame ht)).1
        obtain ⟨N, hN⟩ : ∃ N : Nat, t.n = N := ⟨t.n.toNat, by omega⟩
        (repeat (first | refine Stp.go ?_ | refine v_region ?_ | refine v_regionD ?_ | refine v_blocky (by decide) ?_ | ((first | refine v_o rfl ?_ ?_ | refine v_oD rfl ?_ ?_); (focus (simp only [pvT, rats_length, List.length_map, eq_self, decide_true, not_true_eq_false, not_false_eq_true, decide_false, hab, v1, v2, go_sem]; done)); simp only [Env.put]) | ((first | refine v_u rfl fun K hK => ?_ | refine v_g rfl fun K hK => ?_ | refine v_uD rfl fun K hK => ?_ | refine v_gD rfl fun K hK => ?_); simp only [pvT, rats_length, List.length_map, eq_self, decide_true, not_true_eq_false, not_false_eq_true, decide_false, hab, v1, v2, go_sem]) | (first | (refine callK_pure (fun hc => hw) rfl ?_; simp only [upds, eq_self, true_or, true_and]) | (refine callK_pure (fun hc => hl) rfl ?_; simp only [upds, eq_self, true_or, true_and]) | (refine callK_pure (fun hc => h1) rfl ?_; simp only [upds, eq_self, true_or, true_and])) | refine v_end ?_ | refine v_endD (by kernel_rfl) ?_ | (refine hK _ _ ?_; clear hK K) | refine ⟨by (first | trivial | assumption | omega | (intros; first | assumption | omega)), ?_⟩ | (apply v_condb; (focus (simp only [pvT, rats_length, List.length_map, eq_self, decide_true, not_true_eq_false, not_false_eq_true, decide_false, hab, v1, v2, go_sem]; first | exact pvt | exact pvf)); simp only [cond_true, cond_false]) | fail))
        refine v_loop [3, 5, 7, 58, 59] (fun n : Nat => n ≤ N) (fun n => N - n) (fun n => [.ptr 102 3 0 0, .ptr 103 2 0 0, .slc 3 (rats l), .int .i64 N, .int .i64 n])
          (fun n => [(102, .row 25 3 [pvT t]), (103, .row 26 2 [.agg [.int .i64 a, .int .i64 b]])]) 0 (Nat.zero_le _) ?_ ?_
        · exact (fits_sto _ (fun x => if x = 102 then 1000 else if x = 103 then 1001 else x) (by simp [Env.get, PV.renL, PV.ren , pvT, hN]) (by simp [PV.refsL, PV.refs , pvT, hN]) (by simp [SC.live, SC.ren, SC.refs, PV.renL, PV.ren, PV.refsL, PV.refs, sto_cons, sto_nil , pvT, hN]) (by simp []))
        · intro n hnN
          simp only [List.zip_cons_cons, List.zip_nil_left]
          by_cases hc : n < N
          · have w1 : (n : Int) < N := by omega
            have w2 : (0 : Int) ≤ n := by omega
            have w3 : IntKind.i64.wrap ((n : Int) + 1) = ((n + 1 : Nat) : Int) := by rw [wrap_i64 (by omega) (by omega)]; omega
            have hi0 := int_int 0 (by decide)
            have hcn := hcons n
            have hgsb : ∀ k, (gs (fun b => if t.tail b = (n : Int) then S b else 0) k : Nat) ≤ k * D ∧ (gs (fun b => if t.head b = (n : Int) then S b else 0) k : Nat) ≤ k * D := fun k =>
              ⟨gs_bound (fun b => by split; exact hS b; exact Nat.zero_le _) k, gs_bound (fun b => by split; exact hS b; exact Nat.zero_le _) k⟩
            (repeat (first | refine Stp.go ?_ | refine v_region ?_ | refine v_regionD ?_ | refine v_blocky (by decide) ?_ | ((first | refine v_o rfl ?_ ?_ | refine v_oD rfl ?_ ?_); (focus (simp only [pvT, rats_length, w1, go_sem]; done)); simp only [Env.put]) | ((first | refine v_u rfl fun K hK => ?_ | refine v_g rfl fun K hK => ?_ | refine v_uD rfl fun K hK => ?_ | refine v_gD rfl fun K hK => ?_); simp only [pvT, rats_length, w1, go_sem]) | ((refine callK_pure (fun hc => hi0) rfl ?_; simp only [upds, eq_self, true_or, true_and])) | refine v_end ?_ | refine v_endD (by kernel_rfl) ?_ | (refine hK _ _ ?_; clear hK K) | refine ⟨by (first | trivial | assumption | omega | (intros; first | assumption | omega)), ?_⟩ | (apply v_condb; (focus (simp only [pvT, rats_length, w1, go_sem]; first | exact pvt | exact pvf)); simp only [cond_true, cond_false]) | fail))
            refine v_loop [3, 5, 7, 58, 59, 11, 12, 63, 64, 65] (fun k : Nat => k ≤ M) (fun k => M - k)
              (fun k => [.ptr 102 3 0 0, .ptr 103 2 0 0, .slc 3 (rats l), .int .i64 N, .int .i64 n, .int .i64 n, .ptr 104 3 0 0, .slc 3 (rats l), .int .i64 l.length, .int .i64 k])
              (fun k => [(102, .row 25 3 [pvT t]), (103, .row 26 2 [.agg [.int .i64 a, .int .i64 b]]), (104, .row 51 3 [.agg [.bool (os (some (mkRat (sumO t n S k) D))), on (some (mkRat (sumO t n S k) D)), ol (some (mkRat (sumO t n S k) D))]])]) 0 (Nat.zero_le _) ?_ ?_
            · have e0 : mkRat (sumO t n S 0) D = ((0 : Int) : Rat) := q_int0 rfl
              exact (fits_sto _ (fun x => if x = 104 then 20001 else x) (by simp [Env.get, PV.renL, PV.ren , pvT, e0, ren_on, ren_ol, refs_on, refs_ol]) (by simp [PV.refsL, PV.refs , pvT, e0, ren_on, ren_ol, refs_on, refs_ol]) (by simp [SC.live, SC.ren, SC.refs, PV.renL, PV.ren, PV.refsL, PV.refs, sto_cons, sto_nil , pvT, e0, ren_on, ren_ol, refs_on, refs_ol]) (by simp []))
            · intro k hk
              simp only [List.zip_cons_cons, List.zip_nil_left]
              by_cases hck : k < M
              · have z1 : (k : Int) < l.length := by omega
                have z2 : (0 : Int) ≤ k := by omega
                have z3 : IntKind.i64.wrap ((k : Int) + 1) = ((k + 1 : Nat) : Int) := by rw [wrap_i64 (by omega) (by omega)]; omega
                have u4 := rats_get (l := l) (j := k) (by omega)
                have hx := hsh k hck
                have harc : t.arc k := ⟨by omega, by omega⟩
                have htl := rtail_good t k ht harc
                have hhd := rhead_good t k ht harc
                have htne := t.tail_ne ht harc
                have hsucc := sumO_succ t n S k
                obtain ⟨g1, g2⟩ := hgsb k
                have hk48 : k * D ≤ 48 * 6561 := Nat.mul_le_mul (by omega) hD6
                have hq1 := q_num hD (sumO t n S k)
                have hq2 := q_den hD (sumO t n S k)
                have hq3 := q_num hD (S k : Int)
                have hq4 := q_den hD (S k : Int)
                have hq5 := q_sign hD (a := (S k : Int)) (by omega)
                have hSk := hS k
                have hqn : (sumO t n S k).natAbs ≤ 1000000 := by unfold sumO; omega
                have ok1 : Rt.ok (mkRat (sumO t n S k) D) := rt_le (by omega)
                generalize l.getD k none = so at *
                have ok2 : Rt.ok (ratO so) := by rw [hx]; rw [Int.natAbs_natCast] at hq3; exact rt_le (by omega)
                have ok3 : (mkRat (sumO t n S k) D).den * (ratO so).den < 4294967296 := by
                  rw [hx]
                  exact Nat.lt_of_le_of_lt (Nat.mul_le_mul (Nat.le_trans hq2 hD6) (Nat.le_trans hq4 hD6)) (by decide)
                have hsg := sign_so so
                have hadd := add_so _ so ok1 ok2 ok3
                have hsub := sub_so _ so ok1 ok2 ok3
                have cS : ¬ (ratO so).num.sign < 0 := by
                  rw [hx]
                  have := Int.sign_nonneg_iff.2 hq5
                  omega
                rw [hx, q_add hD] at hadd
                rw [hx, q_sub hD] at hsub
                have r1 : PV.refsL [PV.agg [.bool (os so), on so, ol so]] = [] := by simp [PV.refsL, PV.refs, refs_on, refs_ol]
                have r2 : PV.refsL [PV.agg [.bool (os (some (mkRat (sumO t n S k) D))), on (some (mkRat (sumO t n S k) D)), ol (some (mkRat (sumO t n S k) D))], PV.agg [.bool (os so), on so, ol so]] = [] := by simp [PV.refsL, PV.refs, refs_on, refs_ol]
                generalize (ratO so).num.sign = sgv at *
                by_cases hT : t.tail k = n
                · have hH : ¬ t.head k = n := fun e => htne (by rw [hT, e])
                  rw [if_pos hT, if_neg hH, Int.sub_zero] at hsucc
                  have hq : mkRat (sumO t n S (k + 1)) D = mkRat (sumO t n S k + S k) D := by rw [hsucc]
                  have cT : (t.tail k = (n : Int)) = True := eq_true hT
                  have cH : (t.head k = (n : Int)) = False := eq_false hH
                  generalize mkRat (sumO t n S k + S k) D = qa at *
                  generalize mkRat (sumO t n S k - S k) D = qs at *
                  generalize mkRat (sumO t n S k) D = q at *
                  (repeat (first | refine Stp.go ?_ | refine v_region ?_ | refine v_regionD ?_ | refine v_blocky (by decide) ?_ | ((first | refine v_o rfl ?_ ?_ | refine v_oD rfl ?_ ?_); (focus (simp only [pvT, rats_length, eq_self, decide_true, not_true_eq_false, decide_false, z1, z2, z3, u4, cS, cT, cH, go_sem]; done)); simp only [Env.put]) | ((first | refine v_u rfl fun K hK => ?_ | refine v_g rfl fun K hK => ?_ | refine v_uD rfl fun K hK => ?_ | refine v_gD rfl fun K hK => ?_); simp only [pvT, rats_length, eq_self, decide_true, not_true_eq_false, decide_false, z1, z2, z3, u4, cS, cT, cH, go_sem]) | (first | (refine callK_pure (fun hc => htl) rfl ?_; simp only [upds, eq_self, true_or, true_and]) | (refine callK_pure (fun hc => hhd) rfl ?_; simp only [upds, eq_self, true_or, true_and]) | (refine callK_pure (fun hc => hsg) r1 ?_; simp only [upds, eq_self, true_or, true_and]) | (refine callK_pure (fun hc => hadd) r2 ?_; simp only [upds, eq_self, true_or, true_and]) | (refine callK_pure (fun hc => hsub) r2 ?_; simp only [upds, eq_self, true_or, true_and])) | refine v_end ?_ | refine v_endD (by kernel_rfl) ?_ | (refine hK _ _ ?_; clear hK K) | refine ⟨by (first | trivial | assumption | omega | (intros; first | assumption | omega)), ?_⟩ | (apply v_condb; (focus (simp only [pvT, rats_length, eq_self, decide_true, not_true_eq_false, decide_false, z1, z2, z3, u4, cS, cT, cH, go_sem]; first | exact pvt | exact pvf)); simp only [cond_true, cond_false]) | fail))
                  refine v_round (k + 1) (by omega) (by omega) (fits_sto _ id (by simp [Env.get, PV.renL, PV.ren , pvT, hq, ren_on, ren_ol, refs_on, refs_ol]) (by simp [PV.refsL, PV.refs , pvT, hq, ren_on, ren_ol, refs_on, refs_ol]) (by simp [SC.live, SC.ren, SC.refs, PV.renL, PV.ren, PV.refsL, PV.refs, sto_cons, sto_nil , pvT, hq, ren_on, ren_ol, refs_on, refs_ol]) (by simp []))
                · rw [if_neg hT] at hsucc
                  have cT : (t.tail k = (n : Int)) = False := eq_false hT
                  by_cases hH : t.head k = n
                  · rw [if_pos hH, Int.add_zero] at hsucc
                    have hq : mkRat (sumO t n S (k + 1)) D = mkRat (sumO t n S k - S k) D := by rw [hsucc]
                    have cH : (t.head k = (n : Int)) = True := eq_true hH
                    generalize mkRat (sumO t n S k + S k) D = qa at *
                    generalize mkRat (sumO t n S k - S k) D = qs at *
                    generalize mkRat (sumO t n S k) D = q at *
                    (repeat (first | refine Stp.go ?_ | refine v_region ?_ | refine v_regionD ?_ | refine v_blocky (by decide) ?_ | ((first | refine v_o rfl ?_ ?_ | refine v_oD rfl ?_ ?_); (focus (simp only [pvT, rats_length, eq_self, decide_true, not_true_eq_false, decide_false, z1, z2, z3, u4, cS, cT, cH, go_sem]; done)); simp only [Env.put]) | ((first | refine v_u rfl fun K hK => ?_ | refine v_g rfl fun K hK => ?_ | refine v_uD rfl fun K hK => ?_ | refine v_gD rfl fun K hK => ?_); simp only [pvT, rats_length, eq_self, decide_true, not_true_eq_false, decide_false, z1, z2, z3, u4, cS, cT, cH, go_sem]) | (first | (refine callK_pure (fun hc => htl) rfl ?_; simp only [upds, eq_self, true_or, true_and]) | (refine callK_pure (fun hc => hhd) rfl ?_; simp only [upds, eq_self, true_or, true_and]) | (refine callK_pure (fun hc => hsg) r1 ?_; simp only [upds, eq_self, true_or, true_and]) | (refine callK_pure (fun hc => hadd) r2 ?_; simp only [upds, eq_self, true_or, true_and]) | (refine callK_pure (fun hc => hsub) r2 ?_; simp only [upds, eq_self, true_or, true_and])) | refine v_end ?_ | refine v_endD (by kernel_rfl) ?_ | (refine hK _ _ ?_; clear hK K) | refine ⟨by (first | trivial | assumption | omega | (intros; first | assumption | omega)), ?_⟩ | (apply v_condb; (focus (simp only [pvT, rats_length, eq_self, decide_true, not_true_eq_false, decide_false, z1, z2, z3, u4, cS, cT, cH, go_sem]; first | exact pvt | exact pvf)); simp only [cond_true, cond_false]) | fail))
                    refine v_round (k + 1) (by omega) (by omega) (fits_sto _ id (by simp [Env.get, PV.renL, PV.ren , pvT, hq, ren_on, ren_ol, refs_on, refs_ol]) (by simp [PV.refsL, PV.refs , pvT, hq, ren_on, ren_ol, refs_on, refs_ol]) (by simp [SC.live, SC.ren, SC.refs, PV.renL, PV.ren, PV.refsL, PV.refs, sto_cons, sto_nil , pvT, hq, ren_on, ren_ol, refs_on, refs_ol]) (by simp []))
                  · rw [if_neg hH, Int.add_zero, Int.sub_zero] at hsucc
                    have hq : mkRat (sumO t n S (k + 1)) D = mkRat (sumO t n S k) D := by rw [hsucc]
                    have cH : (t.head k = (n : Int)) = False := eq_false hH
                    generalize mkRat (sumO t n S k + S k) D = qa at *
                    generalize mkRat (sumO t n S k - S k) D = qs at *
                    generalize mkRat (sumO t n S k) D = q at *
                    (repeat (first | refine Stp.go ?_ | refine v_region ?_ | refine v_regionD ?_ | refine v_blocky (by decide) ?_ | ((first | refine v_o rfl ?_ ?_ | refine v_oD rfl ?_ ?_); (focus (simp only [pvT, rats_length, eq_self, decide_true, not_true_eq_false, decide_false, z1, z2, z3, u4, cS, cT, cH, go_sem]; done)); simp only [Env.put]) | ((first | refine v_u rfl fun K hK => ?_ | refine v_g rfl fun K hK => ?_ | refine v_uD rfl fun K hK => ?_ | refine v_gD rfl fun K hK => ?_); simp only [pvT, rats_length, eq_self, decide_true, not_true_eq_false, decide_false, z1, z2, z3, u4, cS, cT, cH, go_sem]) | (first | (refine callK_pure (fun hc => htl) rfl ?_; simp only [upds, eq_self, true_or, true_and]) | (refine callK_pure (fun hc => hhd) rfl ?_; simp only [upds, eq_self, true_or, true_and]) | (refine callK_pure (fun hc => hsg) r1 ?_; simp only [upds, eq_self, true_or, true_and]) | (refine callK_pure (fun hc => hadd) r2 ?_; simp only [upds, eq_self, true_or, true_and]) | (refine callK_pure (fun hc => hsub) r2 ?_; simp only [upds, eq_self, true_or, true_and])) | refine v_end ?_ | refine v_endD (by kernel_rfl) ?_ | (refine hK _ _ ?_; clear hK K) | refine ⟨by (first | trivial | assumption | omega | (intros; first | assumption | omega)), ?_⟩ | (apply v_condb; (focus (simp only [pvT, rats_length, eq_self, decide_true, not_true_eq_false, decide_false, z1, z2, z3, u4, cS, cT, cH, go_sem]; first | exact pvt | exact pvf)); simp only [cond_true, cond_false]) | fail))
                    refine v_round (k + 1) (by omega) (by omega) (fits_sto _ id (by simp [Env.get, PV.renL, PV.ren , pvT, hq, ren_on, ren_ol, refs_on, refs_ol]) (by simp [PV.refsL, PV.refs , pvT, hq, ren_on, ren_ol, refs_on, refs_ol]) (by simp [SC.live, SC.ren, SC.refs, PV.renL, PV.ren, PV.refsL, PV.refs, sto_cons, sto_nil , pvT, hq, ren_on, ren_ol, refs_on, refs_ol]) (by simp []))
              · have z1 : ¬ (k : Int) < l.length := by omega
                have hkM : k = M := by omega
                subst hkM
                have hso : sumO t n S k = (outN t S n : Int) - (inN t S n : Int) := by unfold sumO outN inN; rw [hM]
                by_cases hA : (n : Int) = a
                · have hB : ¬ (n : Int) = b := fun e => hab (by rw [← hA, e])
                  rw [if_neg hB, if_pos hA] at hcn
                  have cA : ((n : Int) = a) = True := eq_true hA
                  have cB : ((n : Int) = b) = False := eq_false hB
                  have hqe := q_int1 hD (z := sumO t n S k) (by omega)
                  rw [hqe]
                  have hcm := cmp_int 1 (by decide)
                  have hin := int_int 1 (by decide)
                  have r3 : PV.refsL [PV.agg [.bool (os (some ((1 : Int) : Rat))), on (some ((1 : Int) : Rat)), ol (some ((1 : Int) : Rat))], PV.agg [.bool (os (some ((1 : Int) : Rat))), on (some ((1 : Int) : Rat)), ol (some ((1 : Int) : Rat))]] = [] := rfl
                  (repeat (first | refine Stp.go ?_ | refine v_region ?_ | refine v_regionD ?_ | refine v_blocky (by decide) ?_ | ((first | refine v_o rfl ?_ ?_ | refine v_oD rfl ?_ ?_); (focus (simp only [pvT, rats_length, eq_self, decide_true, not_true_eq_false, decide_false, z1, w1, w3, cA, cB, go_sem]; done)); simp only [Env.put]) | ((first | refine v_u rfl fun K hK => ?_ | refine v_g rfl fun K hK => ?_ | refine v_uD rfl fun K hK => ?_ | refine v_gD rfl fun K hK => ?_); simp only [pvT, rats_length, eq_self, decide_true, not_true_eq_false, decide_false, z1, w1, w3, cA, cB, go_sem]) | (first | refine v_loopx ?_ | (refine callK_pure (fun hc => hin) rfl ?_; simp only [upds, eq_self, true_or, true_and]) | (refine callK_pure (fun hc => hcm) r3 ?_; simp only [upds, eq_self, true_or, true_and])) | refine v_end ?_ | refine v_endD (by kernel_rfl) ?_ | (refine hK _ _ ?_; clear hK K) | refine ⟨by (first | trivial | assumption | omega | (intros; first | assumption | omega)), ?_⟩ | (apply v_condb; (focus (simp only [pvT, rats_length, eq_self, decide_true, not_true_eq_false, decide_false, z1, w1, w3, cA, cB, go_sem]; first | exact pvt | exact pvf)); simp only [cond_true, cond_false]) | fail))
                  refine v_round (n + 1) hc (by omega) (fits_sto _ id (by simp [Env.get, PV.renL, PV.ren , pvT]) (by simp [PV.refsL, PV.refs , pvT]) (by simp [SC.live, SC.ren, SC.refs, PV.renL, PV.ren, PV.refsL, PV.refs, sto_cons, sto_nil , pvT]) (by simp []))
                · have cA : ((n : Int) = a) = False := eq_false hA
                  rw [if_neg hA] at hcn
                  by_cases hB : (n : Int) = b
                  · rw [if_pos hB] at hcn
                    have cB : ((n : Int) = b) = True := eq_true hB
                    have hqe := q_intm hD (z := sumO t n S k) (by omega)
                    rw [hqe]
                    have hcm := cmp_int (-1) (by decide)
                    have hin := int_int (-1) (by decide)
                    have r3 : PV.refsL [PV.agg [.bool (os (some (((-1) : Int) : Rat))), on (some (((-1) : Int) : Rat)), ol (some (((-1) : Int) : Rat))], PV.agg [.bool (os (some (((-1) : Int) : Rat))), on (some (((-1) : Int) : Rat)), ol (some (((-1) : Int) : Rat))]] = [] := rfl
                    (repeat (first | refine Stp.go ?_ | refine v_region ?_ | refine v_regionD ?_ | refine v_blocky (by decide) ?_ | ((first | refine v_o rfl ?_ ?_ | refine v_oD rfl ?_ ?_); (focus (simp only [pvT, rats_length, eq_self, decide_true, not_true_eq_false, decide_false, z1, w1, w3, cA, cB, go_sem]; done)); simp only [Env.put]) | ((first | refine v_u rfl fun K hK => ?_ | refine v_g rfl fun K hK => ?_ | refine v_uD rfl fun K hK => ?_ | refine v_gD rfl fun K hK => ?_); simp only [pvT, rats_length, eq_self, decide_true, not_true_eq_false, decide_false, z1, w1, w3, cA, cB, go_sem]) | (first | refine v_loopx ?_ | (refine callK_pure (fun hc => hin) rfl ?_; simp only [upds, eq_self, true_or, true_and]) | (refine callK_pure (fun hc => hcm) r3 ?_; simp only [upds, eq_self, true_or, true_and])) | refine v_end ?_ | refine v_endD (by kernel_rfl) ?_ | (refine hK _ _ ?_; clear hK K) | refine ⟨by (first | trivial | assumption | omega | (intros; first | assumption | omega)), ?_⟩ | (apply v_condb; (focus (simp only [pvT, rats_length, eq_self, decide_true, not_true_eq_false, decide_false, z1, w1, w3, cA, cB, go_sem]; first | exact pvt | exact pvf)); simp only [cond_true, cond_false]) | fail))
                    refine v_round (n + 1) hc (by omega) (fits_sto _ id (by simp [Env.get, PV.renL, PV.ren , pvT]) (by simp [PV.refsL, PV.refs , pvT]) (by simp [SC.live, SC.ren, SC.refs, PV.renL, PV.ren, PV.refsL, PV.refs, sto_cons, sto_nil , pvT]) (by simp []))
                  · rw [if_neg hB] at hcn
                    have cB : ((n : Int) = b) = False := eq_false hB
                    have hqe := q_int0 (D := D) (z := sumO t n S k) (by omega)
                    rw [hqe]
                    have hcm := cmp_int 0 (by decide)
                    have hin := int_int 0 (by decide)
                    have r3 : PV.refsL [PV.agg [.bool (os (some ((0 : Int) : Rat))), on (some ((0 : Int) : Rat)), ol (some ((0 : Int) : Rat))], PV.agg [.bool (os (some ((0 : Int) : Rat))), on (some ((0 : Int) : Rat)), ol (some ((0 : Int) : Rat))]] = [] := rfl
                    (repeat (first | refine Stp.go ?_ | refine v_region ?_ | refine v_regionD ?_ | refine v_blocky (by decide) ?_ | ((first | refine v_o rfl ?_ ?_ | refine v_oD rfl ?_ ?_); (focus (simp only [pvT, rats_length, eq_self, decide_true, not_true_eq_false, decide_false, z1, w1, w3, cA, cB, go_sem]; done)); simp only [Env.put]) | ((first | refine v_u rfl fun K hK => ?_ | refine v_g rfl fun K hK => ?_ | refine v_uD rfl fun K hK => ?_ | refine v_gD rfl fun K hK => ?_); simp only [pvT, rats_length, eq_self, decide_true, not_true_eq_false, decide_false, z1, w1, w3, cA, cB, go_sem]) | (first | refine v_loopx ?_ | (refine callK_pure (fun hc => hin) rfl ?_; simp only [upds, eq_self, true_or, true_and]) | (refine callK_pure (fun hc => hcm) r3 ?_; simp only [upds, eq_self, true_or, true_and])) | refine v_end ?_ | refine v_endD (by kernel_rfl) ?_ | (refine hK _ _ ?_; clear hK K) | refine ⟨by (first | trivial | assumption | omega | (intros; first | assumption | omega)), ?_⟩ | (apply v_condb; (focus (simp only [pvT, rats_length, eq_self, decide_true, not_true_eq_false, decide_false, z1, w1, w3, cA, cB, go_sem]; first | exact pvt | exact pvf)); simp only [cond_true, cond_false]) | fail))
                    refine v_round (n + 1) hc (by omega) (fits_sto _ id (by simp [Env.get, PV.renL, PV.ren , pvT]) (by simp [PV.refsL, PV.refs , pvT]) (by simp [SC.live, SC.ren, SC.refs, PV.renL, PV.ren, PV.refsL, PV.refs, sto_cons, sto_nil , pvT]) (by simp []))
          · have w1 : ¬ (n : Int) < N := by omega
            (repeat (first | refine Stp.go ?_ | refine v_region ?_ | refine v_regionD ?_ | refine v_blocky (by decide) ?_ | ((first | refine v_o rfl ?_ ?_ | refine v_oD rfl ?_ ?_); (focus (simp only [pvT, rats_length, w1, go_sem]; done)); simp only [Env.put]) | ((first | refine v_u rfl fun K hK => ?_ | refine v_g rfl fun K hK => ?_ | refine v_uD rfl fun K hK => ?_ | refine v_gD rfl fun K hK => ?_); simp only [pvT, rats_length, w1, go_sem]) | (refine v_loopx ?_) | refine v_end ?_ | refine v_endD (by kernel_rfl) ?_ | (refine hK _ _ ?_; clear hK K) | refine ⟨by (first | trivial | assumption | omega | (intros; first | assumption | omega)), ?_⟩ | (apply v_condb; (focus (simp only [pvT, rats_length, w1, go_sem]; first | exact pvt | exact pvf)); simp only [cond_true, cond_false]) | fail))
            (first | refine v_fin_n ?_ | refine v_fin_r ?_); simp only [ resK, one, PV.snap, go_sem]
            exact .refl _
end Go.V
