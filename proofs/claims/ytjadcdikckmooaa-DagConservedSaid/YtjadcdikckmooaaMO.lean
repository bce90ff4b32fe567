import Derived.Test.YtjadcdikckmooaaMN
/- A part of a proof, with no condition of its own. Merged texts: N5 N6 N7 N8. -/
/- Layer 1: division by one digit. -/
set_option linter.unusedVariables false
set_option linter.unusedSimpArgs false
namespace Go.V
open Go.RowKit Go.Proofs
attribute [local irreducible] wp seqK lexK opK callK upd sto Good GoodR

theorem u64_or0 {a b : Nat} (ha : a < 18446744073709551616) (hb : b < 18446744073709551616) : IntKind.u64.wrap ((BitVec.ofInt 64 (a : Int) ||| BitVec.ofInt 64 (b : Int)).toNat : Int) = ((a ||| b : Nat) : Int) := by
  have e : (BitVec.ofInt 64 (a : Int) ||| BitVec.ofInt 64 (b : Int)).toNat = a ||| b := by
    simp [BitVec.toNat_or, BitVec.toNat_ofNat, Nat.mod_eq_of_lt ha, Nat.mod_eq_of_lt hb]
  have h : a ||| b < 2 ^ 64 := Nat.or_lt_two_pow (by omega) (by omega)
  rw [e]; exact wrap_u64 (by omega) (by omega)
/-- A high and a low digit. -/
theorem or_hi_lo {a b : Nat} (ha : a < 4294967296) (hb : b < 4294967296) : intOp .or .u64 ((a * 4294967296 : Nat) : Int) (b : Int) = .int .u64 ((a * 4294967296 + b : Nat) : Int) := by
  have h := u64_or0 (a := a * 4294967296) (b := b) (by omega) (by omega)
  have e : a * 4294967296 ||| b = a * 4294967296 + b := by
    have h1 := Nat.shiftLeft_add_eq_or_of_lt (b := b) (i := 32) (by omega) a
    simpa [Nat.shiftLeft_eq] using h1.symm
  rw [e] at h
  show PV.int .u64 (IntKind.u64.wrap ((BitVec.ofInt 64 ((a * 4294967296 : Nat) : Int) ||| BitVec.ofInt 64 (b : Int)).toNat : Int)) = _
  rw [h]
theorem tdiv_nat (a b : Nat) : (a : Int).tdiv b = ((a / b : Nat) : Int) := rfl
theorem tmod_nat (a b : Nat) : (a : Int).tmod b = ((a % b : Nat) : Int) := rfl

theorem div32_good (hi lo y : Nat) (hy : y < 4294967296) (hh : hi < y) (hl : lo < 4294967296) :
    Good Try.prog 103 [.int .u32 hi, .int .u32 lo, .int .u32 y] (.tup [.int .u32 ((hi * 4294967296 + lo) / y : Nat), .int .u32 ((hi * 4294967296 + lo) % y : Nat)]) := by
  refine v_enter ttok mixed Try.func103 (by kernel_rfl) rfl Try.ntmps103 Try.results103 (by simp) ?_; rw [fresh_sto]; simp only [argEnv, List.range, List.range.loop, List.length_cons, List.length_nil, List.zip_cons_cons, List.zip_nil_left]
  have w1 : ¬ (y : Int) = 0 := by omega
  have w2 : ¬ (y : Int) ≤ hi := by omega
  have e1 : IntKind.u64.wrap (hi : Int) = (hi : Int) := wrap_u64 (by omega) (by omega)
  have e2 : IntKind.u64.wrap (lo : Int) = (lo : Int) := wrap_u64 (by omega) (by omega)
  have e3 : IntKind.u64.wrap (y : Int) = (y : Int) := wrap_u64 (by omega) (by omega)
  have e4 : (2 : Int) ^ (min 32 64 : Nat) = 4294967296 := by decide
  have e5 : IntKind.u64.wrap ((hi : Int) * 4294967296) = ((hi * 4294967296 : Nat) : Int) := by rw [wrap_u64 (by omega) (by omega)]; omega
  have e6 := or_hi_lo (a := hi) (b := lo) (by omega) hl
  have hX : hi * 4294967296 + lo < y * 4294967296 := by
    have : hi * 4294967296 + 4294967296 ≤ y * 4294967296 := by
      rw [show hi * 4294967296 + 4294967296 = (hi + 1) * 4294967296 by omega]
      exact Nat.mul_le_mul_right _ hh
    omega
  have hq : (hi * 4294967296 + lo) / y < 4294967296 := Nat.div_lt_of_lt_mul hX
  have hr : (hi * 4294967296 + lo) % y < y := Nat.mod_lt _ (by omega)
  have e7 := tdiv_nat (hi * 4294967296 + lo) y
  have e8 := tmod_nat (hi * 4294967296 + lo) y
  generalize (hi * 4294967296 + lo) / y = q at *
  generalize (hi * 4294967296 + lo) % y = r at *
  generalize hi * 4294967296 + lo = X at *
  have e9 : IntKind.u64.wrap (q : Int) = (q : Int) := wrap_u64 (by omega) (by omega)
  have e10 : IntKind.u32.wrap (q : Int) = (q : Int) := wrap_u32 (by omega) (by omega)
  have e11 : IntKind.u32.wrap (r : Int) = (r : Int) := wrap_u32 (by omega) (by omega)
  (repeat (first | refine Stp.go ?_ | refine v_region ?_ | refine v_regionD ?_ | refine v_blocky (by decide) ?_ | ((first | refine v_o rfl ?_ ?_ | refine v_oD rfl ?_ ?_); (focus (simp only [w1, w2, e1, e2, e3, e4, e5, e6, e7, e8, e9, e10, e11, go_sem]; done)); simp only [Env.put]) | ((first | refine v_u rfl fun K hK => ?_ | refine v_g rfl fun K hK => ?_ | refine v_uD rfl fun K hK => ?_ | refine v_gD rfl fun K hK => ?_); simp only [w1, w2, e1, e2, e3, e4, e5, e6, e7, e8, e9, e10, e11, go_sem]) | (fail) | refine v_end ?_ | refine v_endD (by kernel_rfl) ?_ | (refine hK _ _ ?_; clear hK K) | refine ⟨by (first | trivial | assumption | omega | (intros; first | assumption | omega)), ?_⟩ | (apply v_condb; (focus (simp only [w1, w2, e1, e2, e3, e4, e5, e6, e7, e8, e9, e10, e11, go_sem]; first | exact pvt | exact pvf)); simp only [cond_true, cond_false]) | fail))
  (first | refine v_fin_n ?_ | refine v_fin_r ?_); simp only [ resK, one, PV.snap, go_sem]
  exact Wk.refl _

structure ShortI (l : List Nat) (y : Nat) (o : List Nat) (r k : Nat) : Prop where
  kl : k ≤ l.length
  len : o.length = l.length
  dig : Nt.Dig o
  low : ∀ j, j < k → o.getD j 0 = 0
  quo : Nt.lv (o.drop k) = Nt.lv (l.drop k) / y
  rest : r = Nt.lv (l.drop k) % y
theorem ShortI.step {l o : List Nat} {y r j : Nat} (h : ShortI l y o r (j + 1)) (hy : 0 < y) (hyb : y < 4294967296) (hl : Nt.Dig l) : r < y ∧ ShortI l y (o.set j ((r * 4294967296 + l.getD j 0) / y)) ((r * 4294967296 + l.getD j 0) % y) j := by
  have hr : r < y := by rw [h.rest]; exact Nat.mod_lt _ hy
  have hj := h.kl
  have hjo : j < o.length := by rw [h.len]; omega
  have hjl : j < l.length := by omega
  have e1 : l.getD j 0 = l[j] := by rw [List.getD_eq_getElem?_getD, List.getElem?_eq_getElem hjl]; rfl
  have hx := hl.getD j
  have hq : (r * 4294967296 + l.getD j 0) / y < 4294967296 := by
    refine Nat.div_lt_of_lt_mul ?_
    have : r * 4294967296 + 4294967296 ≤ y * 4294967296 := by
      rw [show r * 4294967296 + 4294967296 = (r + 1) * 4294967296 by omega]
      exact Nat.mul_le_mul_right _ hr
    omega
  have hdl : Nt.lv (l.drop j) = l.getD j 0 + 4294967296 * Nt.lv (l.drop (j + 1)) := by rw [List.drop_eq_getElem_cons (by omega), Nt.lv, e1]
  have hH := Nat.mod_add_div (Nt.lv (l.drop (j + 1))) y
  rw [← h.rest] at hH
  have hsplit : Nt.lv (l.drop j) = (r * 4294967296 + l.getD j 0) + y * (4294967296 * (Nt.lv (l.drop (j + 1)) / y)) := by
    rw [hdl]
    have : y * (4294967296 * (Nt.lv (l.drop (j + 1)) / y)) = 4294967296 * (y * (Nt.lv (l.drop (j + 1)) / y)) := by rw [← Nat.mul_assoc, Nat.mul_comm y 4294967296, Nat.mul_assoc]
    rw [this]
    generalize y * (Nt.lv (l.drop (j + 1)) / y) = z at *
    omega
  refine ⟨hr, by omega, by simpa using h.len, h.dig.set _ hq, fun i hi => ?_, ?_, ?_⟩
  · rw [Heap.getD_set _ _ _ _ _ hjo, if_neg (by omega)]; exact h.low i (by omega)
  · have e2 : (o.set j ((r * 4294967296 + l.getD j 0) / y)).drop j = (r * 4294967296 + l.getD j 0) / y :: o.drop (j + 1) := by
      rw [List.drop_eq_getElem_cons (by simpa using hjo), List.getElem_set_self, List.drop_set_of_lt (by omega)]
    rw [e2, Nt.lv, h.quo, hsplit, Nat.add_mul_div_left _ _ hy]
  · rw [hsplit, Nat.add_mul_mod_self_left]

set_option maxHeartbeats 2000000 in
theorem short_good (l : List Nat) (y : Nat) (hl : Nt.Dig l) (hy : 0 < y) (hyb : y < 4294967296) (hL : l.length ≤ 549755813888) :
    GoodR Try.prog 88 [.slc 1 (u32s l), .int .u32 y] (sto []) fun r g => ∃ o, Nt.Dig o ∧ o.length = l.length ∧ Nt.lv o = Nt.lv l / y ∧
      r = .tup [.sref 101 1 0 l.length false, .int .u32 (Nt.lv l % y : Nat)] ∧ g = sto [(101, .row 105 1 (u32s o))] := by
  refine v_enterR ttok mixed Try.func88 (by kernel_rfl) rfl Try.ntmps88 Try.results88 (by simp) ?_; simp only [argEnv, List.range, List.range.loop, List.length_cons, List.length_nil, List.zip_cons_cons, List.zip_nil_left]
  have w2 : (0 : Int) ≤ l.length := by omega
  have w3 : l.length * 4 ≤ 140737488355328 := by omega
  have w4 : (l.length : Int) ≤ 140737488355328 := by omega
  have w5 : (l.length : Int) ≤ l.length := by omega
  have w6 : IntKind.i64.wrap ((l.length : Int) - 1) = (l.length : Int) - 1 := wrap_i64 (by omega) (by omega)
  (repeat (first | refine Stp.go ?_ | refine v_region ?_ | refine v_regionD ?_ | refine v_blocky (by decide) ?_ | ((first | refine v_o rfl ?_ ?_ | refine v_oD rfl ?_ ?_); (focus (simp only [u32s_length, w2, w3, w4, w5, w6, zeros_u32s, go_sem]; done)); simp only [Env.put]) | ((first | refine v_u rfl fun K hK => ?_ | refine v_g rfl fun K hK => ?_ | refine v_uD rfl fun K hK => ?_ | refine v_gD rfl fun K hK => ?_); simp only [u32s_length, w2, w3, w4, w5, w6, zeros_u32s, go_sem]) | (fail) | refine v_end ?_ | refine v_endD (by kernel_rfl) ?_ | (refine hK _ _ ?_; clear hK K) | refine ⟨by (first | trivial | assumption | omega | (intros; first | assumption | omega)), ?_⟩ | (apply v_condb; (focus (simp only [u32s_length, w2, w3, w4, w5, w6, zeros_u32s, go_sem]; first | exact pvt | exact pvf)); simp only [cond_true, cond_false]) | fail))
  refine v_loop [0, 1, 6, 7, 8] (fun s : Nat × List Nat × Nat => ShortI l y s.2.1 s.2.2 s.1) (fun s => s.1) (fun s => [.slc 1 (u32s l), .int .u32 y, .sref 101 1 0 l.length false, .int .u32 s.2.2, .int .i64 ((s.1 : Int) - 1)])
    (fun s => [(101, .row 105 1 (u32s s.2.1))]) (l.length, List.replicate l.length 0, 0) ⟨Nat.le_refl _, by simp, fun x hx => by rw [(List.mem_replicate.1 hx).2]; decide, fun j h => by simp [List.getD, List.getElem?_replicate, h], by simp [Nt.lv], by simp [Nt.lv]⟩ ?_ ?_
  · exact (fits_sto _ (fun x => if x = 101 then 2002 else x) (by simp [Env.get, PV.renL, PV.ren , renL_u32s, refsL_u32s]) (by simp [PV.refsL, PV.refs , renL_u32s, refsL_u32s]) (by simp [SC.live, SC.ren, SC.refs, PV.renL, PV.ren, PV.refsL, PV.refs, sto_cons, sto_nil , renL_u32s, refsL_u32s]) (by simp ))
  · rintro ⟨k, o, r⟩ h
    simp only at h
    simp only [List.zip_cons_cons, List.zip_nil_left]
    have hol := h.len
    cases k with
    | zero =>
      have z1 : ¬ (0 : Int) ≤ ((0 : Nat) : Int) - 1 := by omega
      have hq := h.quo
      have hr := h.rest
      rw [List.drop_zero, List.drop_zero] at hq
      rw [List.drop_zero] at hr
      (repeat (first | refine Stp.go ?_ | refine v_region ?_ | refine v_regionD ?_ | refine v_blocky (by decide) ?_ | ((first | refine v_o rfl ?_ ?_ | refine v_oD rfl ?_ ?_); (focus (simp only [z1, go_sem]; done)); simp only [Env.put]) | ((first | refine v_u rfl fun K hK => ?_ | refine v_g rfl fun K hK => ?_ | refine v_uD rfl fun K hK => ?_ | refine v_gD rfl fun K hK => ?_); simp only [z1, go_sem]) | (refine v_loopx ?_) | refine v_end ?_ | refine v_endD (by kernel_rfl) ?_ | (refine hK _ _ ?_; clear hK K) | refine ⟨by (first | trivial | assumption | omega | (intros; first | assumption | omega)), ?_⟩ | (apply v_condb; (focus (simp only [z1, go_sem]; first | exact pvt | exact pvf)); simp only [cond_true, cond_false]) | fail))
      (first | refine v_finR_n ?_ | refine v_finR_r ?_); simp only [ resK, go_sem]
      refine finR_sto (id) (.tup [.sref 101 1 0 l.length false, .int .u32 r]) ([(101, .row 105 1 (u32s o))]) (⟨o, h.dig, hol, hq, by rw [hr], rfl⟩) (by simp [one, PV.ren, PV.renL , renL_u32s, refsL_u32s]) (by simp [PV.refs, PV.refsL , renL_u32s, refsL_u32s]) (by simp [SC.live, SC.ren, SC.refs, PV.renL, PV.ren, PV.refsL, PV.refs, sto_cons, sto_nil, renL_ints, refsL_ints, renL_nats, refsL_nats, List.length_set , renL_u32s, refsL_u32s]) (by simp )
    | succ j =>
      have hk := h.kl
      obtain ⟨hr, hstep⟩ := h.step hy hyb hl
      have z0 : ((j + 1 : Nat) : Int) - 1 = (j : Int) := by omega
      rw [z0]
      have z1 : (0 : Int) ≤ (j : Int) := by omega
      have z2 : (j : Int) < l.length := by omega
      have z4 : IntKind.i64.wrap ((j : Int) - 1) = (j : Int) - 1 := wrap_i64 (by omega) (by omega)
      have jl : j < l.length := by omega
      have jo : j < o.length := by omega
      have g1 := u32s_get jl
      have g2 := u32s_get jo
      have hx := hl.getD j
      have g3 := div32_good r (l.getD j 0) y hyb hr hx
      generalize l.getD j 0 = x at *
      (repeat (first | refine Stp.go ?_ | refine v_region ?_ | refine v_regionD ?_ | refine v_blocky (by decide) ?_ | ((first | refine v_o rfl ?_ ?_ | refine v_oD rfl ?_ ?_); (focus (simp only [u32s_length, u32s_set, z1, z2, z4, g1, g2, jo, go_sem]; done)); simp only [Env.put]) | ((first | refine v_u rfl fun K hK => ?_ | refine v_g rfl fun K hK => ?_ | refine v_uD rfl fun K hK => ?_ | refine v_gD rfl fun K hK => ?_); simp only [u32s_length, u32s_set, z1, z2, z4, g1, g2, jo, go_sem]) | ((refine callK_pure (fun hc => g3) rfl ?_; simp only [upds, eq_self, true_or, true_and])) | refine v_end ?_ | refine v_endD (by kernel_rfl) ?_ | (refine hK _ _ ?_; clear hK K) | refine ⟨by (first | trivial | assumption | omega | (intros; first | assumption | omega)), ?_⟩ | (apply v_condb; (focus (simp only [u32s_length, u32s_set, z1, z2, z4, g1, g2, jo, go_sem]; first | exact pvt | exact pvf)); simp only [cond_true, cond_false]) | fail))
      exact v_round (j, o.set j ((r * 4294967296 + x) / y), (r * 4294967296 + x) % y) hstep (by simp only; omega) (fits_sto _ id (by simp [Env.get, PV.renL, PV.ren , renL_u32s, refsL_u32s]) (by simp [PV.refsL, PV.refs , renL_u32s, refsL_u32s]) (by simp [SC.live, SC.ren, SC.refs, PV.renL, PV.ren, PV.refsL, PV.refs, sto_cons, sto_nil , renL_u32s, refsL_u32s]) (by simp ))
end Go.V
/- Layer 1: quotient and remainder, for a divisor of one digit. -/
set_option linter.unusedVariables false
set_option linter.unusedSimpArgs false
namespace Go.V
open Go.RowKit Go.Proofs
theorem GoodR.mono {P : Program} {k : FuncId} {a : List PV} {g0 : Store} {Q Q' : PV → Store → Prop} (h : GoodR P k a g0 Q) (hq : ∀ r g, Q r g → Q' r g) : GoodR P k a g0 Q' :=
  ⟨h.1, fun w X B μ vs x y z => (h.2 w X B μ vs x y z).mono (by rintro e w' ⟨v, p, g1, μ1, he, hQ, rest⟩; exact ⟨v, p, g1, μ1, he, hq _ _ hQ, rest⟩)⟩
attribute [local irreducible] wp seqK lexK opK callK upd sto Good GoodR

/-- The lowest k digits of a number. -/
def Nt.digs : Nat → Nat → List Nat
  | _, 0 => []
  | n, k + 1 => n % 4294967296 :: digs (n / 4294967296) k
theorem Nt.digs_length : ∀ n k, (Nt.digs n k).length = k
  | _, 0 => rfl
  | n, k + 1 => by rw [Nt.digs, List.length_cons, Nt.digs_length]
theorem Nt.digs_dig : ∀ n k, Nt.Dig (Nt.digs n k)
  | _, 0 => fun x h => by cases h
  | n, k + 1 => fun x h => by
    rw [Nt.digs, List.mem_cons] at h
    rcases h with rfl | h
    · exact Nat.mod_lt _ (by decide)
    · exact Nt.digs_dig _ _ x h
theorem Nt.digs_lv : ∀ l, Nt.Dig l → Nt.digs (Nt.lv l) l.length = l
  | [], _ => rfl
  | x :: l, h => by
    have hx : x < 4294967296 := h x (by simp)
    have ih := Nt.digs_lv l (fun y hy => h y (by simp [hy]))
    rw [List.length_cons, Nt.digs, Nt.lv]
    have e1 : (x + 4294967296 * Nt.lv l) % 4294967296 = x := by omega
    have e2 : (x + 4294967296 * Nt.lv l) / 4294967296 = Nt.lv l := by omega
    rw [e1, e2, ih]
theorem Nt.lv_digs {n k : Nat} (h : n < 4294967296 ^ k) : Nt.lv (Nt.digs n k) = n := by
  induction k generalizing n with
  | zero => simp at h; subst h; rfl
  | succ k ih =>
    rw [Nt.digs, Nt.lv, ih (by rw [Nat.pow_succ] at h; exact Nat.div_lt_of_lt_mul (by rwa [Nat.mul_comm] at h))]
    omega

theorem shortF_good (l : List Nat) (y : Nat) (hl : Nt.Dig l) (hy : 0 < y) (hyb : y < 4294967296) (hL : l.length ≤ 549755813888) :
    GoodF Try.prog 88 [.slc 1 (u32s l), .int .u32 y] (fun id => .tup [.sref id 1 0 l.length false, .int .u32 (Nt.lv l % y : Nat)]) 105 1 (u32s (Nt.digs (Nt.lv l / y) l.length)) := by
  refine goodF_of_R ((short_good l y hl hy hyb hL).mono ?_) (refsL_u32s _) (fun id => by simp [PV.ren, PV.renL]) (fun id h => by simpa [PV.refs, PV.refsL] using h)
  rintro r g ⟨o, ho, hlen, hv, rfl, rfl⟩
  refine ⟨rfl, ?_⟩
  rw [← hv, ← hlen, Nt.digs_lv o ho]

/-- What DivMod returns. -/
def divR (a b : Nat) : PV := if b = 0 then .tup [pvN 0, pvN 0, .int .i64 10] else .tup [pvN (a / b), pvN (a % b), .int .i64 0]
theorem Wk.three {p q r p' q' r' : PV} (h : Wk p p') (h' : Wk q q') (h2 : Wk r r') : Wk (.tup [p, q, r]) (.tup [p', q', r']) := .tup rfl fun j => by
  match j with
  | 0 => rintro _ _ ⟨⟩ ⟨⟩; exact h
  | 1 => rintro _ _ ⟨⟩ ⟨⟩; exact h'
  | 2 => rintro _ _ ⟨⟩ ⟨⟩; exact h2
  | j + 3 => rintro _ _ h; simp at h
theorem wk_n0 : Wk (.agg [.nilS]) (pvN 0) := Wk.agg rfl fun j p q hp hq => by
  cases j <;> simp at hp hq
  subst hp hq
  rw [Nt.limbs_zero]; exact Wk.nil 1
theorem limbs_one {b : Nat} (h : b ≠ 0) (hb : b < 4294967296) : Nt.limbs b = [b] := by
  rw [Nt.limbs_pos h, Nat.mod_eq_of_lt hb, Nat.div_eq_of_lt hb, Nt.limbs_zero]

set_option maxHeartbeats 2000000 in
theorem divmod_good (a b : Nat) (ha : (Nt.limbs a).length ≤ 274877906944) (hb : b < 4294967296) : Good Try.prog 73 [pvN a, pvN b] (divR a b) := by
  have h0 := iszero_good b
  have hlb : (Nt.limbs b).length ≤ 549755813888 := Nat.le_trans (Nt.limbs_length_le (k := 1) (by simpa using hb)) (by decide)
  have hcmp := cmp_good a b (by omega) hlb
  refine v_enter ttok mixed Try.func73 (by kernel_rfl) rfl Try.ntmps73 Try.results73 (by simp) ?_; rw [fresh_sto]; simp only [argEnv, List.range, List.range.loop, List.length_cons, List.length_nil, List.zip_cons_cons, List.zip_nil_left]
  unfold divR
  by_cases c0 : b = 0
  · rw [if_pos c0]
    have d0 : decide (b = 0) = true := decide_eq_true c0
    rw [d0] at h0
    unfold pvN at h0
    (repeat (first | refine Stp.go ?_ | refine v_region ?_ | refine v_regionD ?_ | refine v_blocky (by decide) ?_ | ((first | refine v_o rfl ?_ ?_ | refine v_oD rfl ?_ ?_); (focus (simp only [pvN, u32s_length, go_sem]; done)); simp only [Env.put]) | ((first | refine v_u rfl fun K hK => ?_ | refine v_g rfl fun K hK => ?_ | refine v_uD rfl fun K hK => ?_ | refine v_gD rfl fun K hK => ?_); simp only [pvN, u32s_length, go_sem]) | ((refine callK_pure (fun hc => h0) rfl ?_; simp only [upds, eq_self, true_or, true_and])) | refine v_end ?_ | refine v_endD (by kernel_rfl) ?_ | (refine hK _ _ ?_; clear hK K) | refine ⟨by (first | trivial | assumption | omega | (intros; first | assumption | omega)), ?_⟩ | (apply v_condb; (focus (simp only [pvN, u32s_length, go_sem]; first | exact pvt | exact pvf)); simp only [cond_true, cond_false]) | fail))
    (first | refine v_fin_n ?_ | refine v_fin_r ?_); simp only [ resK, one, PV.snap, go_sem]
    refine Wk.three wk_n0 wk_n0 (.refl _)
  · rw [if_neg c0]
    have d0 : decide (b = 0) = false := decide_eq_false c0
    rw [d0] at h0
    by_cases c1 : a < b
    · have e : cmpN a b = -1 := by simp [cmpN, c1]
      rw [e] at hcmp
      unfold pvN at h0 hcmp
      (repeat (first | refine Stp.go ?_ | refine v_region ?_ | refine v_regionD ?_ | refine v_blocky (by decide) ?_ | ((first | refine v_o rfl ?_ ?_ | refine v_oD rfl ?_ ?_); (focus (simp only [pvN, u32s_length, go_sem]; done)); simp only [Env.put]) | ((first | refine v_u rfl fun K hK => ?_ | refine v_g rfl fun K hK => ?_ | refine v_uD rfl fun K hK => ?_ | refine v_gD rfl fun K hK => ?_); simp only [pvN, u32s_length, go_sem]) | (first | (refine callK_pure (fun hc => h0) rfl ?_; simp only [upds, eq_self, true_or, true_and]) | (refine callK_pure (fun hc => hcmp) rfl ?_; simp only [upds, eq_self, true_or, true_and])) | refine v_end ?_ | refine v_endD (by kernel_rfl) ?_ | (refine hK _ _ ?_; clear hK K) | refine ⟨by (first | trivial | assumption | omega | (intros; first | assumption | omega)), ?_⟩ | (apply v_condb; (focus (simp only [pvN, u32s_length, go_sem]; first | exact pvt | exact pvf)); simp only [cond_true, cond_false]) | fail))
      (first | refine v_fin_n ?_ | refine v_fin_r ?_); simp only [ resK, one, PV.snap, go_sem]
      have e1 : a / b = 0 := Nat.div_eq_of_lt c1
      have e2 : a % b = a := Nat.mod_eq_of_lt c1
      rw [e1, e2]
      refine Wk.three wk_n0 ?_ (.refl _)
      show Wk _ (PV.agg [PV.slc 1 (u32s (Nt.limbs a))])
      exact .refl _
    · have e : ¬ cmpN a b < 0 := by unfold cmpN; rw [if_neg c1]; split <;> omega
      have hs := shortF_good (Nt.limbs a) b (Nt.limbs_dig a) (by omega) hb (by omega)
      have hlo := limbs_one c0 hb
      rw [Nt.lv_limbs] at hs
      generalize cmpN a b = cv at *
      unfold pvN at h0 hcmp ⊢
      rw [hlo] at h0 hcmp ⊢
      have hd := Nt.digs_dig (a / b) (Nt.limbs a).length
      have hlen := Nt.digs_length (a / b) (Nt.limbs a).length
      have hv := Nt.lv_digs (n := a / b) (k := (Nt.limbs a).length) (Nat.lt_of_le_of_lt (Nat.div_le_self a b) (Nt.lt_limbs a))
      generalize Nt.digs (a / b) (Nt.limbs a).length = q at *
      have hr := Nat.mod_lt a (Nat.pos_of_ne_zero c0)
      have hdr : Nt.Dig [a % b] := fun x hx => by simp only [List.mem_cons, List.not_mem_nil, or_false] at hx; subst hx; omega
      have hvr : Nt.lv [a % b] = a % b := by simp [Nt.lv]
      have n1 := norm_good q hd (by omega)
      have n2 := norm_good [a % b] hdr (by simp)
      have tq := (Nt.take_limbs hd).2
      have tr := (Nt.take_limbs hdr).2
      rw [hv] at n1 tq
      rw [hvr] at n2 tr
      generalize Nt.limbs a = la at *
      rw [← hlen] at hs
      have g1 : (u32s [b]).getD 0 .undef = .int .u32 (b : Int) := rfl
      have g2 : ((1 : Nat) : Int) = 1 := rfl
      have hone : u32s [a % b] = [.int .u32 ((a % b : Nat) : Int)] := rfl
      have mk1 := True.intro
      have mk2 := True.intro
      (repeat (first | refine Stp.go ?_ | refine v_region ?_ | refine v_regionD ?_ | refine v_blocky (by decide) ?_ | (first | (clear mk1; refine v_callR (by simp [dstOk]) rfl ?_; simp only [List.map_cons, List.map_nil, List.nil_append, List.append_nil, List.cons_append, Env.eval, Env.get, reduceIte, Nat.reduceEqDiff, List.toList_toArray, PV.ofConst]; refine callR_sto ([.sref 1 1 0 q.length false]) ([(1, .row 105 1 (u32s q))]) ((fun x => if x = 1 then 7006 else x)) (n1) (by simp [PV.renL, PV.ren , renL_u32s, refsL_u32s]) (by simp [PV.refsL, PV.refs , renL_u32s, refsL_u32s]) (by simp [SC.live, SC.ren, SC.refs, PV.renL, PV.ren, PV.refsL, PV.refs, sto_cons, sto_nil, renL_ints, refsL_ints, renL_nats, refsL_nats, List.length_set , renL_u32s, refsL_u32s]) (by simp [id_eq , renL_u32s, refsL_u32s]) ?_; rintro _ _ ⟨rfl, rfl⟩; refine ⟨[(1, .row 105 1 (u32s q))], (fun x => if x = 1 then 7006 else x), rfl, (by simp [SC.live, SC.ren, SC.refs, PV.renL, PV.ren, PV.refsL, PV.refs, sto_cons, sto_nil, renL_ints, refsL_ints, renL_nats, refsL_nats, List.length_set , renL_u32s, refsL_u32s]), (by simp [PV.refsL, PV.refs , renL_u32s, refsL_u32s]), (by simp [Free, sto_cons, sto_nil , renL_u32s, refsL_u32s]), (by simp [id_eq , renL_u32s, refsL_u32s]), ?_⟩; simp only [backL, List.map_cons, List.map_nil, List.cons_append, List.nil_append, SC.ren, PV.renL, PV.ren, renL_ints, renL_nats, id_eq, Env.put , renL_u32s, refsL_u32s]) | (clear mk2; refine v_callR (by simp [dstOk]) rfl ?_; simp only [List.map_cons, List.map_nil, List.nil_append, List.append_nil, List.cons_append, Env.eval, Env.get, reduceIte, Nat.reduceEqDiff, List.toList_toArray, PV.ofConst]; refine callR_sto ([.sref 1 1 0 1 false]) ([(1, .row 105 1 (u32s [a % b]))]) ((fun x => if x = 1 then 8003 else x)) (n2) (by simp [PV.renL, PV.ren , hone, renL_u32s, refsL_u32s]) (by simp [PV.refsL, PV.refs , hone, renL_u32s, refsL_u32s]) (by simp [SC.live, SC.ren, SC.refs, PV.renL, PV.ren, PV.refsL, PV.refs, sto_cons, sto_nil, renL_ints, refsL_ints, renL_nats, refsL_nats, List.length_set , hone, renL_u32s, refsL_u32s]) (by simp [id_eq , hone, renL_u32s, refsL_u32s]) ?_; rintro _ _ ⟨rfl, rfl⟩; refine ⟨[(1, .row 105 1 (u32s [a % b]))], (fun x => if x = 1 then 8003 else x), rfl, (by simp [SC.live, SC.ren, SC.refs, PV.renL, PV.ren, PV.refsL, PV.refs, sto_cons, sto_nil, renL_ints, refsL_ints, renL_nats, refsL_nats, List.length_set , hone, renL_u32s, refsL_u32s]), (by simp [PV.refsL, PV.refs , hone, renL_u32s, refsL_u32s]), (by simp [Free, sto_cons, sto_nil , hone, renL_u32s, refsL_u32s]), (by simp [id_eq , hone, renL_u32s, refsL_u32s]), ?_⟩; simp only [backL, List.map_cons, List.map_nil, List.cons_append, List.nil_append, SC.ren, PV.renL, PV.ren, renL_ints, renL_nats, id_eq, Env.put , hone, renL_u32s, refsL_u32s])) | ((first | refine v_o rfl ?_ ?_ | refine v_oD rfl ?_ ?_); (focus (simp only [u32s_length, e, hlo, g1, g2, go_sem]; done)); simp only [Env.put]) | ((first | refine v_u rfl fun K hK => ?_ | refine v_g rfl fun K hK => ?_ | refine v_uD rfl fun K hK => ?_ | refine v_gD rfl fun K hK => ?_); simp only [u32s_length, e, hlo, g1, g2, go_sem]) | (first | (refine callK_pure (fun hc => h0) rfl ?_; simp only [upds, eq_self, true_or, true_and]) | (refine callK_pure (fun hc => hcmp) rfl ?_; simp only [upds, eq_self, true_or, true_and]) | (refine callK_made hs (by simp [Free, sto_cons, sto_nil]) ?_; simp only [upds, upd_sto, eq_self, true_or, true_and])) | refine v_end ?_ | refine v_endD (by kernel_rfl) ?_ | (refine hK _ _ ?_; clear hK K) | refine ⟨by (first | trivial | assumption | omega | (intros; first | assumption | omega)), ?_⟩ | (apply v_condb; (focus (simp only [u32s_length, e, hlo, g1, g2, go_sem]; first | exact pvt | exact pvf)); simp only [cond_true, cond_false]) | fail))
      have tr1 : (Nt.limbs (a % b)).length ≤ 1 := tr
      (first | refine v_fin_n ?_ | refine v_fin_r ?_); simp only [tq, tr1, u32s_length, List.drop_zero, resK, one, PV.snap, go_sem]
      exact Wk.three (wk_norm4 hd hv) (wk_norm4 (l := [a % b]) hdr hvr) (.refl _)

theorem gcd_step (x y : Nat) (h : y ≠ 0) : Nat.gcd x y = Nat.gcd y (x % y) := by
  rw [Nat.gcd_comm x y, Nat.gcd_rec y x, Nat.gcd_comm]

structure GcdI (a b : Nat) (s : Nat × Nat) : Prop where
  g : Nat.gcd s.1 s.2 = Nat.gcd a b
  x : (Nt.limbs s.1).length ≤ 274877906944
  y : s.2 < 4294967296
theorem limbs_small {y : Nat} (h : y < 4294967296) : (Nt.limbs y).length ≤ 1 := Nt.limbs_length_le (k := 1) (by simpa using h)

set_option maxHeartbeats 2000000 in
theorem gcd_good (a b : Nat) (ha : (Nt.limbs a).length ≤ 274877906944) (hb : b < 4294967296) : Good Try.prog 72 [pvN a, pvN b] (pvN (Nat.gcd a b)) := by
  refine v_enter ttok mixed Try.func72 (by kernel_rfl) rfl Try.ntmps72 Try.results72 (by simp) ?_; rw [fresh_sto]; simp only [argEnv, List.range, List.range.loop, List.length_cons, List.length_nil, List.zip_cons_cons, List.zip_nil_left]
  (repeat (first | refine Stp.go ?_ | refine v_region ?_ | refine v_regionD ?_ | refine v_blocky (by decide) ?_ | ((first | refine v_o rfl ?_ ?_ | refine v_oD rfl ?_ ?_); (focus (simp only [ go_sem]; done)); simp only [Env.put]) | ((first | refine v_u rfl fun K hK => ?_ | refine v_g rfl fun K hK => ?_ | refine v_uD rfl fun K hK => ?_ | refine v_gD rfl fun K hK => ?_); simp only [ go_sem]) | (fail) | refine v_end ?_ | refine v_endD (by kernel_rfl) ?_ | (refine hK _ _ ?_; clear hK K) | refine ⟨by (first | trivial | assumption | omega | (intros; first | assumption | omega)), ?_⟩ | (apply v_condb; (focus (simp only [ go_sem]; first | exact pvt | exact pvf)); simp only [cond_true, cond_false]) | fail))
  refine v_loop [2, 3, 4] (fun s : Nat × Nat => GcdI a b s) (fun s => s.2) (fun s => [.ptr 102 1 0 0, .ptr 103 1 0 0, .ptr 104 1 0 0])
    (fun s => [(102, .row 49 1 [pvN s.1]), (103, .row 49 1 [pvN s.2]), (104, .row 49 1 [.agg [.nilS]])]) (a, b) ⟨rfl, ha, hb⟩ ?_ ?_
  · exact (fits_sto _ (fun x => if x = 102 then 1000 else if x = 103 then 1001 else if x = 104 then 1002 else x) (by simp [Env.get, PV.renL, PV.ren , pvN, renL_u32s, refsL_u32s]) (by simp [PV.refsL, PV.refs , pvN, renL_u32s, refsL_u32s]) (by simp [SC.live, SC.ren, SC.refs, PV.renL, PV.ren, PV.refsL, PV.refs, sto_cons, sto_nil , pvN, renL_u32s, refsL_u32s]) (by simp ))
  · rintro ⟨x, y⟩ ⟨h1, h2, h3⟩
    simp only at h1 h2 h3
    simp only [List.zip_cons_cons, List.zip_nil_left]
    have h0 := iszero_good y
    by_cases c : y = 0
    · have d0 : decide (y = 0) = true := decide_eq_true c
      rw [d0] at h0
      (repeat (first | refine Stp.go ?_ | refine v_region ?_ | refine v_regionD ?_ | refine v_blocky (by decide) ?_ | ((first | refine v_o rfl ?_ ?_ | refine v_oD rfl ?_ ?_); (focus (simp only [ go_sem]; done)); simp only [Env.put]) | ((first | refine v_u rfl fun K hK => ?_ | refine v_g rfl fun K hK => ?_ | refine v_uD rfl fun K hK => ?_ | refine v_gD rfl fun K hK => ?_); simp only [ go_sem]) | (first | (refine callK_pure (fun hc => h0) rfl ?_; simp only [upds, eq_self, true_or, true_and]) | refine v_loopx ?_) | refine v_end ?_ | refine v_endD (by kernel_rfl) ?_ | (refine hK _ _ ?_; clear hK K) | refine ⟨by (first | trivial | assumption | omega | (intros; first | assumption | omega)), ?_⟩ | (apply v_condb; (focus (simp only [ go_sem]; first | exact pvt | exact pvf)); simp only [cond_true, cond_false]) | fail))
      (first | refine v_fin_n ?_ | refine v_fin_r ?_); simp only [ resK, one, PV.snap, go_sem]
      rw [c, Nat.gcd_zero_right] at h1
      rw [← h1]
      exact .refl _
    · have d0 : decide (y = 0) = false := decide_eq_false c
      rw [d0] at h0
      have hd := divmod_good x y h2 h3
      unfold divR at hd
      rw [if_neg c] at hd
      have hm := Nat.mod_lt x (Nat.pos_of_ne_zero c)
      (repeat (first | refine Stp.go ?_ | refine v_region ?_ | refine v_regionD ?_ | refine v_blocky (by decide) ?_ | ((first | refine v_o rfl ?_ ?_ | refine v_oD rfl ?_ ?_); (focus (simp only [ go_sem]; done)); simp only [Env.put]) | ((first | refine v_u rfl fun K hK => ?_ | refine v_g rfl fun K hK => ?_ | refine v_uD rfl fun K hK => ?_ | refine v_gD rfl fun K hK => ?_); simp only [ go_sem]) | (first | (refine callK_pure (fun hc => h0) rfl ?_; simp only [upds, eq_self, true_or, true_and]) | (refine callK_pure (fun hc => hd) rfl ?_; simp only [upds, eq_self, true_or, true_and])) | refine v_end ?_ | refine v_endD (by kernel_rfl) ?_ | (refine hK _ _ ?_; clear hK K) | refine ⟨by (first | trivial | assumption | omega | (intros; first | assumption | omega)), ?_⟩ | (apply v_condb; (focus (simp only [ go_sem]; first | exact pvt | exact pvf)); simp only [cond_true, cond_false]) | fail))
      have hy1 := limbs_small h3
      exact v_round (y, x % y) ⟨by rw [← h1]; exact (gcd_step x y c).symm, by simp only; omega, by simp only; omega⟩ hm (fits_sto _ id (by simp [Env.get, PV.renL, PV.ren , pvN, renL_u32s, refsL_u32s]) (by simp [PV.refsL, PV.refs , pvN, renL_u32s, refsL_u32s]) (by simp [SC.live, SC.ren, SC.refs, PV.renL, PV.ren, PV.refsL, PV.refs, sto_cons, sto_nil , pvN, renL_u32s, refsL_u32s]) (by simp ))
end Go.V
/- Layer 2: rational numbers: quotients in lowest terms. -/
set_option linter.unusedVariables false
set_option linter.unusedSimpArgs false
namespace Go.V
open Go.RowKit Go.Proofs

theorem refs_pvN (n : Nat) : PV.refs (pvN n) = [] := by simp [pvN, PV.refs, PV.refsL, refsL_u32s]
theorem ren_pvN (f : Nat → Nat) (n : Nat) : PV.ren f (pvN n) = pvN n := PV.ren_none f _ (refs_pvN n)
/-- A rational number. -/
def nl (n : Nat) : PV := .slc 1 (u32s (Nt.limbs n))
theorem pvN_eq (n : Nat) : pvN n = .agg [nl n] := rfl
theorem refs_nl (n : Nat) : PV.refs (nl n) = [] := by simp [nl, PV.refs, PV.refsL, refsL_u32s]
theorem ren_nl (f : Nat → Nat) (n : Nat) : PV.ren f (nl n) = nl n := PV.ren_none f _ (refs_nl n)
theorem snap_nl (g : Store) (d : Nat) (n : Nat) : PV.snap g (d + 1) (nl n) = nl n := rfl
def pvQ (q : Rat) : PV := .agg [.bool (decide (q.num < 0)), nl q.num.natAbs, nl (q.den - 1)]
theorem refs_pvQ (q : Rat) : PV.refs (pvQ q) = [] := by simp [pvQ, PV.refs, PV.refsL, refs_nl]
theorem ren_pvQ (f : Nat → Nat) (q : Rat) : PV.ren f (pvQ q) = pvQ q := PV.ren_none f _ (refs_pvQ q)
/-- A number with a sign. -/
def sgz (neg : Bool) (n : Nat) : Int := if neg then -(n : Int) else n
theorem sgz_zero (neg : Bool) : sgz neg 0 = 0 := by cases neg <;> rfl
theorem sgz_natAbs (neg : Bool) (n : Nat) : (sgz neg n).natAbs = n := by cases neg <;> simp [sgz]
theorem sgz_of (z : Int) : sgz (decide (z < 0)) z.natAbs = z := by
  unfold sgz
  by_cases h : z < 0 <;> simp [h] <;> omega
theorem sgz_neg {neg : Bool} {n : Nat} (h : n ≠ 0) : decide (sgz neg n < 0) = neg := by
  cases neg <;> simp [sgz] <;> omega
theorem pvQ_zero : pvQ 0 = .agg [.bool false, nl 0, nl 0] := rfl
theorem mkRat_parts (neg : Bool) {n d : Nat} (hn : n ≠ 0) (hd : d ≠ 0) : pvQ (mkRat (sgz neg n) d) = .agg [.bool neg, nl (n / Nat.gcd n d), nl (d / Nat.gcd n d - 1)] := by
  have hg : 0 < Nat.gcd n d := Nat.gcd_pos_of_pos_left _ (Nat.pos_of_ne_zero hn)
  have hdv : Nat.gcd n d ∣ n := Nat.gcd_dvd_left ..
  have e1 : (mkRat (sgz neg n) d).num = sgz neg (n / Nat.gcd n d) := by
    rw [mkRat, dif_neg hd, Rat.normalize_eq]
    simp only [sgz_natAbs]
    cases neg with
    | false => simp [sgz]
    | true =>
      simp only [sgz, if_true]
      rw [Int.neg_ediv_of_dvd (Int.ofNat_dvd.2 hdv)]
      rfl
  have e2 : (mkRat (sgz neg n) d).den = d / Nat.gcd n d := by
    rw [mkRat, dif_neg hd, Rat.normalize_eq]
    simp only [sgz_natAbs]
  have h0 : n / Nat.gcd n d ≠ 0 := by
    have := Nat.div_pos (Nat.le_of_dvd (Nat.pos_of_ne_zero hn) hdv) hg
    omega
  unfold pvQ
  rw [e1, e2, sgz_natAbs, sgz_neg h0]

attribute [local irreducible] wp seqK lexK opK callK upd sto Good GoodR
theorem wk_nl0 : Wk .nilS (nl 0) := by unfold nl; rw [Nt.limbs_zero]; exact Wk.nil 1
theorem wk_q0 : Wk (.agg [.bool false, .nilS, .nilS]) (pvQ 0) := Wk.agg rfl fun j p q hp hq => by
  match j with
  | 0 => simp at hp hq; subst hp hq; exact .refl _
  | 1 => simp at hp hq; subst hp hq; exact wk_nl0
  | 2 => simp at hp hq; subst hp hq; exact wk_nl0
  | j + 3 => simp at hp

theorem one_good : Good Try.prog 52 [] (pvN 1) := by
  have h := of_good 1 (by decide)
  simp only [pvN_eq, pvQ] at *
  refine v_enter ttok mixed Try.func52 (by kernel_rfl) rfl Try.ntmps52 Try.results52 (by simp) ?_; rw [fresh_sto]; simp only [argEnv, List.range, List.range.loop, List.length_cons, List.length_nil, List.zip_cons_cons, List.zip_nil_left]
  (repeat (first | refine Stp.go ?_ | refine v_region ?_ | refine v_regionD ?_ | refine v_blocky (by decide) ?_ | ((first | refine v_o rfl ?_ ?_ | refine v_oD rfl ?_ ?_); (focus (simp only [ go_sem]; done)); simp only [Env.put]) | ((first | refine v_u rfl fun K hK => ?_ | refine v_g rfl fun K hK => ?_ | refine v_uD rfl fun K hK => ?_ | refine v_gD rfl fun K hK => ?_); simp only [ go_sem]) | ((refine callK_pure (fun hc => h) rfl ?_; simp only [upds, eq_self, true_or, true_and])) | refine v_end ?_ | refine v_endD (by kernel_rfl) ?_ | (refine hK _ _ ?_; clear hK K) | refine ⟨by (first | trivial | assumption | omega | (intros; first | assumption | omega)), ?_⟩ | (apply v_condb; (focus (simp only [ go_sem]; first | exact pvt | exact pvf)); simp only [cond_true, cond_false]) | fail))
  (first | refine v_fin_n ?_ | refine v_fin_r ?_); simp only [snap_nl, resK, one, PV.snap, go_sem]
  exact .refl _

theorem size_good (n : Int) (h : -9223372036854775808 ≤ n) (h' : n ≤ 9223372036854775807) : Good Try.prog 51 [.int .i64 n] (pvN n.natAbs) := by
  have hw : IntKind.u64.wrap n = n % 18446744073709551616 := by
    rw [IntKind.wrap]; rfl
  by_cases c : n < 0
  · have h1 := of_good n.natAbs (by omega)
    have e1 : IntKind.u64.wrap n = n + 18446744073709551616 := by rw [hw]; omega
    have e2 : IntKind.u64.wrap (0 - (n + 18446744073709551616)) = (n.natAbs : Int) := by
      show IntKind.u64.wrap _ = _
      rw [IntKind.wrap]
      show (0 - (n + 18446744073709551616)) % 18446744073709551616 = _
      omega
    simp only [pvN_eq, pvQ] at *
    refine v_enter ttok mixed Try.func51 (by kernel_rfl) rfl Try.ntmps51 Try.results51 (by simp) ?_; rw [fresh_sto]; simp only [argEnv, List.range, List.range.loop, List.length_cons, List.length_nil, List.zip_cons_cons, List.zip_nil_left]
    (repeat (first | refine Stp.go ?_ | refine v_region ?_ | refine v_regionD ?_ | refine v_blocky (by decide) ?_ | ((first | refine v_o rfl ?_ ?_ | refine v_oD rfl ?_ ?_); (focus (simp only [c, e1, e2, go_sem]; done)); simp only [Env.put]) | ((first | refine v_u rfl fun K hK => ?_ | refine v_g rfl fun K hK => ?_ | refine v_uD rfl fun K hK => ?_ | refine v_gD rfl fun K hK => ?_); simp only [c, e1, e2, go_sem]) | ((refine callK_pure (fun hc => h1) rfl ?_; simp only [upds, eq_self, true_or, true_and])) | refine v_end ?_ | refine v_endD (by kernel_rfl) ?_ | (refine hK _ _ ?_; clear hK K) | refine ⟨by (first | trivial | assumption | omega | (intros; first | assumption | omega)), ?_⟩ | (apply v_condb; (focus (simp only [c, e1, e2, go_sem]; first | exact pvt | exact pvf)); simp only [cond_true, cond_false]) | fail))
    (first | refine v_fin_n ?_ | refine v_fin_r ?_); simp only [snap_nl, resK, one, PV.snap, go_sem]
    exact .refl _
  · have h1 := of_good n.natAbs (by omega)
    have e1 : IntKind.u64.wrap n = (n.natAbs : Int) := by rw [hw]; omega
    simp only [pvN_eq, pvQ] at *
    refine v_enter ttok mixed Try.func51 (by kernel_rfl) rfl Try.ntmps51 Try.results51 (by simp) ?_; rw [fresh_sto]; simp only [argEnv, List.range, List.range.loop, List.length_cons, List.length_nil, List.zip_cons_cons, List.zip_nil_left]
    (repeat (first | refine Stp.go ?_ | refine v_region ?_ | refine v_regionD ?_ | refine v_blocky (by decide) ?_ | ((first | refine v_o rfl ?_ ?_ | refine v_oD rfl ?_ ?_); (focus (simp only [c, e1, go_sem]; done)); simp only [Env.put]) | ((first | refine v_u rfl fun K hK => ?_ | refine v_g rfl fun K hK => ?_ | refine v_uD rfl fun K hK => ?_ | refine v_gD rfl fun K hK => ?_); simp only [c, e1, go_sem]) | ((refine callK_pure (fun hc => h1) rfl ?_; simp only [upds, eq_self, true_or, true_and])) | refine v_end ?_ | refine v_endD (by kernel_rfl) ?_ | (refine hK _ _ ?_; clear hK K) | refine ⟨by (first | trivial | assumption | omega | (intros; first | assumption | omega)), ?_⟩ | (apply v_condb; (focus (simp only [c, e1, go_sem]; first | exact pvt | exact pvf)); simp only [cond_true, cond_false]) | fail))
    (first | refine v_fin_n ?_ | refine v_fin_r ?_); simp only [snap_nl, resK, one, PV.snap, go_sem]
    exact .refl _

set_option maxHeartbeats 2000000 in
theorem reduced_good (neg : Bool) (n d : Nat) (hn : (Nt.limbs n).length ≤ 274877906944) (hd : d < 4294967296) (hd0 : d ≠ 0) : Good Try.prog 50 [.bool neg, pvN n, pvN d] (pvQ (mkRat (sgz neg n) d)) := by
  have h0 := iszero_good n
  simp only [pvN_eq, pvQ] at *
  refine v_enter ttok mixed Try.func50 (by kernel_rfl) rfl Try.ntmps50 Try.results50 (by simp) ?_; rw [fresh_sto]; simp only [argEnv, List.range, List.range.loop, List.length_cons, List.length_nil, List.zip_cons_cons, List.zip_nil_left]
  by_cases c : n = 0
  · have d0 : decide (n = 0) = true := decide_eq_true c
    rw [d0] at h0
    (repeat (first | refine Stp.go ?_ | refine v_region ?_ | refine v_regionD ?_ | refine v_blocky (by decide) ?_ | ((first | refine v_o rfl ?_ ?_ | refine v_oD rfl ?_ ?_); (focus (simp only [ go_sem]; done)); simp only [Env.put]) | ((first | refine v_u rfl fun K hK => ?_ | refine v_g rfl fun K hK => ?_ | refine v_uD rfl fun K hK => ?_ | refine v_gD rfl fun K hK => ?_); simp only [ go_sem]) | ((refine callK_pure (fun hc => h0) rfl ?_; simp only [upds, eq_self, true_or, true_and])) | refine v_end ?_ | refine v_endD (by kernel_rfl) ?_ | (refine hK _ _ ?_; clear hK K) | refine ⟨by (first | trivial | assumption | omega | (intros; first | assumption | omega)), ?_⟩ | (apply v_condb; (focus (simp only [ go_sem]; first | exact pvt | exact pvf)); simp only [cond_true, cond_false]) | fail))
    (first | refine v_fin_n ?_ | refine v_fin_r ?_); simp only [ resK, one, PV.snap, go_sem]
    subst c
    rw [sgz_zero, Rat.zero_mkRat]
    exact wk_q0
  · have d0 : decide (n = 0) = false := decide_eq_false c
    rw [d0] at h0
    have mp := mkRat_parts neg c hd0
    unfold pvQ at mp
    rw [mp]
    clear mp
    have h1 := gcd_good n d hn hd
    have hg : 0 < Nat.gcd n d := Nat.gcd_pos_of_pos_left _ (Nat.pos_of_ne_zero c)
    have hgd : Nat.gcd n d ≤ d := Nat.gcd_le_right _ (Nat.pos_of_ne_zero hd0)
    have hdv : Nat.gcd n d ∣ d := Nat.gcd_dvd_right ..
    have h2 := divmod_good n (Nat.gcd n d) hn (by omega)
    have h3 := divmod_good d (Nat.gcd n d) (Nat.le_trans (limbs_small hd) (by decide)) (by omega)
    unfold divR at h2 h3
    rw [if_neg (by omega)] at h2 h3
    have hq0 : 0 < d / Nat.gcd n d := Nat.div_pos hgd hg
    have hq : d / Nat.gcd n d < 4294967296 := Nat.lt_of_le_of_lt (Nat.div_le_self ..) hd
    have h4 := one_good
    have h5 := sub_good (d / Nat.gcd n d) 1 (Nat.le_trans (limbs_small hq) (by decide)) (Nat.le_trans (limbs_small (y := 1) (by decide)) (by decide))
    unfold subR at h5
    rw [if_neg (by omega)] at h5
    generalize n / Nat.gcd n d = A at *
    generalize n % Nat.gcd n d = A' at *
    generalize d / Nat.gcd n d = D at *
    generalize d % Nat.gcd n d = D' at *
    generalize Nat.gcd n d = G at *
    simp only [pvN_eq] at *
    (repeat (first | refine Stp.go ?_ | refine v_region ?_ | refine v_regionD ?_ | refine v_blocky (by decide) ?_ | ((first | refine v_o rfl ?_ ?_ | refine v_oD rfl ?_ ?_); (focus (simp only [ go_sem]; done)); simp only [Env.put]) | ((first | refine v_u rfl fun K hK => ?_ | refine v_g rfl fun K hK => ?_ | refine v_uD rfl fun K hK => ?_ | refine v_gD rfl fun K hK => ?_); simp only [ go_sem]) | (first | (refine callK_pure (fun hc => h0) rfl ?_; simp only [upds, eq_self, true_or, true_and]) | (refine callK_pure (fun hc => h1) rfl ?_; simp only [upds, eq_self, true_or, true_and]) | (refine callK_pure (fun hc => h2) rfl ?_; simp only [upds, eq_self, true_or, true_and]) | (refine callK_pure (fun hc => h3) rfl ?_; simp only [upds, eq_self, true_or, true_and]) | (refine callK_pure (fun hc => h4) rfl ?_; simp only [upds, eq_self, true_or, true_and]) | (refine callK_pure (fun hc => h5) rfl ?_; simp only [upds, eq_self, true_or, true_and])) | refine v_end ?_ | refine v_endD (by kernel_rfl) ?_ | (refine hK _ _ ?_; clear hK K) | refine ⟨by (first | trivial | assumption | omega | (intros; first | assumption | omega)), ?_⟩ | (apply v_condb; (focus (simp only [ go_sem]; first | exact pvt | exact pvf)); simp only [cond_true, cond_false]) | fail))
    (first | refine v_fin_n ?_ | refine v_fin_r ?_); simp only [snap_nl, resK, one, PV.snap, go_sem]
    exact .refl _

/-- What Make returns. -/
def makeR (neg : Bool) (n d : Nat) : PV := if d = 0 then .tup [pvQ 0, .int .i64 10] else .tup [pvQ (mkRat (sgz neg n) d), .int .i64 0]
theorem make_good (neg : Bool) (n d : Nat) (hn : (Nt.limbs n).length ≤ 274877906944) (hd : d < 4294967296) : Good Try.prog 61 [.bool neg, pvN n, pvN d] (makeR neg n d) := by
  have h0 := iszero_good d
  simp only [pvN_eq, pvQ] at *
  refine v_enter ttok mixed Try.func61 (by kernel_rfl) rfl Try.ntmps61 Try.results61 (by simp) ?_; rw [fresh_sto]; simp only [argEnv, List.range, List.range.loop, List.length_cons, List.length_nil, List.zip_cons_cons, List.zip_nil_left]
  unfold makeR
  by_cases c : d = 0
  · rw [if_pos c]
    have d0 : decide (d = 0) = true := decide_eq_true c
    rw [d0] at h0
    (repeat (first | refine Stp.go ?_ | refine v_region ?_ | refine v_regionD ?_ | refine v_blocky (by decide) ?_ | ((first | refine v_o rfl ?_ ?_ | refine v_oD rfl ?_ ?_); (focus (simp only [ go_sem]; done)); simp only [Env.put]) | ((first | refine v_u rfl fun K hK => ?_ | refine v_g rfl fun K hK => ?_ | refine v_uD rfl fun K hK => ?_ | refine v_gD rfl fun K hK => ?_); simp only [ go_sem]) | ((refine callK_pure (fun hc => h0) rfl ?_; simp only [upds, eq_self, true_or, true_and])) | refine v_end ?_ | refine v_endD (by kernel_rfl) ?_ | (refine hK _ _ ?_; clear hK K) | refine ⟨by (first | trivial | assumption | omega | (intros; first | assumption | omega)), ?_⟩ | (apply v_condb; (focus (simp only [ go_sem]; first | exact pvt | exact pvf)); simp only [cond_true, cond_false]) | fail))
    (first | refine v_fin_n ?_ | refine v_fin_r ?_); simp only [ resK, one, PV.snap, go_sem]
    exact Wk.two wk_q0 (.refl _)
  · rw [if_neg c]
    have d0 : decide (d = 0) = false := decide_eq_false c
    rw [d0] at h0
    have h1 := reduced_good neg n d hn hd c
    generalize mkRat (sgz neg n) d = q at *
    simp only [pvN_eq, pvQ] at *
    (repeat (first | refine Stp.go ?_ | refine v_region ?_ | refine v_regionD ?_ | refine v_blocky (by decide) ?_ | ((first | refine v_o rfl ?_ ?_ | refine v_oD rfl ?_ ?_); (focus (simp only [ go_sem]; done)); simp only [Env.put]) | ((first | refine v_u rfl fun K hK => ?_ | refine v_g rfl fun K hK => ?_ | refine v_uD rfl fun K hK => ?_ | refine v_gD rfl fun K hK => ?_); simp only [ go_sem]) | (first | (refine callK_pure (fun hc => h0) rfl ?_; simp only [upds, eq_self, true_or, true_and]) | (refine callK_pure (fun hc => h1) rfl ?_; simp only [upds, eq_self, true_or, true_and])) | refine v_end ?_ | refine v_endD (by kernel_rfl) ?_ | (refine hK _ _ ?_; clear hK K) | refine ⟨by (first | trivial | assumption | omega | (intros; first | assumption | omega)), ?_⟩ | (apply v_condb; (focus (simp only [ go_sem]; first | exact pvt | exact pvf)); simp only [cond_true, cond_false]) | fail))
    (first | refine v_fin_n ?_ | refine v_fin_r ?_); simp only [snap_nl, resK, one, PV.snap, go_sem]
    exact .refl _

/-- What Of returns. -/
def ofR (n d : Int) : PV := if d = 0 then .tup [pvQ 0, .int .i64 10] else .tup [pvQ (Rat.divInt n d), .int .i64 0]
theorem divInt_sgz (n d : Int) (h : d ≠ 0) : Rat.divInt n d = mkRat (sgz (decide (n < 0) != decide (d < 0)) n.natAbs) d.natAbs := by
  rcases Int.lt_or_gt_of_ne h with c | c
  · obtain ⟨k, rfl⟩ : ∃ k : Nat, d = -(k : Int) := ⟨d.natAbs, by omega⟩
    rw [Rat.divInt_neg', Rat.divInt_ofNat]
    have e : (-(k : Int)).natAbs = k := by omega
    rw [e]
    congr 1
    unfold sgz
    by_cases hn : n < 0 <;> simp [hn, c] <;> omega
  · obtain ⟨k, rfl⟩ : ∃ k : Nat, d = (k : Int) := ⟨d.natAbs, by omega⟩
    rw [Rat.divInt_ofNat]
    have e : ((k : Int)).natAbs = k := by omega
    rw [e]
    congr 1
    have c' : ¬ (k : Int) < 0 := by omega
    unfold sgz
    by_cases hn : n < 0 <;> simp [hn, c'] <;> omega
theorem rof_good (n d : Int) (hn : -9223372036854775808 ≤ n) (hn' : n ≤ 9223372036854775807) (hd : d.natAbs < 4294967296) : Good Try.prog 37 [.int .i64 n, .int .i64 d] (ofR n d) := by
  have h1 := size_good n hn hn'
  have h2 := size_good d (by omega) (by omega)
  have hln : (Nt.limbs n.natAbs).length ≤ 274877906944 := Nat.le_trans (Nt.limbs_length_le (k := 2) (by omega)) (by decide)
  have h3 := make_good (decide (n < 0) != decide (d < 0)) n.natAbs d.natAbs hln hd
  have e : makeR (decide (n < 0) != decide (d < 0)) n.natAbs d.natAbs = ofR n d := by
    unfold makeR ofR
    by_cases c : d = 0
    · rw [if_pos c, if_pos (by omega)]
    · rw [if_neg c, if_neg (by omega), divInt_sgz n d c]
  rw [e] at h3
  unfold ofR at h3 ⊢
  simp only [pvN_eq, pvQ] at *
  refine v_enter ttok mixed Try.func37 (by kernel_rfl) rfl Try.ntmps37 Try.results37 (by simp) ?_; rw [fresh_sto]; simp only [argEnv, List.range, List.range.loop, List.length_cons, List.length_nil, List.zip_cons_cons, List.zip_nil_left]
  by_cases c : d = 0
  · rw [if_pos c] at h3 ⊢
    (repeat (first | refine Stp.go ?_ | refine v_region ?_ | refine v_regionD ?_ | refine v_blocky (by decide) ?_ | ((first | refine v_o rfl ?_ ?_ | refine v_oD rfl ?_ ?_); (focus (simp only [ go_sem]; done)); simp only [Env.put]) | ((first | refine v_u rfl fun K hK => ?_ | refine v_g rfl fun K hK => ?_ | refine v_uD rfl fun K hK => ?_ | refine v_gD rfl fun K hK => ?_); simp only [ go_sem]) | (first | (refine callK_pure (fun hc => h1) rfl ?_; simp only [upds, eq_self, true_or, true_and]) | (refine callK_pure (fun hc => h2) rfl ?_; simp only [upds, eq_self, true_or, true_and]) | (refine callK_pure (fun hc => h3) rfl ?_; simp only [upds, eq_self, true_or, true_and])) | refine v_end ?_ | refine v_endD (by kernel_rfl) ?_ | (refine hK _ _ ?_; clear hK K) | refine ⟨by (first | trivial | assumption | omega | (intros; first | assumption | omega)), ?_⟩ | (apply v_condb; (focus (simp only [ go_sem]; first | exact pvt | exact pvf)); simp only [cond_true, cond_false]) | fail))
    (first | refine v_fin_n ?_ | refine v_fin_r ?_); simp only [snap_nl, resK, one, PV.snap, go_sem]
    exact .refl _
  · rw [if_neg c] at h3 ⊢
    (repeat (first | refine Stp.go ?_ | refine v_region ?_ | refine v_regionD ?_ | refine v_blocky (by decide) ?_ | ((first | refine v_o rfl ?_ ?_ | refine v_oD rfl ?_ ?_); (focus (simp only [ go_sem]; done)); simp only [Env.put]) | ((first | refine v_u rfl fun K hK => ?_ | refine v_g rfl fun K hK => ?_ | refine v_uD rfl fun K hK => ?_ | refine v_gD rfl fun K hK => ?_); simp only [ go_sem]) | (first | (refine callK_pure (fun hc => h1) rfl ?_; simp only [upds, eq_self, true_or, true_and]) | (refine callK_pure (fun hc => h2) rfl ?_; simp only [upds, eq_self, true_or, true_and]) | (refine callK_pure (fun hc => h3) rfl ?_; simp only [upds, eq_self, true_or, true_and])) | refine v_end ?_ | refine v_endD (by kernel_rfl) ?_ | (refine hK _ _ ?_; clear hK K) | refine ⟨by (first | trivial | assumption | omega | (intros; first | assumption | omega)), ?_⟩ | (apply v_condb; (focus (simp only [ go_sem]; first | exact pvt | exact pvf)); simp only [cond_true, cond_false]) | fail))
    (first | refine v_fin_n ?_ | refine v_fin_r ?_); simp only [snap_nl, resK, one, PV.snap, go_sem]
    exact .refl _
theorem rint_good (n : Int) (h : -9223372036854775808 ≤ n) (h' : n ≤ 9223372036854775807) : Good Try.prog 28 [.int .i64 n] (pvQ (n : Rat)) := by
  have h1 := size_good n h h'
  have h2 := one_good
  have hln : (Nt.limbs n.natAbs).length ≤ 274877906944 := Nat.le_trans (Nt.limbs_length_le (k := 2) (by omega)) (by decide)
  have h3 := reduced_good (decide (n < 0)) n.natAbs 1 hln (by decide) (by decide)
  rw [sgz_of, Rat.mkRat_one] at h3
  simp only [pvN_eq, pvQ] at *
  refine v_enter ttok mixed Try.func28 (by kernel_rfl) rfl Try.ntmps28 Try.results28 (by simp) ?_; rw [fresh_sto]; simp only [argEnv, List.range, List.range.loop, List.length_cons, List.length_nil, List.zip_cons_cons, List.zip_nil_left]
  generalize (n : Rat) = q at *
  (repeat (first | refine Stp.go ?_ | refine v_region ?_ | refine v_regionD ?_ | refine v_blocky (by decide) ?_ | ((first | refine v_o rfl ?_ ?_ | refine v_oD rfl ?_ ?_); (focus (simp only [ go_sem]; done)); simp only [Env.put]) | ((first | refine v_u rfl fun K hK => ?_ | refine v_g rfl fun K hK => ?_ | refine v_uD rfl fun K hK => ?_ | refine v_gD rfl fun K hK => ?_); simp only [ go_sem]) | (first | (refine callK_pure (fun hc => h1) rfl ?_; simp only [upds, eq_self, true_or, true_and]) | (refine callK_pure (fun hc => h2) rfl ?_; simp only [upds, eq_self, true_or, true_and]) | (refine callK_pure (fun hc => h3) rfl ?_; simp only [upds, eq_self, true_or, true_and])) | refine v_end ?_ | refine v_endD (by kernel_rfl) ?_ | (refine hK _ _ ?_; clear hK K) | refine ⟨by (first | trivial | assumption | omega | (intros; first | assumption | omega)), ?_⟩ | (apply v_condb; (focus (simp only [ go_sem]; first | exact pvt | exact pvf)); simp only [cond_true, cond_false]) | fail))
  (first | refine v_fin_n ?_ | refine v_fin_r ?_); simp only [snap_nl, resK, one, PV.snap, go_sem]
  exact .refl _
end Go.V
/- Layer 2: rational numbers: sign, order, sum, difference, quotient. -/
set_option linter.unusedVariables false
set_option linter.unusedSimpArgs false
namespace Go.V
open Go.RowKit Go.Proofs

/-- A numerator that is not too long. -/
def Rt.ok (q : Rat) : Prop := (Nt.limbs q.num.natAbs).length ≤ 68719476736
theorem Nt.limbs_mul (a b : Nat) : (Nt.limbs (a * b)).length ≤ (Nt.limbs a).length + (Nt.limbs b).length := by
  refine Nt.limbs_length_le ?_
  rw [Nat.pow_add]
  exact Nat.mul_lt_mul'' (Nt.lt_limbs a) (Nt.lt_limbs b)
theorem Nt.limbs_add (a b : Nat) : (Nt.limbs (a + b)).length ≤ (Nt.limbs a).length + (Nt.limbs b).length + 1 := by
  refine Nt.limbs_length_le ?_
  have h1 := Nt.lt_limbs a
  have h2 := Nt.lt_limbs b
  rw [Nat.pow_succ, Nat.pow_add]
  have h3 : 1 ≤ 4294967296 ^ (Nt.limbs a).length := Nat.pos_of_ne_zero (by simp)
  have h4 : 1 ≤ 4294967296 ^ (Nt.limbs b).length := Nat.pos_of_ne_zero (by simp)
  generalize 4294967296 ^ (Nt.limbs a).length = A at *
  generalize 4294967296 ^ (Nt.limbs b).length = B at *
  have h5 : A ≤ A * B := Nat.le_mul_of_pos_right _ h4
  have h6 : B ≤ A * B := Nat.le_mul_of_pos_left _ h3
  omega
theorem sgz_mul (neg : Bool) (n k : Nat) : sgz neg (n * k) = sgz neg n * (k : Int) := by
  cases neg <;> simp [sgz, Int.neg_mul]
theorem add_parts (a b : Rat) : a + b = mkRat (a.num * b.den + b.num * a.den) (a.den * b.den) := by
  rw [Rat.add_def, Rat.normalize_eq_mkRat]
theorem sgz_eq_add {s : Bool} {x y : Nat} : sgz s x + sgz s y = sgz s (x + y) := by cases s <;> simp [sgz] <;> omega
theorem sgz_sub_l {s t : Bool} {x y : Nat} (h : s ≠ t) (hc : y ≤ x) : sgz s x + sgz t y = sgz s (x - y) := by cases s <;> cases t <;> simp [sgz] at * <;> omega
theorem sgz_sub_r {s t : Bool} {x y : Nat} (h : s ≠ t) (hc : x ≤ y) : sgz s x + sgz t y = sgz t (y - x) := by cases s <;> cases t <;> simp [sgz] at * <;> omega
theorem cmpN_ge {a b : Nat} : 0 ≤ cmpN a b ↔ b ≤ a := by unfold cmpN; split <;> (try split) <;> omega

attribute [local irreducible] wp seqK lexK opK callK upd sto Good GoodR

theorem den_raw (s : Bool) (n l : Nat) (hd : l + 1 < 4294967296) : Good Try.prog 54 [.agg [.bool s, nl n, nl l]] (pvN (l + 1)) := by
  have h1 := one_good
  have h2 := add_good l 1 (Nat.le_trans (limbs_small (by omega)) (by decide)) (Nat.le_trans (limbs_small (y := 1) (by decide)) (by decide))
  simp only [pvN_eq] at *
  generalize l + 1 = L at *
  refine v_enter ttok mixed Try.func54 (by kernel_rfl) rfl Try.ntmps54 Try.results54 (by simp) ?_; rw [fresh_sto]; simp only [argEnv, List.range, List.range.loop, List.length_cons, List.length_nil, List.zip_cons_cons, List.zip_nil_left]
  (repeat (first | refine Stp.go ?_ | refine v_region ?_ | refine v_regionD ?_ | refine v_blocky (by decide) ?_ | ((first | refine v_o rfl ?_ ?_ | refine v_oD rfl ?_ ?_); (focus (simp only [ go_sem]; done)); simp only [Env.put]) | ((first | refine v_u rfl fun K hK => ?_ | refine v_g rfl fun K hK => ?_ | refine v_uD rfl fun K hK => ?_ | refine v_gD rfl fun K hK => ?_); simp only [ go_sem]) | (first | (refine callK_pure (fun hc => h1) rfl ?_; simp only [upds, eq_self, true_or, true_and]) | (refine callK_pure (fun hc => h2) rfl ?_; simp only [upds, eq_self, true_or, true_and])) | refine v_end ?_ | refine v_endD (by kernel_rfl) ?_ | (refine hK _ _ ?_; clear hK K) | refine ⟨by (first | trivial | assumption | omega | (intros; first | assumption | omega)), ?_⟩ | (apply v_condb; (focus (simp only [ go_sem]; first | exact pvt | exact pvf)); simp only [cond_true, cond_false]) | fail))
  (first | refine v_fin_n ?_ | refine v_fin_r ?_); simp only [snap_nl, resK, one, PV.snap, go_sem]
  exact .refl _
theorem den_good (q : Rat) (hd : q.den < 4294967296) : Good Try.prog 54 [pvQ q] (pvN q.den) := by
  have e : q.den - 1 + 1 = q.den := by have := q.den_pos; omega
  have := den_raw (decide (q.num < 0)) q.num.natAbs (q.den - 1) (by omega)
  rw [e] at this
  exact this

theorem qsign_good (q : Rat) : Good Try.prog 27 [pvQ q] (.int .i64 q.num.sign) := by
  have h1 := iszero_good q.num.natAbs
  by_cases c : q.num = 0
  · have e : decide (q.num.natAbs = 0) = true := decide_eq_true (by omega)
    have e2 : q.num.sign = 0 := by rw [c]; rfl
    rw [e] at h1
    rw [e2]
    simp only [pvN_eq, pvQ] at *
    generalize decide (q.num < 0) = neg at *
    refine v_enter ttok mixed Try.func27 (by kernel_rfl) rfl Try.ntmps27 Try.results27 (by simp) ?_; rw [fresh_sto]; simp only [argEnv, List.range, List.range.loop, List.length_cons, List.length_nil, List.zip_cons_cons, List.zip_nil_left]
    (repeat (first | refine Stp.go ?_ | refine v_region ?_ | refine v_regionD ?_ | refine v_blocky (by decide) ?_ | ((first | refine v_o rfl ?_ ?_ | refine v_oD rfl ?_ ?_); (focus (simp only [ go_sem]; done)); simp only [Env.put]) | ((first | refine v_u rfl fun K hK => ?_ | refine v_g rfl fun K hK => ?_ | refine v_uD rfl fun K hK => ?_ | refine v_gD rfl fun K hK => ?_); simp only [ go_sem]) | ((refine callK_pure (fun hc => h1) rfl ?_; simp only [upds, eq_self, true_or, true_and])) | refine v_end ?_ | refine v_endD (by kernel_rfl) ?_ | (refine hK _ _ ?_; clear hK K) | refine ⟨by (first | trivial | assumption | omega | (intros; first | assumption | omega)), ?_⟩ | (apply v_condb; (focus (simp only [ go_sem]; first | exact pvt | exact pvf)); simp only [cond_true, cond_false]) | fail))
    (first | refine v_fin_n ?_ | refine v_fin_r ?_); simp only [ resK, one, PV.snap, go_sem]
    exact .refl _
  · have e : decide (q.num.natAbs = 0) = false := decide_eq_false (by omega)
    rw [e] at h1
    simp only [pvN_eq, pvQ] at *
    by_cases c2 : q.num < 0
    · have e2 : q.num.sign = -1 := Int.sign_eq_neg_one_of_neg c2
      rw [e2, decide_eq_true c2]
      refine v_enter ttok mixed Try.func27 (by kernel_rfl) rfl Try.ntmps27 Try.results27 (by simp) ?_; rw [fresh_sto]; simp only [argEnv, List.range, List.range.loop, List.length_cons, List.length_nil, List.zip_cons_cons, List.zip_nil_left]
      (repeat (first | refine Stp.go ?_ | refine v_region ?_ | refine v_regionD ?_ | refine v_blocky (by decide) ?_ | ((first | refine v_o rfl ?_ ?_ | refine v_oD rfl ?_ ?_); (focus (simp only [ go_sem]; done)); simp only [Env.put]) | ((first | refine v_u rfl fun K hK => ?_ | refine v_g rfl fun K hK => ?_ | refine v_uD rfl fun K hK => ?_ | refine v_gD rfl fun K hK => ?_); simp only [ go_sem]) | ((refine callK_pure (fun hc => h1) rfl ?_; simp only [upds, eq_self, true_or, true_and])) | refine v_end ?_ | refine v_endD (by kernel_rfl) ?_ | (refine hK _ _ ?_; clear hK K) | refine ⟨by (first | trivial | assumption | omega | (intros; first | assumption | omega)), ?_⟩ | (apply v_condb; (focus (simp only [ go_sem]; first | exact pvt | exact pvf)); simp only [cond_true, cond_false]) | fail))
      (first | refine v_fin_n ?_ | refine v_fin_r ?_); simp only [ resK, one, PV.snap, go_sem]
      exact .refl _
    · have e2 : q.num.sign = 1 := Int.sign_eq_one_of_pos (by omega)
      rw [e2, decide_eq_false c2]
      refine v_enter ttok mixed Try.func27 (by kernel_rfl) rfl Try.ntmps27 Try.results27 (by simp) ?_; rw [fresh_sto]; simp only [argEnv, List.range, List.range.loop, List.length_cons, List.length_nil, List.zip_cons_cons, List.zip_nil_left]
      (repeat (first | refine Stp.go ?_ | refine v_region ?_ | refine v_regionD ?_ | refine v_blocky (by decide) ?_ | ((first | refine v_o rfl ?_ ?_ | refine v_oD rfl ?_ ?_); (focus (simp only [ go_sem]; done)); simp only [Env.put]) | ((first | refine v_u rfl fun K hK => ?_ | refine v_g rfl fun K hK => ?_ | refine v_uD rfl fun K hK => ?_ | refine v_gD rfl fun K hK => ?_); simp only [ go_sem]) | ((refine callK_pure (fun hc => h1) rfl ?_; simp only [upds, eq_self, true_or, true_and])) | refine v_end ?_ | refine v_endD (by kernel_rfl) ?_ | (refine hK _ _ ?_; clear hK K) | refine ⟨by (first | trivial | assumption | omega | (intros; first | assumption | omega)), ?_⟩ | (apply v_condb; (focus (simp only [ go_sem]; first | exact pvt | exact pvf)); simp only [cond_true, cond_false]) | fail))
      (first | refine v_fin_n ?_ | refine v_fin_r ?_); simp only [ resK, one, PV.snap, go_sem]
      exact .refl _

theorem neg_good (q : Rat) : Good Try.prog 58 [pvQ q] (pvQ (-q)) := by
  have h1 := iszero_good q.num.natAbs
  by_cases c : q.num = 0
  · have e : decide (q.num.natAbs = 0) = true := decide_eq_true (by omega)
    have eq : -q = q := by
      have : q = 0 := Rat.num_eq_zero.1 c
      rw [this]; rfl
    rw [e] at h1
    rw [eq]
    simp only [pvN_eq, pvQ] at *
    generalize decide (q.num < 0) = neg at *
    refine v_enter ttok mixed Try.func58 (by kernel_rfl) rfl Try.ntmps58 Try.results58 (by simp) ?_; rw [fresh_sto]; simp only [argEnv, List.range, List.range.loop, List.length_cons, List.length_nil, List.zip_cons_cons, List.zip_nil_left]
    (repeat (first | refine Stp.go ?_ | refine v_region ?_ | refine v_regionD ?_ | refine v_blocky (by decide) ?_ | ((first | refine v_o rfl ?_ ?_ | refine v_oD rfl ?_ ?_); (focus (simp only [ go_sem]; done)); simp only [Env.put]) | ((first | refine v_u rfl fun K hK => ?_ | refine v_g rfl fun K hK => ?_ | refine v_uD rfl fun K hK => ?_ | refine v_gD rfl fun K hK => ?_); simp only [ go_sem]) | ((refine callK_pure (fun hc => h1) rfl ?_; simp only [upds, eq_self, true_or, true_and])) | refine v_end ?_ | refine v_endD (by kernel_rfl) ?_ | (refine hK _ _ ?_; clear hK K) | refine ⟨by (first | trivial | assumption | omega | (intros; first | assumption | omega)), ?_⟩ | (apply v_condb; (focus (simp only [ go_sem]; first | exact pvt | exact pvf)); simp only [cond_true, cond_false]) | fail))
    (first | refine v_fin_n ?_ | refine v_fin_r ?_); simp only [snap_nl, resK, one, PV.snap, go_sem]
    exact .refl _
  · have e : decide (q.num.natAbs = 0) = false := decide_eq_false (by omega)
    rw [e] at h1
    have e1 : (-q).num.natAbs = q.num.natAbs := by rw [Rat.neg_num]; omega
    have e2 : (-q).den = q.den := (Rat.neg_den q)
    have e3 : decide ((-q).num < 0) = !decide (q.num < 0) := by
      rw [Rat.neg_num]
      by_cases h : q.num < 0 <;> simp [h] <;> omega
    simp only [pvN_eq, pvQ, e1, e2, e3] at *
    generalize decide (q.num < 0) = neg at *
    refine v_enter ttok mixed Try.func58 (by kernel_rfl) rfl Try.ntmps58 Try.results58 (by simp) ?_; rw [fresh_sto]; simp only [argEnv, List.range, List.range.loop, List.length_cons, List.length_nil, List.zip_cons_cons, List.zip_nil_left]
    (repeat (first | refine Stp.go ?_ | refine v_region ?_ | refine v_regionD ?_ | refine v_blocky (by decide) ?_ | ((first | refine v_o rfl ?_ ?_ | refine v_oD rfl ?_ ?_); (focus (simp only [ go_sem]; done)); simp only [Env.put]) | ((first | refine v_u rfl fun K hK => ?_ | refine v_g rfl fun K hK => ?_ | refine v_uD rfl fun K hK => ?_ | refine v_gD rfl fun K hK => ?_); simp only [ go_sem]) | ((refine callK_pure (fun hc => h1) rfl ?_; simp only [upds, eq_self, true_or, true_and])) | refine v_end ?_ | refine v_endD (by kernel_rfl) ?_ | (refine hK _ _ ?_; clear hK K) | refine ⟨by (first | trivial | assumption | omega | (intros; first | assumption | omega)), ?_⟩ | (apply v_condb; (focus (simp only [ go_sem]; first | exact pvt | exact pvf)); simp only [cond_true, cond_false]) | fail))
    (first | refine v_fin_n ?_ | refine v_fin_r ?_); simp only [snap_nl, resK, one, PV.snap, go_sem]
    exact .refl _

set_option maxHeartbeats 4000000 in
theorem radd_raw (s t : Bool) (n l m k : Nat) (hn : (Nt.limbs n).length ≤ 68719476736) (hm : (Nt.limbs m).length ≤ 68719476736) (hd : (l + 1) * (k + 1) < 4294967296) :
    Good Try.prog 29 [.agg [.bool s, nl n, nl l], .agg [.bool t, nl m, nl k]] (pvQ (mkRat (sgz s (n * (k + 1)) + sgz t (m * (l + 1))) ((l + 1) * (k + 1)))) := by
  have da : l + 1 < 4294967296 := Nat.lt_of_le_of_lt (Nat.le_mul_of_pos_right _ (by omega)) hd
  have db : k + 1 < 4294967296 := Nat.lt_of_le_of_lt (Nat.le_mul_of_pos_left _ (by omega)) hd
  have la := limbs_small da
  have lb := limbs_small db
  have g1 := den_raw s n l da
  have g2 := den_raw t m k db
  have m1 := mul_good n (k + 1) (by omega) (by omega)
  have m2 := mul_good m (l + 1) (by omega) (by omega)
  have m3 := mul_good (l + 1) (k + 1) (by omega) (by omega)
  have l1 := Nt.limbs_mul n (k + 1)
  have l2 := Nt.limbs_mul m (l + 1)
  have hD0 : (l + 1) * (k + 1) ≠ 0 := Nat.ne_of_gt (Nat.mul_pos (by omega) (by omega))
  generalize n * (k + 1) = X at *
  generalize m * (l + 1) = Y at *
  generalize (l + 1) * (k + 1) = D at *
  have c1 := cmp_good X Y (by omega) (by omega)
  have l3 := Nt.limbs_add X Y
  generalize l + 1 = L at *
  generalize k + 1 = K' at *
  by_cases cs : s = t
  · subst cs
    have r := reduced_good s (X + Y) D (by omega) hd hD0
    have a1 := add_good X Y (by omega) (by omega)
    rw [sgz_eq_add]
    generalize X + Y = Z at *
    generalize mkRat (sgz s Z) D = q at *
    simp only [pvN_eq, pvQ] at *
    have bs : (s == s) = true := by cases s <;> rfl
    refine v_enter ttok mixed Try.func29 (by kernel_rfl) rfl Try.ntmps29 Try.results29 (by simp) ?_; rw [fresh_sto]; simp only [argEnv, List.range, List.range.loop, List.length_cons, List.length_nil, List.zip_cons_cons, List.zip_nil_left]
    (repeat (first | refine Stp.go ?_ | refine v_region ?_ | refine v_regionD ?_ | refine v_blocky (by decide) ?_ | ((first | refine v_o rfl ?_ ?_ | refine v_oD rfl ?_ ?_); (focus (simp only [bs, go_sem]; done)); simp only [Env.put]) | ((first | refine v_u rfl fun K hK => ?_ | refine v_g rfl fun K hK => ?_ | refine v_uD rfl fun K hK => ?_ | refine v_gD rfl fun K hK => ?_); simp only [bs, go_sem]) | (first | (refine callK_pure (fun hc => g1) rfl ?_; simp only [upds, eq_self, true_or, true_and]) | (refine callK_pure (fun hc => g2) rfl ?_; simp only [upds, eq_self, true_or, true_and]) | (refine callK_pure (fun hc => m1) rfl ?_; simp only [upds, eq_self, true_or, true_and]) | (refine callK_pure (fun hc => m2) rfl ?_; simp only [upds, eq_self, true_or, true_and]) | (refine callK_pure (fun hc => m3) rfl ?_; simp only [upds, eq_self, true_or, true_and]) | (refine callK_pure (fun hc => a1) rfl ?_; simp only [upds, eq_self, true_or, true_and]) | (refine callK_pure (fun hc => r) rfl ?_; simp only [upds, eq_self, true_or, true_and])) | refine v_end ?_ | refine v_endD (by kernel_rfl) ?_ | (refine hK _ _ ?_; clear hK K) | refine ⟨by (first | trivial | assumption | omega | (intros; first | assumption | omega)), ?_⟩ | (apply v_condb; (focus (simp only [bs, go_sem]; first | exact pvt | exact pvf)); simp only [cond_true, cond_false]) | fail))
    (first | refine v_fin_n ?_ | refine v_fin_r ?_); simp only [snap_nl, resK, one, PV.snap, go_sem]
    exact .refl _
  · have bs : (s == t) = false := by cases s <;> cases t <;> simp at cs ⊢
    by_cases cc : Y ≤ X
    · have hc := cmpN_ge.2 cc
      generalize cmpN X Y = cv at *
      have s1 := sub_good X Y (by omega) (by omega)
      unfold subR at s1
      rw [if_neg (by omega)] at s1
      have r := reduced_good s (X - Y) D (Nat.le_trans (Nt.limbs_le (Nat.sub_le X Y)) (by omega)) hd hD0
      rw [sgz_sub_l cs cc]
      generalize X - Y = Z at *
      generalize mkRat (sgz s Z) D = q at *
      simp only [pvN_eq, pvQ] at *
      refine v_enter ttok mixed Try.func29 (by kernel_rfl) rfl Try.ntmps29 Try.results29 (by simp) ?_; rw [fresh_sto]; simp only [argEnv, List.range, List.range.loop, List.length_cons, List.length_nil, List.zip_cons_cons, List.zip_nil_left]
      (repeat (first | refine Stp.go ?_ | refine v_region ?_ | refine v_regionD ?_ | refine v_blocky (by decide) ?_ | ((first | refine v_o rfl ?_ ?_ | refine v_oD rfl ?_ ?_); (focus (simp only [bs, hc, go_sem]; done)); simp only [Env.put]) | ((first | refine v_u rfl fun K hK => ?_ | refine v_g rfl fun K hK => ?_ | refine v_uD rfl fun K hK => ?_ | refine v_gD rfl fun K hK => ?_); simp only [bs, hc, go_sem]) | (first | (refine callK_pure (fun hc => g1) rfl ?_; simp only [upds, eq_self, true_or, true_and]) | (refine callK_pure (fun hc => g2) rfl ?_; simp only [upds, eq_self, true_or, true_and]) | (refine callK_pure (fun hc => m1) rfl ?_; simp only [upds, eq_self, true_or, true_and]) | (refine callK_pure (fun hc => m2) rfl ?_; simp only [upds, eq_self, true_or, true_and]) | (refine callK_pure (fun hc => m3) rfl ?_; simp only [upds, eq_self, true_or, true_and]) | (refine callK_pure (fun hc => c1) rfl ?_; simp only [upds, eq_self, true_or, true_and]) | (refine callK_pure (fun hc => s1) rfl ?_; simp only [upds, eq_self, true_or, true_and]) | (refine callK_pure (fun hc => r) rfl ?_; simp only [upds, eq_self, true_or, true_and])) | refine v_end ?_ | refine v_endD (by kernel_rfl) ?_ | (refine hK _ _ ?_; clear hK K) | refine ⟨by (first | trivial | assumption | omega | (intros; first | assumption | omega)), ?_⟩ | (apply v_condb; (focus (simp only [bs, hc, go_sem]; first | exact pvt | exact pvf)); simp only [cond_true, cond_false]) | fail))
      (first | refine v_fin_n ?_ | refine v_fin_r ?_); simp only [snap_nl, resK, one, PV.snap, go_sem]
      exact .refl _
    · have hc : ¬ 0 ≤ cmpN X Y := fun h => cc (cmpN_ge.1 h)
      generalize cmpN X Y = cv at *
      have s1 := sub_good Y X (by omega) (by omega)
      unfold subR at s1
      rw [if_neg (by omega)] at s1
      have r := reduced_good t (Y - X) D (Nat.le_trans (Nt.limbs_le (Nat.sub_le Y X)) (by omega)) hd hD0
      rw [sgz_sub_r cs (by omega)]
      generalize Y - X = Z at *
      generalize mkRat (sgz t Z) D = q at *
      simp only [pvN_eq, pvQ] at *
      refine v_enter ttok mixed Try.func29 (by kernel_rfl) rfl Try.ntmps29 Try.results29 (by simp) ?_; rw [fresh_sto]; simp only [argEnv, List.range, List.range.loop, List.length_cons, List.length_nil, List.zip_cons_cons, List.zip_nil_left]
      (repeat (first | refine Stp.go ?_ | refine v_region ?_ | refine v_regionD ?_ | refine v_blocky (by decide) ?_ | ((first | refine v_o rfl ?_ ?_ | refine v_oD rfl ?_ ?_); (focus (simp only [bs, hc, go_sem]; done)); simp only [Env.put]) | ((first | refine v_u rfl fun K hK => ?_ | refine v_g rfl fun K hK => ?_ | refine v_uD rfl fun K hK => ?_ | refine v_gD rfl fun K hK => ?_); simp only [bs, hc, go_sem]) | (first | (refine callK_pure (fun hc => g1) rfl ?_; simp only [upds, eq_self, true_or, true_and]) | (refine callK_pure (fun hc => g2) rfl ?_; simp only [upds, eq_self, true_or, true_and]) | (refine callK_pure (fun hc => m1) rfl ?_; simp only [upds, eq_self, true_or, true_and]) | (refine callK_pure (fun hc => m2) rfl ?_; simp only [upds, eq_self, true_or, true_and]) | (refine callK_pure (fun hc => m3) rfl ?_; simp only [upds, eq_self, true_or, true_and]) | (refine callK_pure (fun hc => c1) rfl ?_; simp only [upds, eq_self, true_or, true_and]) | (refine callK_pure (fun hc => s1) rfl ?_; simp only [upds, eq_self, true_or, true_and]) | (refine callK_pure (fun hc => r) rfl ?_; simp only [upds, eq_self, true_or, true_and])) | refine v_end ?_ | refine v_endD (by kernel_rfl) ?_ | (refine hK _ _ ?_; clear hK K) | refine ⟨by (first | trivial | assumption | omega | (intros; first | assumption | omega)), ?_⟩ | (apply v_condb; (focus (simp only [bs, hc, go_sem]; first | exact pvt | exact pvf)); simp only [cond_true, cond_false]) | fail))
      (first | refine v_fin_n ?_ | refine v_fin_r ?_); simp only [snap_nl, resK, one, PV.snap, go_sem]
      exact .refl _
theorem radd_good (a b : Rat) (ha : Rt.ok a) (hb : Rt.ok b) (hd : a.den * b.den < 4294967296) : Good Try.prog 29 [pvQ a, pvQ b] (pvQ (a + b)) := by
  have e1 : a.den - 1 + 1 = a.den := by have := a.den_pos; omega
  have e2 : b.den - 1 + 1 = b.den := by have := b.den_pos; omega
  have h := radd_raw (decide (a.num < 0)) (decide (b.num < 0)) a.num.natAbs (a.den - 1) b.num.natAbs (b.den - 1) ha hb (by rw [e1, e2]; exact hd)
  rw [e1, e2, sgz_mul, sgz_mul, sgz_of, sgz_of, ← add_parts] at h
  exact h
theorem rsub_good (a b : Rat) (ha : Rt.ok a) (hb : Rt.ok b) (hd : a.den * b.den < 4294967296) : Good Try.prog 30 [pvQ a, pvQ b] (pvQ (a - b)) := by
  have h1 := neg_good b
  have hb' : Rt.ok (-b) := by
    unfold Rt.ok at hb ⊢
    rw [Rat.neg_num, Int.natAbs_neg]; exact hb
  have h2 := radd_good a (-b) ha hb' (by rw [Rat.neg_den]; exact hd)
  rw [← Rat.sub_eq_add_neg] at h2
  generalize a - b = q at *
  generalize -b = c at *
  simp only [pvQ] at *
  refine v_enter ttok mixed Try.func30 (by kernel_rfl) rfl Try.ntmps30 Try.results30 (by simp) ?_; rw [fresh_sto]; simp only [argEnv, List.range, List.range.loop, List.length_cons, List.length_nil, List.zip_cons_cons, List.zip_nil_left]
  (repeat (first | refine Stp.go ?_ | refine v_region ?_ | refine v_regionD ?_ | refine v_blocky (by decide) ?_ | ((first | refine v_o rfl ?_ ?_ | refine v_oD rfl ?_ ?_); (focus (simp only [ go_sem]; done)); simp only [Env.put]) | ((first | refine v_u rfl fun K hK => ?_ | refine v_g rfl fun K hK => ?_ | refine v_uD rfl fun K hK => ?_ | refine v_gD rfl fun K hK => ?_); simp only [ go_sem]) | (first | (refine callK_pure (fun hc => h1) rfl ?_; simp only [upds, eq_self, true_or, true_and]) | (refine callK_pure (fun hc => h2) rfl ?_; simp only [upds, eq_self, true_or, true_and])) | refine v_end ?_ | refine v_endD (by kernel_rfl) ?_ | (refine hK _ _ ?_; clear hK K) | refine ⟨by (first | trivial | assumption | omega | (intros; first | assumption | omega)), ?_⟩ | (apply v_condb; (focus (simp only [ go_sem]; first | exact pvt | exact pvf)); simp only [cond_true, cond_false]) | fail))
  (first | refine v_fin_n ?_ | refine v_fin_r ?_); simp only [snap_nl, resK, one, PV.snap, go_sem]
  exact .refl _
theorem rcmp_good (a b : Rat) (ha : Rt.ok a) (hb : Rt.ok b) (hd : a.den * b.den < 4294967296) : Good Try.prog 31 [pvQ a, pvQ b] (.int .i64 (a - b).num.sign) := by
  have h1 := rsub_good a b ha hb hd
  have h2 := qsign_good (a - b)
  generalize a - b = q at *
  generalize q.num.sign = z at *
  simp only [pvQ] at *
  refine v_enter ttok mixed Try.func31 (by kernel_rfl) rfl Try.ntmps31 Try.results31 (by simp) ?_; rw [fresh_sto]; simp only [argEnv, List.range, List.range.loop, List.length_cons, List.length_nil, List.zip_cons_cons, List.zip_nil_left]
  (repeat (first | refine Stp.go ?_ | refine v_region ?_ | refine v_regionD ?_ | refine v_blocky (by decide) ?_ | ((first | refine v_o rfl ?_ ?_ | refine v_oD rfl ?_ ?_); (focus (simp only [ go_sem]; done)); simp only [Env.put]) | ((first | refine v_u rfl fun K hK => ?_ | refine v_g rfl fun K hK => ?_ | refine v_uD rfl fun K hK => ?_ | refine v_gD rfl fun K hK => ?_); simp only [ go_sem]) | (first | (refine callK_pure (fun hc => h1) rfl ?_; simp only [upds, eq_self, true_or, true_and]) | (refine callK_pure (fun hc => h2) rfl ?_; simp only [upds, eq_self, true_or, true_and])) | refine v_end ?_ | refine v_endD (by kernel_rfl) ?_ | (refine hK _ _ ?_; clear hK K) | refine ⟨by (first | trivial | assumption | omega | (intros; first | assumption | omega)), ?_⟩ | (apply v_condb; (focus (simp only [ go_sem]; first | exact pvt | exact pvf)); simp only [cond_true, cond_false]) | fail))
  (first | refine v_fin_n ?_ | refine v_fin_r ?_); simp only [ resK, one, PV.snap, go_sem]
  exact .refl _

/-- What Div returns. -/
def rdivR (a b : Rat) : PV := if b = 0 then .tup [pvQ 0, .int .i64 10] else .tup [pvQ (a / b), .int .i64 0]
theorem div_parts (a b : Rat) (h : b ≠ 0) : a / b = mkRat (sgz (decide (a.num < 0) != decide (b.num < 0)) (a.num.natAbs * b.den)) (a.den * b.num.natAbs) := by
  have hb : b.num ≠ 0 := fun e => h (Rat.num_eq_zero.1 e)
  rw [Rat.div_def, Rat.inv_def]
  have e1 : a = Rat.divInt a.num a.den := by rw [Rat.divInt_ofNat, Rat.mkRat_self]
  have e2 : a * Rat.divInt (b.den : Int) b.num = Rat.divInt (a.num * b.den) (a.den * b.num) := by
    rw [show a * Rat.divInt (b.den : Int) b.num = Rat.divInt a.num a.den * Rat.divInt (b.den : Int) b.num by rw [← e1], Rat.divInt_mul_divInt]
  have hb1 : 0 < b.den := b.den_pos
  have ha1 : 0 < a.den := a.den_pos
  have e3 : (a.den : Int) * b.num ≠ 0 := Int.mul_ne_zero (by omega) hb
  rw [e2, divInt_sgz _ _ e3, Int.natAbs_mul, Int.natAbs_mul, Int.natAbs_natCast, Int.natAbs_natCast]
  have e4 : decide (a.num * (b.den : Int) < 0) = decide (a.num < 0) := by
    by_cases c : a.num < 0
    · have : a.num * (b.den : Int) < 0 := Int.mul_neg_of_neg_of_pos c (by omega)
      simp [c, this]
    · have : 0 ≤ a.num * (b.den : Int) := Int.mul_nonneg (by omega) (by omega)
      have h2 : ¬ a.num * (b.den : Int) < 0 := by omega
      simp [c, h2]
  have e5 : decide ((a.den : Int) * b.num < 0) = decide (b.num < 0) := by
    by_cases c : b.num < 0
    · have : (a.den : Int) * b.num < 0 := Int.mul_neg_of_pos_of_neg (by omega) c
      simp [c, this]
    · have : 0 ≤ (a.den : Int) * b.num := Int.mul_nonneg (by omega) (by omega)
      have h2 : ¬ (a.den : Int) * b.num < 0 := by omega
      simp [c, h2]
  rw [e4, e5]
set_option maxHeartbeats 2000000 in
theorem rdiv_good (a b : Rat) (ha : Rt.ok a) (hb : b.den < 4294967296) (hd : a.den * b.num.natAbs < 4294967296) (hda : a.den < 4294967296) (hnb : b.num.natAbs < 4294967296) : Good Try.prog 47 [pvQ a, pvQ b] (rdivR a b) := by
  have la := limbs_small hda
  have lb := limbs_small hb
  have lc := limbs_small hnb
  have l1 := Nt.limbs_mul a.num.natAbs b.den
  unfold Rt.ok at ha
  have g1 := den_good a hda
  have g2 := den_good b hb
  have m1 := mul_good a.num.natAbs b.den (by omega) (by omega)
  have m2 := mul_good a.den b.num.natAbs (by omega) (by omega)
  have mk := make_good (decide (a.num < 0) != decide (b.num < 0)) (a.num.natAbs * b.den) (a.den * b.num.natAbs) (by omega) hd
  have pa := a.den_pos
  have e : makeR (decide (a.num < 0) != decide (b.num < 0)) (a.num.natAbs * b.den) (a.den * b.num.natAbs) = rdivR a b := by
    unfold makeR rdivR
    by_cases c : b = 0
    · have : b.num.natAbs = 0 := by rw [c]; rfl
      rw [if_pos c, if_pos (by rw [this]; rfl)]
    · have hb0 : b.num ≠ 0 := fun e => c (Rat.num_eq_zero.1 e)
      rw [if_neg c, if_neg (Nat.ne_of_gt (Nat.mul_pos pa (by omega))), div_parts a b c]
  rw [e] at mk
  clear e
  unfold rdivR at mk ⊢
  by_cases c : b = 0
  · rw [if_pos c] at mk ⊢
    simp only [pvN_eq, pvQ] at *
    generalize a.num.natAbs * b.den = X at *
    generalize a.den * b.num.natAbs = Y at *
    generalize decide (a.num < 0) = s at *
    generalize decide (b.num < 0) = t at *
    refine v_enter ttok mixed Try.func47 (by kernel_rfl) rfl Try.ntmps47 Try.results47 (by simp) ?_; rw [fresh_sto]; simp only [argEnv, List.range, List.range.loop, List.length_cons, List.length_nil, List.zip_cons_cons, List.zip_nil_left]
    (repeat (first | refine Stp.go ?_ | refine v_region ?_ | refine v_regionD ?_ | refine v_blocky (by decide) ?_ | ((first | refine v_o rfl ?_ ?_ | refine v_oD rfl ?_ ?_); (focus (simp only [ go_sem]; done)); simp only [Env.put]) | ((first | refine v_u rfl fun K hK => ?_ | refine v_g rfl fun K hK => ?_ | refine v_uD rfl fun K hK => ?_ | refine v_gD rfl fun K hK => ?_); simp only [ go_sem]) | (first | (refine callK_pure (fun hc => g1) rfl ?_; simp only [upds, eq_self, true_or, true_and]) | (refine callK_pure (fun hc => g2) rfl ?_; simp only [upds, eq_self, true_or, true_and]) | (refine callK_pure (fun hc => m1) rfl ?_; simp only [upds, eq_self, true_or, true_and]) | (refine callK_pure (fun hc => m2) rfl ?_; simp only [upds, eq_self, true_or, true_and]) | (refine callK_pure (fun hc => mk) rfl ?_; simp only [upds, eq_self, true_or, true_and])) | refine v_end ?_ | refine v_endD (by kernel_rfl) ?_ | (refine hK _ _ ?_; clear hK K) | refine ⟨by (first | trivial | assumption | omega | (intros; first | assumption | omega)), ?_⟩ | (apply v_condb; (focus (simp only [ go_sem]; first | exact pvt | exact pvf)); simp only [cond_true, cond_false]) | fail))
    (first | refine v_fin_n ?_ | refine v_fin_r ?_); simp only [snap_nl, resK, one, PV.snap, go_sem]
    exact .refl _
  · rw [if_neg c] at mk ⊢
    generalize a / b = q at *
    simp only [pvN_eq, pvQ] at *
    generalize a.num.natAbs * b.den = X at *
    generalize a.den * b.num.natAbs = Y at *
    generalize decide (a.num < 0) = s at *
    generalize decide (b.num < 0) = t at *
    refine v_enter ttok mixed Try.func47 (by kernel_rfl) rfl Try.ntmps47 Try.results47 (by simp) ?_; rw [fresh_sto]; simp only [argEnv, List.range, List.range.loop, List.length_cons, List.length_nil, List.zip_cons_cons, List.zip_nil_left]
    (repeat (first | refine Stp.go ?_ | refine v_region ?_ | refine v_regionD ?_ | refine v_blocky (by decide) ?_ | ((first | refine v_o rfl ?_ ?_ | refine v_oD rfl ?_ ?_); (focus (simp only [ go_sem]; done)); simp only [Env.put]) | ((first | refine v_u rfl fun K hK => ?_ | refine v_g rfl fun K hK => ?_ | refine v_uD rfl fun K hK => ?_ | refine v_gD rfl fun K hK => ?_); simp only [ go_sem]) | (first | (refine callK_pure (fun hc => g1) rfl ?_; simp only [upds, eq_self, true_or, true_and]) | (refine callK_pure (fun hc => g2) rfl ?_; simp only [upds, eq_self, true_or, true_and]) | (refine callK_pure (fun hc => m1) rfl ?_; simp only [upds, eq_self, true_or, true_and]) | (refine callK_pure (fun hc => m2) rfl ?_; simp only [upds, eq_self, true_or, true_and]) | (refine callK_pure (fun hc => mk) rfl ?_; simp only [upds, eq_self, true_or, true_and])) | refine v_end ?_ | refine v_endD (by kernel_rfl) ?_ | (refine hK _ _ ?_; clear hK K) | refine ⟨by (first | trivial | assumption | omega | (intros; first | assumption | omega)), ?_⟩ | (apply v_condb; (focus (simp only [ go_sem]; first | exact pvt | exact pvf)); simp only [cond_true, cond_false]) | fail))
    (first | refine v_fin_n ?_ | refine v_fin_r ?_); simp only [snap_nl, resK, one, PV.snap, go_sem]
    exact .refl _
end Go.V
