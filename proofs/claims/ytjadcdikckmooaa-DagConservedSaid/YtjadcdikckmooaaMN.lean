import Derived.Test.YtjadcdikckmooaaM5
import Derived.Test.YtjadcdikckmooaaMH
/- A part of a proof, with no condition of its own. Merged texts: N0 N1 N2 N3 N4. -/
/- Natural numbers as digits with the base 2^32, in plain Lean. -/
set_option linter.unusedVariables false
set_option linter.unusedSimpArgs false
namespace Go.V
namespace Nt

def lv : List Nat → Nat
  | [] => 0
  | x :: l => x + 4294967296 * lv l
def limbs (n : Nat) : List Nat := if h : n = 0 then [] else n % 4294967296 :: limbs (n / 4294967296)
termination_by n
decreasing_by exact Nat.div_lt_self (Nat.pos_of_ne_zero h) (by decide)

/-- All digits are digits. -/
def Dig (l : List Nat) : Prop := ∀ x ∈ l, x < 4294967296
theorem limbs_zero : limbs 0 = [] := by rw [limbs]; simp
theorem limbs_pos {n : Nat} (h : n ≠ 0) : limbs n = n % 4294967296 :: limbs (n / 4294967296) := by rw [limbs]; simp [h]
theorem lv_limbs : ∀ n, lv (limbs n) = n := by
  intro n
  induction n using Nat.strongRecOn with
  | _ n ih =>
    by_cases h : n = 0
    · subst h; rw [limbs_zero]; rfl
    · rw [limbs_pos h, lv, ih _ (Nat.div_lt_self (Nat.pos_of_ne_zero h) (by decide))]
      exact Nat.mod_add_div n 4294967296
theorem limbs_dig : ∀ n, Dig (limbs n) := by
  intro n
  induction n using Nat.strongRecOn with
  | _ n ih =>
    by_cases h : n = 0
    · subst h; rw [limbs_zero]; intro x hx; simp at hx
    · rw [limbs_pos h]
      intro x hx
      rcases List.mem_cons.1 hx with rfl | hx
      · exact Nat.mod_lt _ (by decide)
      · exact ih _ (Nat.div_lt_self (Nat.pos_of_ne_zero h) (by decide)) x hx
theorem limbs_nil {n : Nat} : limbs n = [] ↔ n = 0 := by
  constructor
  · intro h; by_cases e : n = 0
    · exact e
    · rw [limbs_pos e] at h; cases h
  · rintro rfl; exact limbs_zero
theorem limbs_last {n : Nat} (h : n ≠ 0) : (limbs n).getLast? ≠ some 0 := by
  induction n using Nat.strongRecOn with
  | _ n ih =>
    rw [limbs_pos h]
    by_cases e : n / 4294967296 = 0
    · rw [e, limbs_zero]
      simp only [List.getLast?_singleton, ne_eq, Option.some.injEq]
      omega
    · have := ih _ (Nat.div_lt_self (Nat.pos_of_ne_zero h) (by decide)) e
      have hne : limbs (n / 4294967296) ≠ [] := fun h' => e (limbs_nil.1 h')
      obtain ⟨y, l, e2⟩ := List.exists_cons_of_ne_nil hne
      rw [e2] at this ⊢
      rw [List.getLast?_cons_cons]; exact this
theorem limbs_lv : ∀ l : List Nat, Dig l → l.getLast? ≠ some 0 → limbs (lv l) = l
  | [], _, _ => limbs_zero
  | x :: l, hd, hl => by
    have hx := hd x (by simp)
    have hd' : Dig l := fun y hy => hd y (by simp [hy])
    have hl' : l.getLast? ≠ some 0 := by
      cases l with
      | nil => simp
      | cons y l => rw [List.getLast?_cons_cons] at hl; exact hl
    have ih := limbs_lv l hd' hl'
    have hne : lv (x :: l) ≠ 0 := by
      intro e
      rw [lv] at e
      have h1 : x = 0 := by omega
      have h2 : lv l = 0 := by omega
      rw [h2, limbs_zero] at ih
      subst ih
      rw [h1] at hl
      simp at hl
    rw [limbs_pos hne]
    have h1 : lv (x :: l) % 4294967296 = x := by rw [lv, Nat.add_mul_mod_self_left, Nat.mod_eq_of_lt hx]
    have h2 : lv (x :: l) / 4294967296 = lv l := by rw [lv, Nat.add_mul_div_left _ _ (by decide), Nat.div_eq_of_lt hx, Nat.zero_add]
    rw [h1, h2, ih]

theorem lv_append : ∀ a b : List Nat, lv (a ++ b) = lv a + 4294967296 ^ a.length * lv b
  | [], b => by simp [lv]
  | x :: a, b => by
    rw [List.cons_append, lv, lv_append a b, lv, List.length_cons, Nat.pow_succ, Nat.mul_add, Nat.add_assoc]
    congr 2
    rw [Nat.mul_comm (4294967296 ^ a.length) 4294967296, Nat.mul_assoc]
theorem lv_lt : ∀ l : List Nat, Dig l → lv l < 4294967296 ^ l.length
  | [], _ => by simp [lv]
  | x :: l, h => by
    have h1 := h x (by simp)
    have h2 := lv_lt l fun y hy => h y (by simp [hy])
    rw [lv, List.length_cons, Nat.pow_succ]
    omega
theorem lv_replicate (n : Nat) : lv (List.replicate n 0) = 0 := by
  induction n with
  | zero => rfl
  | succ n ih => rw [List.replicate_succ, lv, ih]
theorem lv_snoc (l : List Nat) (x : Nat) : lv (l ++ [x]) = lv l + 4294967296 ^ l.length * x := by rw [lv_append]; simp [lv]
/-- Digits without the last zeros. -/
theorem limbs_trim {l : List Nat} {k : Nat} (hd : Dig l) (hk : k ≤ l.length) (hz : ∀ j, k ≤ j → j < l.length → l.getD j 0 = 0) (hl : k = 0 ∨ l.getD (k - 1) 0 ≠ 0) : l.take k = limbs (lv l) := by
  have e : l = l.take k ++ List.replicate (l.length - k) 0 := by
    refine List.ext_getElem (by simp; omega) fun j h1 h2 => ?_
    by_cases hj : j < k
    · rw [List.getElem_append_left (by simp; omega), List.getElem_take]
    · rw [List.getElem_append_right (by simp; omega), List.getElem_replicate]
      have := hz j (by omega) h1
      simpa [List.getD, h1] using this
  have e2 : lv l = lv (l.take k) := by
    conv => lhs; rw [e]
    rw [lv_append, lv_replicate, Nat.mul_zero, Nat.add_zero]
  rw [e2]
  refine (limbs_lv _ (fun x hx => hd x (List.mem_of_mem_take hx)) ?_).symm
  rcases hl with hl | hl
  · subst hl; simp
  · by_cases h0 : k = 0
    · subst h0; simp
    · rw [List.getLast?_eq_getElem?]
      have hlen : (l.take k).length = k := by simp; omega
      rw [hlen, List.getElem?_take_of_lt (by omega)]
      intro h
      rw [List.getD_eq_getElem?_getD, h] at hl
      exact hl rfl
theorem limbs_length_le {n k : Nat} (h : n < 4294967296 ^ k) : (limbs n).length ≤ k := by
  induction k generalizing n with
  | zero => have : n = 0 := by simpa using h
            subst this; rw [limbs_zero]; simp
  | succ k ih =>
    by_cases e : n = 0
    · subst e; rw [limbs_zero]; simp
    · rw [limbs_pos e, List.length_cons]
      have : n / 4294967296 < 4294967296 ^ k := Nat.div_lt_of_lt_mul (by rw [Nat.pow_succ, Nat.mul_comm] at h; exact h)
      have := ih this
      omega
theorem lt_limbs (n : Nat) : n < 4294967296 ^ (limbs n).length := by
  have := lv_lt _ (limbs_dig n)
  rwa [lv_limbs] at this
theorem limbs_le {a b : Nat} (h : a ≤ b) : (limbs a).length ≤ (limbs b).length := limbs_length_le (Nat.lt_of_le_of_lt h (lt_limbs b))
theorem ge_limbs {n : Nat} (h : n ≠ 0) : 4294967296 ^ ((limbs n).length - 1) ≤ n := by
  refine Nat.le_of_not_lt fun hlt => ?_
  have h1 := limbs_length_le hlt
  have h2 : limbs n ≠ [] := fun e => h (limbs_nil.1 e)
  have h3 : (limbs n).length ≠ 0 := fun e => h2 (List.eq_nil_of_length_eq_zero e)
  omega
end Nt

def u32s (l : List Nat) : List PV := l.map fun (n : Nat) => PV.int .u32 (n : Int)
theorem u32s_length (l : List Nat) : (u32s l).length = l.length := List.length_map ..
theorem u32s_get {l : List Nat} {j : Nat} (h : j < l.length) : (u32s l).getD j .undef = .int .u32 ((l.getD j 0 : Nat) : Int) := by simp [u32s, List.getD, h]
theorem u32s_set (l : List Nat) (j x : Nat) : (u32s l).set j (.int .u32 (x : Int)) = u32s (l.set j x) := by simp [u32s, List.map_set]
theorem u32s_take (l : List Nat) (n : Nat) : (u32s l).take n = u32s (l.take n) := by simp [u32s, List.map_take]
theorem u32s_drop (l : List Nat) (n : Nat) : (u32s l).drop n = u32s (l.drop n) := by simp [u32s, List.map_drop]
theorem u32s_replicate (n : Nat) (x : Nat) : List.replicate n (PV.int .u32 (x : Int)) = u32s (List.replicate n x) := by simp [u32s, List.map_replicate]
theorem refsL_u32s (l : List Nat) : PV.refsL (u32s l) = [] := by
  induction l with
  | nil => rfl
  | cons x l ih => simpa [u32s, PV.refsL, PV.refs] using ih
theorem renL_u32s (f : Nat → Nat) (l : List Nat) : PV.renL f (u32s l) = u32s l := PV.renL_none f _ (refsL_u32s l)
theorem snap_u32s (g : Store) (d : Nat) (l : List Nat) : (u32s l).map (PV.snap g d) = u32s l := by
  induction l with
  | nil => rfl
  | cons x l ih =>
    simp only [u32s, List.map_cons, List.map_map] at ih ⊢
    rw [ih]
    cases d <;> rfl
/-- A natural number of the program. -/
def pvN (n : Nat) : PV := .agg [.slc 1 (u32s (Nt.limbs n))]
theorem wrap_u32 {x : Int} (h : 0 ≤ x) (h' : x < 4294967296) : IntKind.u32.wrap x = x := by
  simp [IntKind.wrap, IntKind.signed, IntKind.bits]; omega
theorem wrap_u64 {x : Int} (h : 0 ≤ x) (h' : x < 18446744073709551616) : IntKind.u64.wrap x = x := by
  simp [IntKind.wrap, IntKind.signed, IntKind.bits]; omega
theorem wrap_u32_nat (x : Nat) : IntKind.u32.wrap (x : Int) = ((x % 4294967296 : Nat) : Int) := by
  simp [IntKind.wrap, IntKind.signed, IntKind.bits]
theorem wrap_u64_nat (x : Nat) : IntKind.u64.wrap (x : Int) = ((x % 18446744073709551616 : Nat) : Int) := by
  simp [IntKind.wrap, IntKind.signed, IntKind.bits]
end Go.V
/- Layer 1: digits without the last zeros; small numbers. -/
set_option linter.unusedVariables false
set_option linter.unusedSimpArgs false
namespace Go.V
open Go.RowKit Go.Proofs
attribute [local irreducible] wp seqK lexK opK callK upd sto Good GoodR

theorem norm_len {l : List Nat} {k : Nat} (hk : k ≤ l.length) (h : l.take k = Nt.limbs (Nt.lv l)) : k = (Nt.limbs (Nt.lv l)).length := by
  rw [← h]; simp; omega

theorem norm_good (l : List Nat) (hd : Nt.Dig l) (hl : l.length ≤ 1099511627776) :
    GoodR Try.prog 75 [.sref 1 1 0 l.length false] (sto [(1, .row 105 1 (u32s l))])
      fun r g => r = .agg [.sref 1 1 0 (Nt.limbs (Nt.lv l)).length true] ∧ g = sto [(1, .row 105 1 (u32s l))] := by
  refine v_enterR ttok mixed Try.func75 (by kernel_rfl) rfl Try.ntmps75 Try.results75 (by simp) ?_; simp only [argEnv, List.range, List.range.loop, List.length_cons, List.length_nil, List.zip_cons_cons, List.zip_nil_left]
  (repeat (first | refine Stp.go ?_ | refine v_region ?_ | refine v_regionD ?_ | refine v_blocky (by decide) ?_ | ((first | refine v_o rfl ?_ ?_ | refine v_oD rfl ?_ ?_); (focus (simp only [ go_sem]; done)); simp only [Env.put]) | ((first | refine v_u rfl fun K hK => ?_ | refine v_g rfl fun K hK => ?_ | refine v_uD rfl fun K hK => ?_ | refine v_gD rfl fun K hK => ?_); simp only [ go_sem]) | (fail) | refine v_end ?_ | refine v_endD (by kernel_rfl) ?_ | (refine hK _ _ ?_; clear hK K) | refine ⟨by (first | trivial | assumption | omega | (intros; first | assumption | omega)), ?_⟩ | (apply v_condb; (focus (simp only [ go_sem]; first | exact pvt | exact pvf)); simp only [cond_true, cond_false]) | fail))
  refine v_loop [0, 2, 3] (fun k : Nat => k ≤ l.length ∧ ∀ j, k ≤ j → j < l.length → l.getD j 0 = 0) (fun k => k) (fun k => [.sref 1 1 0 l.length false, .ptr 102 1 0 0, .int .i64 k])
    (fun k => [(1, .row 105 1 (u32s l)), (102, .row 49 1 [.agg [.nilS]])]) l.length ⟨Nat.le_refl _, fun j h1 h2 => absurd h2 (Nat.not_lt.2 h1)⟩ ?_ ?_
  · exact (fits_sto _ (fun x => if x = 102 then 1000 else x) (by simp [Env.get, PV.renL, PV.ren , renL_u32s, refsL_u32s]) (by simp [PV.refsL, PV.refs , renL_u32s, refsL_u32s]) (by simp [SC.live, SC.ren, SC.refs, PV.renL, PV.ren, PV.refsL, PV.refs, sto_cons, sto_nil , renL_u32s, refsL_u32s]) (by simp ))
  · rintro k ⟨hk, hz⟩
    simp only [List.zip_cons_cons, List.zip_nil_left]
    have key : (∃ j, k = j + 1 ∧ l.getD j 0 = 0) ∨ (k = 0 ∨ l.getD (k - 1) 0 ≠ 0) := by
      cases k with
      | zero => exact .inr (.inl rfl)
      | succ j =>
        by_cases e : l.getD j 0 = 0
        · exact .inl ⟨j, rfl, e⟩
        · exact .inr (.inr e)
    rcases key with ⟨j, rfl, e⟩ | hstop
    · have v1 : (0 : Int) < ((j + 1 : Nat) : Int) := by omega
      have v2 : IntKind.i64.wrap (((j + 1 : Nat) : Int) - 1) = (j : Int) := by rw [wrap_i64 (by omega) (by omega)]; omega
      have v3 : (j : Int) < l.length := by omega
      have v4 : (0 : Int) ≤ j := by omega
      have v5 : j < l.length := by omega
      have e1 := u32s_get v5
      have e2 : ((l.getD j 0 : Nat) : Int) = 0 := by omega
      rw [e2] at e1
      (repeat (first | refine Stp.go ?_ | refine v_region ?_ | refine v_regionD ?_ | refine v_blocky (by decide) ?_ | ((first | refine v_o rfl ?_ ?_ | refine v_oD rfl ?_ ?_); (focus (simp only [ite_bool, u32s_length, v1, v2, v3, v4, v5, e1, go_sem]; done)); simp only [Env.put]) | ((first | refine v_u rfl fun K hK => ?_ | refine v_g rfl fun K hK => ?_ | refine v_uD rfl fun K hK => ?_ | refine v_gD rfl fun K hK => ?_); simp only [ite_bool, u32s_length, v1, v2, v3, v4, v5, e1, go_sem]) | (fail) | refine v_end ?_ | refine v_endD (by kernel_rfl) ?_ | (refine hK _ _ ?_; clear hK K) | refine ⟨by (first | trivial | assumption | omega | (intros; first | assumption | omega)), ?_⟩ | (apply v_condb; (focus (simp only [ite_bool, u32s_length, v1, v2, v3, v4, v5, e1, go_sem]; first | exact pvt | exact pvf)); simp only [cond_true, cond_false]) | fail))
      refine v_round j ⟨by omega, fun i h1 h2 => ?_⟩ (by omega) (fits_sto _ id (by simp [Env.get, PV.renL, PV.ren , renL_u32s, refsL_u32s]) (by simp [PV.refsL, PV.refs , renL_u32s, refsL_u32s]) (by simp [SC.live, SC.ren, SC.refs, PV.renL, PV.ren, PV.refsL, PV.refs, sto_cons, sto_nil , renL_u32s, refsL_u32s]) (by simp ))
      by_cases e3 : i = j
      · subst e3; exact e
      · exact hz i (by omega) h2
    · have ht := Nt.limbs_trim hd hk hz hstop
      have hkl := norm_len hk ht
      have fin : k = 0 ∨ ∃ j, k = j + 1 ∧ l.getD j 0 ≠ 0 := by
        cases k with
        | zero => exact .inl rfl
        | succ j => exact .inr ⟨j, rfl, hstop.resolve_left (by omega)⟩
      rcases fin with rfl | ⟨j, rfl, e⟩
      · have v1 : ¬ (0 : Int) < ((0 : Nat) : Int) := by omega
        have v2 : (0 : Int) ≤ ((0 : Nat) : Int) := by omega
        have v3 : ((0 : Nat) : Int) ≤ l.length := by omega
        (repeat (first | refine Stp.go ?_ | refine v_region ?_ | refine v_regionD ?_ | refine v_blocky (by decide) ?_ | ((first | refine v_o rfl ?_ ?_ | refine v_oD rfl ?_ ?_); (focus (simp only [ite_bool, u32s_length, v1, v2, v3, go_sem]; done)); simp only [Env.put]) | ((first | refine v_u rfl fun K hK => ?_ | refine v_g rfl fun K hK => ?_ | refine v_uD rfl fun K hK => ?_ | refine v_gD rfl fun K hK => ?_); simp only [ite_bool, u32s_length, v1, v2, v3, go_sem]) | (refine v_loopx ?_) | refine v_end ?_ | refine v_endD (by kernel_rfl) ?_ | (refine hK _ _ ?_; clear hK K) | refine ⟨by (first | trivial | assumption | omega | (intros; first | assumption | omega)), ?_⟩ | (apply v_condb; (focus (simp only [ite_bool, u32s_length, v1, v2, v3, go_sem]; first | exact pvt | exact pvf)); simp only [cond_true, cond_false]) | fail))
        (first | refine v_finR_n ?_ | refine v_finR_r ?_); simp only [ resK, go_sem]
        rw [← hkl]
        refine finR_sto (id) (.agg [.sref 1 1 0 0 true]) ([(1, .row 105 1 (u32s l))]) (⟨rfl, rfl⟩) (by simp [one, PV.ren, PV.renL , renL_u32s, refsL_u32s]) (by simp [PV.refs, PV.refsL , renL_u32s, refsL_u32s]) (by simp [SC.live, SC.ren, SC.refs, PV.renL, PV.ren, PV.refsL, PV.refs, sto_cons, sto_nil, renL_ints, refsL_ints, renL_nats, refsL_nats, List.length_set , renL_u32s, refsL_u32s]) (by simp )
      · have v1 : (0 : Int) < ((j + 1 : Nat) : Int) := by omega
        have v2 : IntKind.i64.wrap (((j + 1 : Nat) : Int) - 1) = (j : Int) := by rw [wrap_i64 (by omega) (by omega)]; omega
        have v3 : (j : Int) < l.length := by omega
        have v4 : (0 : Int) ≤ j := by omega
        have v5 : j < l.length := by omega
        have v6 : (0 : Int) ≤ ((j + 1 : Nat) : Int) := by omega
        have v7 : ((j + 1 : Nat) : Int) ≤ l.length := by omega
        have e1 := u32s_get v5
        have e2 : ¬ ((l.getD j 0 : Nat) : Int) = 0 := by omega
        (repeat (first | refine Stp.go ?_ | refine v_region ?_ | refine v_regionD ?_ | refine v_blocky (by decide) ?_ | ((first | refine v_o rfl ?_ ?_ | refine v_oD rfl ?_ ?_); (focus (simp only [ite_bool, u32s_length, v1, v2, v3, v4, v5, v6, v7, e1, e2, go_sem]; done)); simp only [Env.put]) | ((first | refine v_u rfl fun K hK => ?_ | refine v_g rfl fun K hK => ?_ | refine v_uD rfl fun K hK => ?_ | refine v_gD rfl fun K hK => ?_); simp only [ite_bool, u32s_length, v1, v2, v3, v4, v5, v6, v7, e1, e2, go_sem]) | (refine v_loopx ?_) | refine v_end ?_ | refine v_endD (by kernel_rfl) ?_ | (refine hK _ _ ?_; clear hK K) | refine ⟨by (first | trivial | assumption | omega | (intros; first | assumption | omega)), ?_⟩ | (apply v_condb; (focus (simp only [ite_bool, u32s_length, v1, v2, v3, v4, v5, v6, v7, e1, e2, go_sem]; first | exact pvt | exact pvf)); simp only [cond_true, cond_false]) | fail))
        (first | refine v_finR_n ?_ | refine v_finR_r ?_); simp only [ resK, go_sem]
        rw [← hkl]
        refine finR_sto (id) (.agg [.sref 1 1 0 (j + 1) true]) ([(1, .row 105 1 (u32s l))]) (⟨rfl, rfl⟩) (by simp [one, PV.ren, PV.renL , renL_u32s, refsL_u32s]) (by simp [PV.refs, PV.refsL , renL_u32s, refsL_u32s]) (by simp [SC.live, SC.ren, SC.refs, PV.renL, PV.ren, PV.refsL, PV.refs, sto_cons, sto_nil, renL_ints, refsL_ints, renL_nats, refsL_nats, List.length_set , renL_u32s, refsL_u32s]) (by simp )

theorem iszero_good (n : Nat) : Good Try.prog 49 [pvN n] (.bool (decide (n = 0))) := by
  refine v_enter ttok mixed Try.func49 (by kernel_rfl) rfl Try.ntmps49 Try.results49 (by simp) ?_; rw [fresh_sto]; simp only [argEnv, List.range, List.range.loop, List.length_cons, List.length_nil, List.zip_cons_cons, List.zip_nil_left]
  (repeat (first | refine Stp.go ?_ | refine v_region ?_ | refine v_regionD ?_ | refine v_blocky (by decide) ?_ | ((first | refine v_o rfl ?_ ?_ | refine v_oD rfl ?_ ?_); (focus (simp only [pvN, u32s_length, go_sem]; done)); simp only [Env.put]) | ((first | refine v_u rfl fun K hK => ?_ | refine v_g rfl fun K hK => ?_ | refine v_uD rfl fun K hK => ?_ | refine v_gD rfl fun K hK => ?_); simp only [pvN, u32s_length, go_sem]) | (fail) | refine v_end ?_ | refine v_endD (by kernel_rfl) ?_ | (refine hK _ _ ?_; clear hK K) | refine ⟨by (first | trivial | assumption | omega | (intros; first | assumption | omega)), ?_⟩ | (apply v_condb; (focus (simp only [pvN, u32s_length, go_sem]; first | exact pvt | exact pvf)); simp only [cond_true, cond_false]) | fail))
  (first | refine v_fin_n ?_ | refine v_fin_r ?_); simp only [ resK, one, PV.snap, go_sem]
  refine wk_bool ?_
  have : (Nt.limbs n).length = 0 ↔ n = 0 := by rw [List.length_eq_zero_iff, Nt.limbs_nil]
  by_cases h : n = 0
  · simp [h, Nt.limbs_zero]
  · have h' : ¬ (Nt.limbs n).length = 0 := fun e => h (this.1 e)
    simp [h, h']

theorem digit_good (l : List Nat) (i : Nat) (h : l.length ≤ 1099511627776) : Good Try.prog 77 [.slc 1 (u32s l), .int .i64 i] (.int .u32 (l.getD i 0 : Nat)) := by
  refine v_enter ttok mixed Try.func77 (by kernel_rfl) rfl Try.ntmps77 Try.results77 (by simp) ?_; rw [fresh_sto]; simp only [argEnv, List.range, List.range.loop, List.length_cons, List.length_nil, List.zip_cons_cons, List.zip_nil_left]
  by_cases hi : i < l.length
  · have v1 : (i : Int) < l.length := by omega
    have v2 : (0 : Int) ≤ i := by omega
    have e1 := u32s_get hi
    (repeat (first | refine Stp.go ?_ | refine v_region ?_ | refine v_regionD ?_ | refine v_blocky (by decide) ?_ | ((first | refine v_o rfl ?_ ?_ | refine v_oD rfl ?_ ?_); (focus (simp only [u32s_length, v1, v2, e1, go_sem]; done)); simp only [Env.put]) | ((first | refine v_u rfl fun K hK => ?_ | refine v_g rfl fun K hK => ?_ | refine v_uD rfl fun K hK => ?_ | refine v_gD rfl fun K hK => ?_); simp only [u32s_length, v1, v2, e1, go_sem]) | (fail) | refine v_end ?_ | refine v_endD (by kernel_rfl) ?_ | (refine hK _ _ ?_; clear hK K) | refine ⟨by (first | trivial | assumption | omega | (intros; first | assumption | omega)), ?_⟩ | (apply v_condb; (focus (simp only [u32s_length, v1, v2, e1, go_sem]; first | exact pvt | exact pvf)); simp only [cond_true, cond_false]) | fail))
    (first | refine v_fin_n ?_ | refine v_fin_r ?_); simp only [ resK, one, PV.snap, go_sem]
    exact Wk.refl _
  · have v1 : ¬ (i : Int) < l.length := by omega
    have e1 : l.getD i 0 = 0 := by rw [List.getD_eq_getElem?_getD, List.getElem?_eq_none (by omega)]; rfl
    (repeat (first | refine Stp.go ?_ | refine v_region ?_ | refine v_regionD ?_ | refine v_blocky (by decide) ?_ | ((first | refine v_o rfl ?_ ?_ | refine v_oD rfl ?_ ?_); (focus (simp only [u32s_length, v1, go_sem]; done)); simp only [Env.put]) | ((first | refine v_u rfl fun K hK => ?_ | refine v_g rfl fun K hK => ?_ | refine v_uD rfl fun K hK => ?_ | refine v_gD rfl fun K hK => ?_); simp only [u32s_length, v1, go_sem]) | (fail) | refine v_end ?_ | refine v_endD (by kernel_rfl) ?_ | (refine hK _ _ ?_; clear hK K) | refine ⟨by (first | trivial | assumption | omega | (intros; first | assumption | omega)), ?_⟩ | (apply v_condb; (focus (simp only [u32s_length, v1, go_sem]; first | exact pvt | exact pvf)); simp only [cond_true, cond_false]) | fail))
    (first | refine v_fin_n ?_ | refine v_fin_r ?_); simp only [ resK, one, PV.snap, go_sem]
    rw [e1]; exact Wk.refl _

theorem add32_good (x y c : Nat) (hx : x < 4294967296) (hy : y < 4294967296) (hc : c ≤ 1) : Good Try.prog 76 [.int .u32 x, .int .u32 y, .int .u32 c] (.tup [.int .u32 ((x + y + c) % 4294967296 : Nat), .int .u32 ((x + y + c) / 4294967296 : Nat)]) := by
  refine v_enter ttok mixed Try.func76 (by kernel_rfl) rfl Try.ntmps76 Try.results76 (by simp) ?_; rw [fresh_sto]; simp only [argEnv, List.range, List.range.loop, List.length_cons, List.length_nil, List.zip_cons_cons, List.zip_nil_left]
  have e1 : IntKind.u64.wrap (x : Int) = (x : Int) := wrap_u64 (by omega) (by omega)
  have e2 : IntKind.u64.wrap (y : Int) = (y : Int) := wrap_u64 (by omega) (by omega)
  have e3 : IntKind.u64.wrap (c : Int) = (c : Int) := wrap_u64 (by omega) (by omega)
  have e4 : IntKind.u64.wrap ((x : Int) + y) = ((x + y : Nat) : Int) := by rw [wrap_u64 (by omega) (by omega)]; omega
  have e5 : IntKind.u64.wrap (((x + y : Nat) : Int) + c) = ((x + y + c : Nat) : Int) := by rw [wrap_u64 (by omega) (by omega)]; omega
  have e6 := wrap_u32_nat (x + y + c)
  have e7 : (((x + y + c : Nat) : Int)).fdiv 4294967296 = (((x + y + c) / 4294967296 : Nat) : Int) := by
    rw [Int.fdiv_eq_ediv_of_nonneg _ (by omega)]; omega
  have e8 : IntKind.u32.wrap (((x + y + c) / 4294967296 : Nat) : Int) = (((x + y + c) / 4294967296 : Nat) : Int) := wrap_u32 (by omega) (by omega)
  have e9 : (2 : Int) ^ (min 32 64 : Nat) = 4294967296 := by decide
  (repeat (first | refine Stp.go ?_ | refine v_region ?_ | refine v_regionD ?_ | refine v_blocky (by decide) ?_ | ((first | refine v_o rfl ?_ ?_ | refine v_oD rfl ?_ ?_); (focus (simp only [e1, e2, e3, e4, e5, e6, e7, e8, e9, go_sem]; done)); simp only [Env.put]) | ((first | refine v_u rfl fun K hK => ?_ | refine v_g rfl fun K hK => ?_ | refine v_uD rfl fun K hK => ?_ | refine v_gD rfl fun K hK => ?_); simp only [e1, e2, e3, e4, e5, e6, e7, e8, e9, go_sem]) | (fail) | refine v_end ?_ | refine v_endD (by kernel_rfl) ?_ | (refine hK _ _ ?_; clear hK K) | refine ⟨by (first | trivial | assumption | omega | (intros; first | assumption | omega)), ?_⟩ | (apply v_condb; (focus (simp only [e1, e2, e3, e4, e5, e6, e7, e8, e9, go_sem]; first | exact pvt | exact pvf)); simp only [cond_true, cond_false]) | fail))
  (first | refine v_fin_n ?_ | refine v_fin_r ?_); simp only [ resK, one, PV.snap, go_sem]
  exact Wk.refl _

/-! ### Bits -/
theorem u32_and0 {a b : Nat} (ha : a < 4294967296) (hb : b < 4294967296) : IntKind.u32.wrap ((BitVec.ofInt 32 (a : Int) &&& BitVec.ofInt 32 (b : Int)).toNat : Int) = ((a &&& b : Nat) : Int) := by
  have e : (BitVec.ofInt 32 (a : Int) &&& BitVec.ofInt 32 (b : Int)).toNat = a &&& b := by
    simp [BitVec.toNat_and, BitVec.toNat_ofNat, Nat.mod_eq_of_lt ha, Nat.mod_eq_of_lt hb]
  have h : a &&& b < 4294967296 := Nat.lt_of_le_of_lt Nat.and_le_left ha
  rw [e]; exact wrap_u32 (by omega) (by omega)
theorem u32_or0 {a b : Nat} (ha : a < 4294967296) (hb : b < 4294967296) : IntKind.u32.wrap ((BitVec.ofInt 32 (a : Int) ||| BitVec.ofInt 32 (b : Int)).toNat : Int) = ((a ||| b : Nat) : Int) := by
  have e : (BitVec.ofInt 32 (a : Int) ||| BitVec.ofInt 32 (b : Int)).toNat = a ||| b := by
    simp [BitVec.toNat_or, BitVec.toNat_ofNat, Nat.mod_eq_of_lt ha, Nat.mod_eq_of_lt hb]
  have h : a ||| b < 2 ^ 32 := Nat.or_lt_two_pow (by omega) (by omega)
  rw [e]; exact wrap_u32 (by omega) (by omega)
theorem u32_xor0 {a b : Nat} (ha : a < 4294967296) (hb : b < 4294967296) : IntKind.u32.wrap ((BitVec.ofInt 32 (a : Int) ^^^ BitVec.ofInt 32 (b : Int)).toNat : Int) = ((a ^^^ b : Nat) : Int) := by
  have e : (BitVec.ofInt 32 (a : Int) ^^^ BitVec.ofInt 32 (b : Int)).toNat = a ^^^ b := by
    simp [BitVec.toNat_xor, BitVec.toNat_ofNat, Nat.mod_eq_of_lt ha, Nat.mod_eq_of_lt hb]
  have h : a ^^^ b < 2 ^ 32 := Nat.xor_lt_two_pow (by omega) (by omega)
  rw [e]; exact wrap_u32 (by omega) (by omega)
theorem op_and {a b : Nat} (ha : a < 4294967296) (hb : b < 4294967296) : intOp .and .u32 (a : Int) (b : Int) = .int .u32 ((a &&& b : Nat) : Int) := by
  show PV.int .u32 (IntKind.u32.wrap ((BitVec.ofInt 32 (a : Int) &&& BitVec.ofInt 32 (b : Int)).toNat : Int)) = _
  rw [u32_and0 ha hb]
theorem op_or {a b : Nat} (ha : a < 4294967296) (hb : b < 4294967296) : intOp .or .u32 (a : Int) (b : Int) = .int .u32 ((a ||| b : Nat) : Int) := by
  show PV.int .u32 (IntKind.u32.wrap ((BitVec.ofInt 32 (a : Int) ||| BitVec.ofInt 32 (b : Int)).toNat : Int)) = _
  rw [u32_or0 ha hb]
theorem op_xor {a b : Nat} (ha : a < 4294967296) (hb : b < 4294967296) : intOp .xor .u32 (a : Int) (b : Int) = .int .u32 ((a ^^^ b : Nat) : Int) := by
  show PV.int .u32 (IntKind.u32.wrap ((BitVec.ofInt 32 (a : Int) ^^^ BitVec.ofInt 32 (b : Int)).toNat : Int)) = _
  rw [u32_xor0 ha hb]
theorem u32_ones : (if IntKind.u32.signed = true then (-1 : Int) else IntKind.u32.max) = ((4294967295 : Nat) : Int) := by decide
/-- The borrow of a subtraction. -/
theorem borrow {x y c : Nat} (hx : x < 4294967296) (hy : y < 4294967296) (hc : c ≤ 1) :
    (((4294967295 ^^^ x) &&& y) ||| ((4294967295 ^^^ (x ^^^ y)) &&& ((x + 8589934592 - y - c) % 4294967296))) / 2147483648 = if x < y + c then 1 else 0 := by
  have hd : (x + 8589934592 - y - c) % 4294967296 < 4294967296 := Nat.mod_lt _ (by decide)
  have key : ∀ n, n < 4294967296 → n.testBit 31 = decide (2147483648 ≤ n) := fun n hn => by
    rw [Nat.testBit_eq_decide_div_mod_eq]
    have : n / 2 ^ 31 % 2 = 1 ↔ 2147483648 ≤ n := by omega
    simp only [this]
  have hdiv : ∀ n, n < 4294967296 → n / 2147483648 = if n.testBit 31 then 1 else 0 := fun n hn => by
    rw [key n hn]
    by_cases h : 2147483648 ≤ n <;> simp [h] <;> omega
  have h1 : ((4294967295 ^^^ x) &&& y) < 2 ^ 32 := Nat.lt_of_le_of_lt Nat.and_le_right (by omega)
  have h2 : ((4294967295 ^^^ (x ^^^ y)) &&& ((x + 8589934592 - y - c) % 4294967296)) < 2 ^ 32 := Nat.lt_of_le_of_lt Nat.and_le_right (by omega)
  have h3 := Nat.or_lt_two_pow h1 h2
  rw [hdiv _ (by omega)]
  have hm : (4294967295 : Nat).testBit 31 = true := by decide
  simp only [Nat.testBit_or, Nat.testBit_and, Nat.testBit_xor, hm, key x hx, key y hy, key _ hd]
  by_cases a1 : 2147483648 ≤ x <;> by_cases a2 : 2147483648 ≤ y <;> by_cases a3 : 2147483648 ≤ (x + 8589934592 - y - c) % 4294967296 <;> by_cases a4 : x < y + c <;> simp [a1, a2, a3, a4] <;> omega

theorem sub32_good (x y c : Nat) (hx : x < 4294967296) (hy : y < 4294967296) (hc : c ≤ 1) : Good Try.prog 78 [.int .u32 x, .int .u32 y, .int .u32 c] (.tup [.int .u32 ((x + 8589934592 - y - c) % 4294967296 : Nat), .int .u32 (if x < y + c then 1 else 0 : Nat)]) := by
  refine v_enter ttok mixed Try.func78 (by kernel_rfl) rfl Try.ntmps78 Try.results78 (by simp) ?_; rw [fresh_sto]; simp only [argEnv, List.range, List.range.loop, List.length_cons, List.length_nil, List.zip_cons_cons, List.zip_nil_left]
  have e1 : IntKind.u32.wrap ((x : Int) - y) = (((x + 4294967296 - y) % 4294967296 : Nat) : Int) := by
    have := wrap_u32_nat (x + 4294967296 - y)
    simp [IntKind.wrap, IntKind.signed, IntKind.bits] at this ⊢; omega
  have e2 : IntKind.u32.wrap ((((x + 4294967296 - y) % 4294967296 : Nat) : Int) - c) = (((x + 8589934592 - y - c) % 4294967296 : Nat) : Int) := by
    simp [IntKind.wrap, IntKind.signed, IntKind.bits]; omega
  have hd : (x + 8589934592 - y - c) % 4294967296 < 4294967296 := Nat.mod_lt _ (by decide)
  have hb := borrow hx hy hc
  generalize (x + 8589934592 - y - c) % 4294967296 = d at *
  have m1 : (4294967295 : Nat) < 4294967296 := by decide
  have l1 : 4294967295 ^^^ x < 2 ^ 32 := Nat.xor_lt_two_pow (by omega) (by omega)
  have l2 : x ^^^ y < 2 ^ 32 := Nat.xor_lt_two_pow (by omega) (by omega)
  have l3 : 4294967295 ^^^ (x ^^^ y) < 2 ^ 32 := Nat.xor_lt_two_pow (by omega) (by omega)
  have l4 : (4294967295 ^^^ x) &&& y < 4294967296 := Nat.lt_of_le_of_lt Nat.and_le_right hy
  have l5 : (4294967295 ^^^ (x ^^^ y)) &&& d < 4294967296 := Nat.lt_of_le_of_lt Nat.and_le_right hd
  have e3 := op_xor m1 hx
  have e4 := op_and (a := 4294967295 ^^^ x) (by omega) hy
  have e5 := op_xor hx hy
  have e6 := op_xor m1 (b := x ^^^ y) (by omega)
  have e7 := op_and (a := 4294967295 ^^^ (x ^^^ y)) (by omega) hd
  have e8 := op_or l4 l5
  have e9 : (2 : Int) ^ (min 31 32 : Nat) = 2147483648 := by decide
  have l6 := Nat.or_lt_two_pow (n := 32) (x := (4294967295 ^^^ x) &&& y) (y := (4294967295 ^^^ (x ^^^ y)) &&& d) (by omega) (by omega)
  have e10 : ((((4294967295 ^^^ x) &&& y ||| (4294967295 ^^^ (x ^^^ y)) &&& d : Nat) : Int)).fdiv 2147483648 = ((if x < y + c then 1 else 0 : Nat) : Int) := by
    rw [Int.fdiv_eq_ediv_of_nonneg _ (by omega), ← hb]; omega
  (repeat (first | refine Stp.go ?_ | refine v_region ?_ | refine v_regionD ?_ | refine v_blocky (by decide) ?_ | ((first | refine v_o rfl ?_ ?_ | refine v_oD rfl ?_ ?_); (focus (simp only [u32_ones, e1, e2, e3, e4, e5, e6, e7, e8, e9, e10, go_sem]; done)); simp only [Env.put]) | ((first | refine v_u rfl fun K hK => ?_ | refine v_g rfl fun K hK => ?_ | refine v_uD rfl fun K hK => ?_ | refine v_gD rfl fun K hK => ?_); simp only [u32_ones, e1, e2, e3, e4, e5, e6, e7, e8, e9, e10, go_sem]) | (fail) | refine v_end ?_ | refine v_endD (by kernel_rfl) ?_ | (refine hK _ _ ?_; clear hK K) | refine ⟨by (first | trivial | assumption | omega | (intros; first | assumption | omega)), ?_⟩ | (apply v_condb; (focus (simp only [u32_ones, e1, e2, e3, e4, e5, e6, e7, e8, e9, e10, go_sem]; first | exact pvt | exact pvf)); simp only [cond_true, cond_false]) | fail))
  (first | refine v_fin_n ?_ | refine v_fin_r ?_); simp only [ resK, one, PV.snap, go_sem]
  exact Wk.refl _
end Go.V
/- Layer 1: Of and Add. -/
set_option linter.unusedVariables false
set_option linter.unusedSimpArgs false
namespace Go.V
open Go.RowKit Go.Proofs
attribute [local irreducible] wp seqK lexK opK callK upd sto Good GoodR

theorem Nt.exists_trim (l : List Nat) : ∀ n, n ≤ l.length → (∀ j, n ≤ j → j < l.length → l.getD j 0 = 0) → ∃ k, k ≤ l.length ∧ (∀ j, k ≤ j → j < l.length → l.getD j 0 = 0) ∧ (k = 0 ∨ l.getD (k - 1) 0 ≠ 0)
  | 0, h, hz => ⟨0, h, hz, .inl rfl⟩
  | n + 1, h, hz => by
    by_cases e : l.getD n 0 = 0
    · refine Nt.exists_trim l n (by omega) fun j h1 h2 => ?_
      by_cases e2 : j = n
      · subst e2; exact e
      · exact hz j (by omega) h2
    · exact ⟨n + 1, h, hz, .inr e⟩
theorem Nt.take_limbs {l : List Nat} (hd : Nt.Dig l) : l.take (Nt.limbs (Nt.lv l)).length = Nt.limbs (Nt.lv l) ∧ (Nt.limbs (Nt.lv l)).length ≤ l.length := by
  obtain ⟨k, h1, h2, h3⟩ := Nt.exists_trim l l.length (Nat.le_refl _) (fun j h1 h2 => absurd h2 (Nat.not_lt.2 h1))
  have ht := Nt.limbs_trim hd h1 h2 h3
  have hk := norm_len h1 ht
  rw [← hk]
  exact ⟨ht, h1⟩
theorem wk_norm {l : List Nat} (hd : Nt.Dig l) {n : Nat} (h : Nt.lv l = n) : Wk (.agg [.slc 1 ((u32s l).take (Nt.limbs n).length)]) (pvN n) := by
  have := Nt.take_limbs hd
  rw [h] at this
  rw [u32s_take, this.1]; exact .refl _

theorem wk_norm4 {g : Store} {d : Nat} {l : List Nat} (hd : Nt.Dig l) {n : Nat} (h : Nt.lv l = n) : Wk (.agg [.slc 1 (((u32s l).take (Nt.limbs n).length).map (PV.snap g d))]) (pvN n) := by
  rw [u32s_take, snap_u32s, ← u32s_take]; exact wk_norm hd h

theorem of_good (n : Nat) (hn : n < 18446744073709551616) : Good Try.prog 74 [.int .u64 n] (pvN n) := by
  refine v_enter ttok mixed Try.func74 (by kernel_rfl) rfl Try.ntmps74 Try.results74 (by simp) ?_; rw [fresh_sto]; simp only [argEnv, List.range, List.range.loop, List.length_cons, List.length_nil, List.zip_cons_cons, List.zip_nil_left]
  have e1 := wrap_u32_nat n
  have e2 : (2 : Int) ^ (min 32 64 : Nat) = 4294967296 := by decide
  have e3 : (n : Int).fdiv 4294967296 = ((n / 4294967296 : Nat) : Int) := by rw [Int.fdiv_eq_ediv_of_nonneg _ (by omega)]; omega
  have e4 : IntKind.u32.wrap ((n / 4294967296 : Nat) : Int) = ((n / 4294967296 : Nat) : Int) := wrap_u32 (by omega) (by omega)
  have hd : Nt.Dig [n % 4294967296, n / 4294967296] := by
    intro x hx
    simp only [List.mem_cons, List.not_mem_nil, or_false] at hx
    rcases hx with rfl | rfl <;> omega
  have hv : Nt.lv [n % 4294967296, n / 4294967296] = n := by simp only [Nt.lv]; omega
  have hnorm := norm_good [n % 4294967296, n / 4294967296] hd (by simp)
  have htk := (Nt.take_limbs hd).2
  rw [hv] at hnorm htk
  (repeat (first | refine Stp.go ?_ | refine v_region ?_ | refine v_regionD ?_ | refine v_blocky (by decide) ?_ | (refine v_callR (by simp [dstOk]) rfl ?_; simp only [List.map_cons, List.map_nil, List.nil_append, List.append_nil, List.cons_append, Env.eval, Env.get, reduceIte, Nat.reduceEqDiff, List.toList_toArray, PV.ofConst]; refine callR_sto ([.sref 1 1 0 2 false]) ([(1, .row 105 1 (u32s [n % 4294967296, n / 4294967296]))]) ((fun x => if x = 1 then 2005 else x)) (hnorm) (by simp [PV.renL, PV.ren , u32s]) (by simp [PV.refsL, PV.refs , u32s]) (by simp [SC.live, SC.ren, SC.refs, PV.renL, PV.ren, PV.refsL, PV.refs, sto_cons, sto_nil, renL_ints, refsL_ints, renL_nats, refsL_nats, List.length_set , u32s]) (by simp [id_eq , u32s]) ?_; rintro _ _ ⟨rfl, rfl⟩; refine ⟨[(1, .row 105 1 (u32s [n % 4294967296, n / 4294967296]))], (fun x => if x = 1 then 2005 else x), rfl, (by simp [SC.live, SC.ren, SC.refs, PV.renL, PV.ren, PV.refsL, PV.refs, sto_cons, sto_nil, renL_ints, refsL_ints, renL_nats, refsL_nats, List.length_set , u32s]), (by simp [PV.refsL, PV.refs , u32s]), (by simp [Free, sto_cons, sto_nil , u32s]), (by simp [id_eq , u32s]), ?_⟩; simp only [backL, List.map_cons, List.map_nil, List.cons_append, List.nil_append, SC.ren, PV.renL, PV.ren, renL_ints, renL_nats, id_eq, Env.put , u32s]) | ((first | refine v_o rfl ?_ ?_ | refine v_oD rfl ?_ ?_); (focus (simp only [e1, e2, e3, e4, go_sem]; done)); simp only [Env.put]) | ((first | refine v_u rfl fun K hK => ?_ | refine v_g rfl fun K hK => ?_ | refine v_uD rfl fun K hK => ?_ | refine v_gD rfl fun K hK => ?_); simp only [e1, e2, e3, e4, go_sem]) | (fail) | refine v_end ?_ | refine v_endD (by kernel_rfl) ?_ | (refine hK _ _ ?_; clear hK K) | refine ⟨by (first | trivial | assumption | omega | (intros; first | assumption | omega)), ?_⟩ | (apply v_condb; (focus (simp only [e1, e2, e3, e4, go_sem]; first | exact pvt | exact pvf)); simp only [cond_true, cond_false]) | fail))
  have htk' : (Nt.limbs n).length ≤ 2 := htk
  (first | refine v_fin_n ?_ | refine v_fin_r ?_); simp only [htk', List.drop_zero, resK, one, PV.snap, go_sem]
  exact wk_norm4 (l := [n % 4294967296, n / 4294967296]) hd hv

theorem Nt.lv_take_succ (l : List Nat) (k : Nat) : Nt.lv (l.take (k + 1)) = Nt.lv (l.take k) + 4294967296 ^ k * l.getD k 0 := by
  by_cases h : k < l.length
  · rw [List.take_succ_eq_append_getElem h, Nt.lv_snoc]
    have e1 : (l.take k).length = k := by simp; omega
    have e2 : l.getD k 0 = l[k] := by simp [List.getD, h]
    rw [e1, e2]
  · have e2 : l.getD k 0 = 0 := by rw [List.getD_eq_getElem?_getD, List.getElem?_eq_none (by omega)]; rfl
    rw [List.take_of_length_le (by omega), List.take_of_length_le (by omega), e2]; simp
theorem zeros_u32s (n : Nat) : List.replicate n (PV.int .u32 0) = u32s (List.replicate n 0) := by simp [u32s]
/-- Digits so far, and zeros. -/
def padz (o : List Nat) (L : Nat) : List Nat := o ++ List.replicate (L - o.length) 0
theorem padz_length {o : List Nat} {L : Nat} (h : o.length ≤ L) : (padz o L).length = L := by simp [padz]; omega
theorem padz_set {o : List Nat} {L : Nat} (h : o.length < L) (x : Nat) : (padz o L).set o.length x = padz (o ++ [x]) L := by
  unfold padz
  have : L - o.length = (L - (o ++ [x]).length) + 1 := by simp; omega
  rw [this, List.replicate_succ, List.set_append_right _ _ (Nat.le_refl _), Nat.sub_self, List.set_cons_zero, List.append_assoc]
  rfl
theorem padz_full {o : List Nat} {L : Nat} (h : o.length = L) : padz o L = o := by simp [padz, h]
theorem padz_nil (L : Nat) : padz [] L = List.replicate L 0 := by simp [padz]
theorem padz_at {o : List Nat} {L : Nat} (h : o.length < L) : (padz o L).getD o.length 0 = 0 := by
  unfold padz
  simp only [List.getD_eq_getElem?_getD]
  rw [List.getElem?_append_right (Nat.le_refl _), Nat.sub_self, List.getElem?_replicate, if_pos (by omega)]; rfl
theorem Nt.Dig.getD {l : List Nat} (h : Nt.Dig l) (k : Nat) : l.getD k 0 < 4294967296 := by
  by_cases hk : k < l.length
  · have e : l.getD k 0 = l[k] := by simp [List.getD, hk]
    rw [e]; exact h _ (List.getElem_mem hk)
  · rw [List.getD_eq_getElem?_getD, List.getElem?_eq_none (by omega)]; decide
theorem Nt.Dig.snoc {l : List Nat} (h : Nt.Dig l) {x : Nat} (hx : x < 4294967296) : Nt.Dig (l ++ [x]) := fun y hy => by
  rcases List.mem_append.1 hy with hy | hy
  · exact h y hy
  · simp at hy; subst hy; exact hx

structure AddS where
  o : List Nat
  c : Nat
structure AddS.Ok (la lb : List Nat) (L : Nat) (s : AddS) : Prop where
  len : s.o.length ≤ L
  dig : Nt.Dig s.o
  c1 : s.c ≤ 1
  val : Nt.lv s.o + 4294967296 ^ s.o.length * s.c = Nt.lv (la.take s.o.length) + Nt.lv (lb.take s.o.length)

set_option maxHeartbeats 2000000 in
theorem add_good (a b : Nat) (ha : (Nt.limbs a).length ≤ 549755813888) (hb : (Nt.limbs b).length ≤ 549755813888) : Good Try.prog 55 [pvN a, pvN b] (pvN (a + b)) := by
  refine v_enter ttok mixed Try.func55 (by kernel_rfl) rfl Try.ntmps55 Try.results55 (by simp) ?_; rw [fresh_sto]; simp only [argEnv, List.range, List.range.loop, List.length_cons, List.length_nil, List.zip_cons_cons, List.zip_nil_left]
  have da := Nt.limbs_dig a
  have db := Nt.limbs_dig b
  have va := Nt.lv_limbs a
  have vb := Nt.lv_limbs b
  have la' := Nt.lt_limbs a
  have lb' := Nt.lt_limbs b
  unfold pvN
  generalize Nt.limbs a = la at *
  generalize Nt.limbs b = lb at *
  obtain ⟨L, hL⟩ : ∃ L : Nat, L = max la.length lb.length + 1 := ⟨_, rfl⟩
  have w1 : IntKind.i64.wrap ((if (lb.length : Int) > la.length then (lb.length : Int) else la.length) + 1) = (L : Int) := by
    rw [wrap_i64 (by split <;> omega) (by split <;> omega)]; split <;> omega
  have w2 : (0 : Int) ≤ L := by omega
  have w3 : L * 4 ≤ 140737488355328 := by omega
  have w4 : (L : Int) ≤ 140737488355328 := by omega
  simp only [gt_iff_lt] at w1
  (repeat (first | refine Stp.go ?_ | refine v_region ?_ | refine v_regionD ?_ | refine v_blocky (by decide) ?_ | ((first | refine v_o rfl ?_ ?_ | refine v_oD rfl ?_ ?_); (focus (simp only [u32s_length, w1, w2, w3, w4, zeros_u32s, List.length_replicate, go_sem]; done)); simp only [Env.put]) | ((first | refine v_u rfl fun K hK => ?_ | refine v_g rfl fun K hK => ?_ | refine v_uD rfl fun K hK => ?_ | refine v_gD rfl fun K hK => ?_); simp only [u32s_length, w1, w2, w3, w4, zeros_u32s, List.length_replicate, go_sem]) | (fail) | refine v_end ?_ | refine v_endD (by kernel_rfl) ?_ | (refine hK _ _ ?_; clear hK K) | refine ⟨by (first | trivial | assumption | omega | (intros; first | assumption | omega)), ?_⟩ | (apply v_condb; (focus (simp only [u32s_length, w1, w2, w3, w4, zeros_u32s, List.length_replicate, go_sem]; first | exact pvt | exact pvf)); simp only [cond_true, cond_false]) | fail))
  refine v_loop [2, 3, 4, 5, 6, 18, 19] (fun s : AddS => s.Ok la lb L) (fun s => L - s.o.length) (fun s => [.ptr 102 1 0 0, .ptr 103 1 0 0, .ptr 104 1 0 0, .sref 105 1 0 L false, .int .u32 s.c, .int .i64 L, .int .i64 s.o.length])
    (fun s => [(102, SC.row 49 1 [PV.agg [PV.slc 1 (u32s la)]]), (103, SC.row 49 1 [PV.agg [PV.slc 1 (u32s lb)]]), (104, SC.row 49 1 [PV.agg [PV.nilS]]), (105, SC.row 105 1 (u32s (padz s.o L)))]) ⟨[], 0⟩ ⟨by simp, fun x hx => by simp at hx, by simp, by simp [Nt.lv]⟩ ?_ ?_
  · exact (fits_sto _ (fun x => if x = 102 then 1000 else if x = 103 then 1001 else if x = 104 then 1002 else if x = 105 then 2008 else x) (by simp [Env.get, PV.renL, PV.ren , padz_nil, renL_u32s, refsL_u32s]) (by simp [PV.refsL, PV.refs , padz_nil, renL_u32s, refsL_u32s]) (by simp [SC.live, SC.ren, SC.refs, PV.renL, PV.ren, PV.refsL, PV.refs, sto_cons, sto_nil , padz_nil, renL_u32s, refsL_u32s]) (by simp ))
  · rintro ⟨o, c⟩ ⟨h1, h2, h3, h4⟩
    simp only at h1 h2 h3 h4
    simp only [List.zip_cons_cons, List.zip_nil_left]
    by_cases hc : o.length < L
    · have z1 : (o.length : Int) < L := by omega
      have z2 : (0 : Int) ≤ o.length := by omega
      have z3 : IntKind.i64.wrap ((o.length : Int) + 1) = ((o.length + 1 : Nat) : Int) := by rw [wrap_i64 (by omega) (by omega)]; omega
      have dx := da.getD o.length
      have dy := db.getD o.length
      have g1 := digit_good la o.length (by omega)
      have g2 := digit_good lb o.length (by omega)
      have sa := Nt.lv_take_succ la o.length
      have sb := Nt.lv_take_succ lb o.length
      generalize la.getD o.length 0 = x at *
      generalize lb.getD o.length 0 = y at *
      have g3 := add32_good x y c dx dy h3
      have hset := padz_set hc ((x + y + c) % 4294967296)
      have hlen := padz_length (o := o) (L := L) h1
      have z4 : o.length < (padz o L).length := by omega
      have hat := u32s_get z4
      rw [padz_at hc] at hat
      have hmd : (x + y + c) % 4294967296 + 4294967296 * ((x + y + c) / 4294967296) = x + y + c := Nat.mod_add_div _ _
      have hdm : (x + y + c) % 4294967296 < 4294967296 := Nat.mod_lt _ (by decide)
      have hcq : (x + y + c) / 4294967296 ≤ 1 := by omega
      generalize (x + y + c) % 4294967296 = d at *
      generalize (x + y + c) / 4294967296 = q at *
      (repeat (first | refine Stp.go ?_ | refine v_region ?_ | refine v_regionD ?_ | refine v_blocky (by decide) ?_ | ((first | refine v_o rfl ?_ ?_ | refine v_oD rfl ?_ ?_); (focus (simp only [u32s_length, u32s_set, z1, z2, z3, z4, hlen, hset, hat, go_sem]; done)); simp only [Env.put]) | ((first | refine v_u rfl fun K hK => ?_ | refine v_g rfl fun K hK => ?_ | refine v_uD rfl fun K hK => ?_ | refine v_gD rfl fun K hK => ?_); simp only [u32s_length, u32s_set, z1, z2, z3, z4, hlen, hset, hat, go_sem]) | (first | (refine callK_pure (fun hc => g1) rfl ?_; simp only [upds, eq_self, true_or, true_and]) | (refine callK_pure (fun hc => g2) rfl ?_; simp only [upds, eq_self, true_or, true_and]) | (refine callK_pure (fun hc => g3) rfl ?_; simp only [upds, eq_self, true_or, true_and])) | refine v_end ?_ | refine v_endD (by kernel_rfl) ?_ | (refine hK _ _ ?_; clear hK K) | refine ⟨by (first | trivial | assumption | omega | (intros; first | assumption | omega)), ?_⟩ | (apply v_condb; (focus (simp only [u32s_length, u32s_set, z1, z2, z3, z4, hlen, hset, hat, go_sem]; first | exact pvt | exact pvf)); simp only [cond_true, cond_false]) | fail))
      refine v_round ⟨o ++ [d], q⟩ ⟨by simp; omega, h2.snoc hdm, hcq, ?_⟩ (by simp; omega) (fits_sto _ id (by simp [Env.get, PV.renL, PV.ren , renL_u32s, refsL_u32s, hset]) (by simp [PV.refsL, PV.refs , renL_u32s, refsL_u32s, hset]) (by simp [SC.live, SC.ren, SC.refs, PV.renL, PV.ren, PV.refsL, PV.refs, sto_cons, sto_nil , renL_u32s, refsL_u32s, hset]) (by simp ))
      simp only [List.length_append, List.length_cons, List.length_nil, Nat.zero_add]
      rw [Nt.lv_snoc, sa, sb, Nat.pow_succ]
      have := congrArg (4294967296 ^ o.length * ·) hmd
      simp only [Nat.mul_add, ← Nat.mul_assoc] at this
      omega
    · have z1 : ¬ (o.length : Int) < L := by omega
      have hLo : L = o.length := by omega
      rw [padz_full (by omega)]
      have ea : la.take o.length = la := List.take_of_length_le (by omega)
      have eb : lb.take o.length = lb := List.take_of_length_le (by omega)
      rw [ea, eb, va, vb] at h4
      have hP : 2 * 4294967296 ^ (max la.length lb.length) ≤ 4294967296 ^ o.length := by
        rw [← hLo, hL, Nat.pow_succ]; omega
      have pa : 4294967296 ^ la.length ≤ 4294967296 ^ (max la.length lb.length) := Nat.pow_le_pow_right (by decide) (by omega)
      have pb : 4294967296 ^ lb.length ≤ 4294967296 ^ (max la.length lb.length) := Nat.pow_le_pow_right (by decide) (by omega)
      have hv : Nt.lv o = a + b := by
        rcases Nat.eq_zero_or_pos c with h0 | h0
        · subst h0; omega
        · have : c = 1 := by omega
          subst this; omega
      have hnorm := norm_good o h2 (by omega)
      have htk := (Nt.take_limbs h2).2
      rw [hv] at hnorm htk
      subst hLo
      (repeat (first | refine Stp.go ?_ | refine v_region ?_ | refine v_regionD ?_ | refine v_blocky (by decide) ?_ | (refine v_callR (by simp [dstOk]) rfl ?_; simp only [List.map_cons, List.map_nil, List.nil_append, List.append_nil, List.cons_append, Env.eval, Env.get, reduceIte, Nat.reduceEqDiff, List.toList_toArray, PV.ofConst]; refine callR_sto ([.sref 1 1 0 o.length false]) ([(1, .row 105 1 (u32s o))]) ((fun x => if x = 1 then 105 else x)) (hnorm) (by simp [PV.renL, PV.ren , renL_u32s, refsL_u32s]) (by simp [PV.refsL, PV.refs , renL_u32s, refsL_u32s]) (by simp [SC.live, SC.ren, SC.refs, PV.renL, PV.ren, PV.refsL, PV.refs, sto_cons, sto_nil, renL_ints, refsL_ints, renL_nats, refsL_nats, List.length_set , renL_u32s, refsL_u32s]) (by simp [id_eq , renL_u32s, refsL_u32s]) ?_; rintro _ _ ⟨rfl, rfl⟩; refine ⟨[(1, .row 105 1 (u32s o))], (fun x => if x = 1 then 105 else x), rfl, (by simp [SC.live, SC.ren, SC.refs, PV.renL, PV.ren, PV.refsL, PV.refs, sto_cons, sto_nil, renL_ints, refsL_ints, renL_nats, refsL_nats, List.length_set , renL_u32s, refsL_u32s]), (by simp [PV.refsL, PV.refs , renL_u32s, refsL_u32s]), (by simp [Free, sto_cons, sto_nil , renL_u32s, refsL_u32s]), (by simp [id_eq , renL_u32s, refsL_u32s]), ?_⟩; simp only [backL, List.map_cons, List.map_nil, List.cons_append, List.nil_append, SC.ren, PV.renL, PV.ren, renL_ints, renL_nats, id_eq, Env.put , renL_u32s, refsL_u32s]) | ((first | refine v_o rfl ?_ ?_ | refine v_oD rfl ?_ ?_); (focus (simp only [u32s_length, z1, go_sem]; done)); simp only [Env.put]) | ((first | refine v_u rfl fun K hK => ?_ | refine v_g rfl fun K hK => ?_ | refine v_uD rfl fun K hK => ?_ | refine v_gD rfl fun K hK => ?_); simp only [u32s_length, z1, go_sem]) | (refine v_loopx ?_) | refine v_end ?_ | refine v_endD (by kernel_rfl) ?_ | (refine hK _ _ ?_; clear hK K) | refine ⟨by (first | trivial | assumption | omega | (intros; first | assumption | omega)), ?_⟩ | (apply v_condb; (focus (simp only [u32s_length, z1, go_sem]; first | exact pvt | exact pvf)); simp only [cond_true, cond_false]) | fail))
      (first | refine v_fin_n ?_ | refine v_fin_r ?_); simp only [htk, u32s_length, List.drop_zero, resK, one, PV.snap, go_sem]
      exact wk_norm4 h2 hv
end Go.V
/- Layer 1: Cmp and Sub. -/
set_option linter.unusedVariables false
set_option linter.unusedSimpArgs false
namespace Go.V
open Go.RowKit Go.Proofs
attribute [local irreducible] wp seqK lexK opK callK upd sto Good GoodR

def cmpN (a b : Nat) : Int := if a < b then -1 else if b < a then 1 else 0
theorem Nt.lv_split (l : List Nat) (k : Nat) (h : k ≤ l.length) : Nt.lv l = Nt.lv (l.take k) + 4294967296 ^ k * Nt.lv (l.drop k) := by
  conv => lhs; rw [← List.take_append_drop k l]
  rw [Nt.lv_append]
  have : (l.take k).length = k := by simp; omega
  rw [this]
theorem Nt.lt_of_len {a b : Nat} (h : (Nt.limbs a).length < (Nt.limbs b).length) : a < b := by
  have h1 := Nt.lt_limbs a
  have hb : b ≠ 0 := fun e => by rw [e, Nt.limbs_zero] at h; simp at h
  have h2 := Nt.ge_limbs hb
  have h3 : 4294967296 ^ (Nt.limbs a).length ≤ 4294967296 ^ ((Nt.limbs b).length - 1) := Nat.pow_le_pow_right (by decide) (by omega)
  omega
theorem Nt.lt_of_digit {la lb : List Nat} {j : Nat} (hd : Nt.Dig la) (ha : j < la.length) (hb : j < lb.length) (hs : la.drop (j + 1) = lb.drop (j + 1)) (hx : la.getD j 0 < lb.getD j 0) : Nt.lv la < Nt.lv lb := by
  have e1 : la.getD j 0 = la[j] := by simp [List.getD, ha]
  have e2 : lb.getD j 0 = lb[j] := by simp [List.getD, hb]
  rw [e1, e2] at hx
  rw [Nt.lv_split la j (by omega), Nt.lv_split lb j (by omega), List.drop_eq_getElem_cons ha, List.drop_eq_getElem_cons hb, Nt.lv, Nt.lv, hs]
  have h1 := Nt.lv_lt (la.take j) (fun x hx => hd x (List.mem_of_mem_take hx))
  have h2 : (la.take j).length = j := by simp; omega
  rw [h2] at h1
  have h3 : la[j] + 1 + 4294967296 * Nt.lv (lb.drop (j + 1)) ≤ lb[j] + 4294967296 * Nt.lv (lb.drop (j + 1)) := by omega
  have h4 := Nat.mul_le_mul_left (4294967296 ^ j) h3
  have h5 : 4294967296 ^ j * (la[j] + 1 + 4294967296 * Nt.lv (lb.drop (j + 1))) = 4294967296 ^ j + 4294967296 ^ j * (la[j] + 4294967296 * Nt.lv (lb.drop (j + 1))) := by
    rw [show la[j] + 1 + 4294967296 * Nt.lv (lb.drop (j + 1)) = 1 + (la[j] + 4294967296 * Nt.lv (lb.drop (j + 1))) by omega, Nat.mul_add, Nat.mul_one]
  omega

set_option maxHeartbeats 2000000 in
theorem cmp_good (a b : Nat) (ha : (Nt.limbs a).length ≤ 549755813888) (hb : (Nt.limbs b).length ≤ 549755813888) : Good Try.prog 56 [pvN a, pvN b] (.int .i64 (cmpN a b)) := by
  refine v_enter ttok mixed Try.func56 (by kernel_rfl) rfl Try.ntmps56 Try.results56 (by simp) ?_; rw [fresh_sto]; simp only [argEnv, List.range, List.range.loop, List.length_cons, List.length_nil, List.zip_cons_cons, List.zip_nil_left]
  have da := Nt.limbs_dig a
  have db := Nt.limbs_dig b
  have va := Nt.lv_limbs a
  have vb := Nt.lv_limbs b
  have hlt := Nt.lt_of_len (a := a) (b := b)
  have hgt := Nt.lt_of_len (a := b) (b := a)
  have heq : Nt.limbs a = Nt.limbs b → a = b := fun h => by rw [← va, ← vb, h]
  unfold pvN
  generalize Nt.limbs a = la at *
  generalize Nt.limbs b = lb at *
  by_cases c1 : la.length = lb.length
  · have w1 : (la.length : Int) = lb.length := by omega
    have w2 : IntKind.i64.wrap ((lb.length : Int) - 1) = (lb.length : Int) - 1 := wrap_i64 (by omega) (by omega)
    (repeat (first | refine Stp.go ?_ | refine v_region ?_ | refine v_regionD ?_ | refine v_blocky (by decide) ?_ | ((first | refine v_o rfl ?_ ?_ | refine v_oD rfl ?_ ?_); (focus (simp only [u32s_length, w1, w2, go_sem]; done)); simp only [Env.put]) | ((first | refine v_u rfl fun K hK => ?_ | refine v_g rfl fun K hK => ?_ | refine v_uD rfl fun K hK => ?_ | refine v_gD rfl fun K hK => ?_); simp only [u32s_length, w1, w2, go_sem]) | (fail) | refine v_end ?_ | refine v_endD (by kernel_rfl) ?_ | (refine hK _ _ ?_; clear hK K) | refine ⟨by (first | trivial | assumption | omega | (intros; first | assumption | omega)), ?_⟩ | (apply v_condb; (focus (simp only [u32s_length, w1, w2, go_sem]; first | exact pvt | exact pvf)); simp only [cond_true, cond_false]) | fail))
    refine v_loop [2, 3, 5] (fun k : Nat => k ≤ lb.length ∧ la.drop k = lb.drop k) (fun k => k) (fun k => [.ptr 102 1 0 0, .ptr 103 1 0 0, .int .i64 ((k : Int) - 1)])
      (fun k => [(102, SC.row 49 1 [PV.agg [PV.slc 1 (u32s la)]]), (103, SC.row 49 1 [PV.agg [PV.slc 1 (u32s lb)]])]) lb.length ⟨Nat.le_refl _, by rw [List.drop_length, ← c1, List.drop_length]⟩ ?_ ?_
    · exact (fits_sto _ (fun x => if x = 102 then 1000 else if x = 103 then 1001 else x) (by simp [Env.get, PV.renL, PV.ren , renL_u32s, refsL_u32s]) (by simp [PV.refsL, PV.refs , renL_u32s, refsL_u32s]) (by simp [SC.live, SC.ren, SC.refs, PV.renL, PV.ren, PV.refsL, PV.refs, sto_cons, sto_nil , renL_u32s, refsL_u32s]) (by simp ))
    · rintro k ⟨hk, hs⟩
      simp only [List.zip_cons_cons, List.zip_nil_left]
      cases k with
      | zero =>
        have z1 : ¬ (0 : Int) ≤ ((0 : Nat) : Int) - 1 := by omega
        (repeat (first | refine Stp.go ?_ | refine v_region ?_ | refine v_regionD ?_ | refine v_blocky (by decide) ?_ | ((first | refine v_o rfl ?_ ?_ | refine v_oD rfl ?_ ?_); (focus (simp only [z1, go_sem]; done)); simp only [Env.put]) | ((first | refine v_u rfl fun K hK => ?_ | refine v_g rfl fun K hK => ?_ | refine v_uD rfl fun K hK => ?_ | refine v_gD rfl fun K hK => ?_); simp only [z1, go_sem]) | (refine v_loopx ?_) | refine v_end ?_ | refine v_endD (by kernel_rfl) ?_ | (refine hK _ _ ?_; clear hK K) | refine ⟨by (first | trivial | assumption | omega | (intros; first | assumption | omega)), ?_⟩ | (apply v_condb; (focus (simp only [z1, go_sem]; first | exact pvt | exact pvf)); simp only [cond_true, cond_false]) | fail))
        (first | refine v_fin_n ?_ | refine v_fin_r ?_); simp only [ resK, one, PV.snap, go_sem]
        have : a = b := heq (by simpa using hs)
        refine wk_eq ?_
        simp [cmpN, this]
      | succ j =>
        have z0 : ((j + 1 : Nat) : Int) - 1 = (j : Int) := by omega
        rw [z0]
        have z1 : (0 : Int) ≤ (j : Int) := by omega
        have z2 : (j : Int) < la.length := by omega
        have z3 : (j : Int) < lb.length := by omega
        have z4 : IntKind.i64.wrap ((j : Int) - 1) = (j : Int) - 1 := wrap_i64 (by omega) (by omega)
        have ja : j < la.length := by omega
        have jb : j < lb.length := by omega
        have g1 := u32s_get ja
        have g2 := u32s_get jb
        have k1 := Nt.lt_of_digit da ja jb hs
        have k2 := Nt.lt_of_digit db jb ja hs.symm
        have k3 : la.getD j 0 = lb.getD j 0 → la.drop j = lb.drop j := fun e => by
          have e1 : la.getD j 0 = la[j] := by simp [List.getD, ja]
          have e2 : lb.getD j 0 = lb[j] := by simp [List.getD, jb]
          rw [e1, e2] at e
          rw [List.drop_eq_getElem_cons ja, List.drop_eq_getElem_cons jb, hs, e]
        rw [va, vb] at k1 k2
        generalize la.getD j 0 = x at *
        generalize lb.getD j 0 = y at *
        (repeat (first | refine Stp.go ?_ | refine v_region ?_ | refine v_regionD ?_ | refine v_blocky (by decide) ?_ | ((first | refine v_o rfl ?_ ?_ | refine v_oD rfl ?_ ?_); (focus (simp only [u32s_length, z1, z2, z3, z4, g1, g2, go_sem]; done)); simp only [Env.put]) | ((first | refine v_u rfl fun K hK => ?_ | refine v_g rfl fun K hK => ?_ | refine v_uD rfl fun K hK => ?_ | refine v_gD rfl fun K hK => ?_); simp only [u32s_length, z1, z2, z3, z4, g1, g2, go_sem]) | (fail) | refine v_end ?_ | refine v_endD (by kernel_rfl) ?_ | (refine hK _ _ ?_; clear hK K) | refine ⟨by (first | trivial | assumption | omega | (intros; first | assumption | omega)), ?_⟩ | (apply v_condb; (focus (simp only [u32s_length, z1, z2, z3, z4, g1, g2, go_sem]; first | exact pvt | exact pvf)); simp only [cond_true, cond_false]) | fail))
        refine v_cond rfl (fun hx => ?_) (fun hx => ?_)
        · have hne : ¬ x = y := fun e => by simp [e] at hx
          clear hx
          (repeat (first | refine Stp.go ?_ | refine v_region ?_ | refine v_regionD ?_ | refine v_blocky (by decide) ?_ | ((first | refine v_o rfl ?_ ?_ | refine v_oD rfl ?_ ?_); (focus (simp only [u32s_length, z1, z2, z3, z4, g1, g2, go_sem]; done)); simp only [Env.put]) | ((first | refine v_u rfl fun K hK => ?_ | refine v_g rfl fun K hK => ?_ | refine v_uD rfl fun K hK => ?_ | refine v_gD rfl fun K hK => ?_); simp only [u32s_length, z1, z2, z3, z4, g1, g2, go_sem]) | (fail) | refine v_end ?_ | refine v_endD (by kernel_rfl) ?_ | (refine hK _ _ ?_; clear hK K) | refine ⟨by (first | trivial | assumption | omega | (intros; first | assumption | omega)), ?_⟩ | (apply v_condb; (focus (simp only [u32s_length, z1, z2, z3, z4, g1, g2, go_sem]; first | exact pvt | exact pvf)); simp only [cond_true, cond_false]) | fail))
          refine v_cond rfl (fun hx => ?_) (fun hx => ?_)
          · have hxy : x < y := by simpa using hx
            clear hx
            (repeat (first | refine Stp.go ?_ | refine v_region ?_ | refine v_regionD ?_ | refine v_blocky (by decide) ?_ | ((first | refine v_o rfl ?_ ?_ | refine v_oD rfl ?_ ?_); (focus (simp only [ go_sem]; done)); simp only [Env.put]) | ((first | refine v_u rfl fun K hK => ?_ | refine v_g rfl fun K hK => ?_ | refine v_uD rfl fun K hK => ?_ | refine v_gD rfl fun K hK => ?_); simp only [ go_sem]) | (refine v_loopr ?_) | refine v_end ?_ | refine v_endD (by kernel_rfl) ?_ | (refine hK _ _ ?_; clear hK K) | refine ⟨by (first | trivial | assumption | omega | (intros; first | assumption | omega)), ?_⟩ | (apply v_condb; (focus (simp only [ go_sem]; first | exact pvt | exact pvf)); simp only [cond_true, cond_false]) | fail))
            (first | refine v_fin_n ?_ | refine v_fin_r ?_); simp only [ resK, one, PV.snap, go_sem]
            refine wk_eq ?_
            simp [cmpN, k1 hxy]
          · have hxy : ¬ x < y := by simpa using hx
            clear hx
            (repeat (first | refine Stp.go ?_ | refine v_region ?_ | refine v_regionD ?_ | refine v_blocky (by decide) ?_ | ((first | refine v_o rfl ?_ ?_ | refine v_oD rfl ?_ ?_); (focus (simp only [ go_sem]; done)); simp only [Env.put]) | ((first | refine v_u rfl fun K hK => ?_ | refine v_g rfl fun K hK => ?_ | refine v_uD rfl fun K hK => ?_ | refine v_gD rfl fun K hK => ?_); simp only [ go_sem]) | (refine v_loopr ?_) | refine v_end ?_ | refine v_endD (by kernel_rfl) ?_ | (refine hK _ _ ?_; clear hK K) | refine ⟨by (first | trivial | assumption | omega | (intros; first | assumption | omega)), ?_⟩ | (apply v_condb; (focus (simp only [ go_sem]; first | exact pvt | exact pvf)); simp only [cond_true, cond_false]) | fail))
            (first | refine v_fin_n ?_ | refine v_fin_r ?_); simp only [ resK, one, PV.snap, go_sem]
            refine wk_eq ?_
            have := k2 (by omega)
            simp [cmpN, this]; omega
        · have he : x = y := by
            by_cases e : x = y
            · exact e
            · have : ¬ (x : Int) = y := by omega
              simp [this] at hx
          clear hx
          (repeat (first | refine Stp.go ?_ | refine v_region ?_ | refine v_regionD ?_ | refine v_blocky (by decide) ?_ | ((first | refine v_o rfl ?_ ?_ | refine v_oD rfl ?_ ?_); (focus (simp only [z4, go_sem]; done)); simp only [Env.put]) | ((first | refine v_u rfl fun K hK => ?_ | refine v_g rfl fun K hK => ?_ | refine v_uD rfl fun K hK => ?_ | refine v_gD rfl fun K hK => ?_); simp only [z4, go_sem]) | (fail) | refine v_end ?_ | refine v_endD (by kernel_rfl) ?_ | (refine hK _ _ ?_; clear hK K) | refine ⟨by (first | trivial | assumption | omega | (intros; first | assumption | omega)), ?_⟩ | (apply v_condb; (focus (simp only [z4, go_sem]; first | exact pvt | exact pvf)); simp only [cond_true, cond_false]) | fail))
          refine v_round j ⟨by omega, k3 he⟩ (by omega) (fits_sto _ id (by simp [Env.get, PV.renL, PV.ren , renL_u32s, refsL_u32s]) (by simp [PV.refsL, PV.refs , renL_u32s, refsL_u32s]) (by simp [SC.live, SC.ren, SC.refs, PV.renL, PV.ren, PV.refsL, PV.refs, sto_cons, sto_nil , renL_u32s, refsL_u32s]) (by simp ))
  · have w1 : ¬ (la.length : Int) = lb.length := by omega
    (repeat (first | refine Stp.go ?_ | refine v_region ?_ | refine v_regionD ?_ | refine v_blocky (by decide) ?_ | ((first | refine v_o rfl ?_ ?_ | refine v_oD rfl ?_ ?_); (focus (simp only [u32s_length, w1, go_sem]; done)); simp only [Env.put]) | ((first | refine v_u rfl fun K hK => ?_ | refine v_g rfl fun K hK => ?_ | refine v_uD rfl fun K hK => ?_ | refine v_gD rfl fun K hK => ?_); simp only [u32s_length, w1, go_sem]) | (fail) | refine v_end ?_ | refine v_endD (by kernel_rfl) ?_ | (refine hK _ _ ?_; clear hK K) | refine ⟨by (first | trivial | assumption | omega | (intros; first | assumption | omega)), ?_⟩ | (apply v_condb; (focus (simp only [u32s_length, w1, go_sem]; first | exact pvt | exact pvf)); simp only [cond_true, cond_false]) | fail))
    refine v_cond rfl (fun hx => ?_) (fun hx => ?_)
    · have h : la.length < lb.length := by simpa using hx
      (repeat (first | refine Stp.go ?_ | refine v_region ?_ | refine v_regionD ?_ | refine v_blocky (by decide) ?_ | ((first | refine v_o rfl ?_ ?_ | refine v_oD rfl ?_ ?_); (focus (simp only [ go_sem]; done)); simp only [Env.put]) | ((first | refine v_u rfl fun K hK => ?_ | refine v_g rfl fun K hK => ?_ | refine v_uD rfl fun K hK => ?_ | refine v_gD rfl fun K hK => ?_); simp only [ go_sem]) | (fail) | refine v_end ?_ | refine v_endD (by kernel_rfl) ?_ | (refine hK _ _ ?_; clear hK K) | refine ⟨by (first | trivial | assumption | omega | (intros; first | assumption | omega)), ?_⟩ | (apply v_condb; (focus (simp only [ go_sem]; first | exact pvt | exact pvf)); simp only [cond_true, cond_false]) | fail))
      (first | refine v_fin_n ?_ | refine v_fin_r ?_); simp only [ resK, one, PV.snap, go_sem]
      refine wk_eq ?_
      simp [cmpN, hlt h]
    · have h : ¬ la.length < lb.length := by simpa using hx
      (repeat (first | refine Stp.go ?_ | refine v_region ?_ | refine v_regionD ?_ | refine v_blocky (by decide) ?_ | ((first | refine v_o rfl ?_ ?_ | refine v_oD rfl ?_ ?_); (focus (simp only [ go_sem]; done)); simp only [Env.put]) | ((first | refine v_u rfl fun K hK => ?_ | refine v_g rfl fun K hK => ?_ | refine v_uD rfl fun K hK => ?_ | refine v_gD rfl fun K hK => ?_); simp only [ go_sem]) | (fail) | refine v_end ?_ | refine v_endD (by kernel_rfl) ?_ | (refine hK _ _ ?_; clear hK K) | refine ⟨by (first | trivial | assumption | omega | (intros; first | assumption | omega)), ?_⟩ | (apply v_condb; (focus (simp only [ go_sem]; first | exact pvt | exact pvf)); simp only [cond_true, cond_false]) | fail))
      (first | refine v_fin_n ?_ | refine v_fin_r ?_); simp only [ resK, one, PV.snap, go_sem]
      refine wk_eq ?_
      have := hgt (by omega)
      simp [cmpN, this]; omega

structure SubS.Ok (la lb : List Nat) (L : Nat) (s : AddS) : Prop where
  len : s.o.length ≤ L
  dig : Nt.Dig s.o
  c1 : s.c ≤ 1
  val : Nt.lv (la.take s.o.length) + 4294967296 ^ s.o.length * s.c = Nt.lv (lb.take s.o.length) + Nt.lv s.o

def subR (a b : Nat) : PV := if a < b then .tup [pvN 0, .int .i64 2] else .tup [pvN (a - b), .int .i64 0]
set_option maxHeartbeats 2000000 in
theorem sub_good (a b : Nat) (ha : (Nt.limbs a).length ≤ 549755813888) (hb : (Nt.limbs b).length ≤ 549755813888) : Good Try.prog 57 [pvN a, pvN b] (subR a b) := by
  have hcmp := cmp_good a b ha hb
  refine v_enter ttok mixed Try.func57 (by kernel_rfl) rfl Try.ntmps57 Try.results57 (by simp) ?_; rw [fresh_sto]; simp only [argEnv, List.range, List.range.loop, List.length_cons, List.length_nil, List.zip_cons_cons, List.zip_nil_left]
  unfold subR
  by_cases c1 : a < b
  · rw [if_pos c1]
    have e : cmpN a b = -1 := by simp [cmpN, c1]
    rw [e] at hcmp
    (repeat (first | refine Stp.go ?_ | refine v_region ?_ | refine v_regionD ?_ | refine v_blocky (by decide) ?_ | ((first | refine v_o rfl ?_ ?_ | refine v_oD rfl ?_ ?_); (focus (simp only [pvN, u32s_length, go_sem]; done)); simp only [Env.put]) | ((first | refine v_u rfl fun K hK => ?_ | refine v_g rfl fun K hK => ?_ | refine v_uD rfl fun K hK => ?_ | refine v_gD rfl fun K hK => ?_); simp only [pvN, u32s_length, go_sem]) | ((refine callK_pure (fun hc => hcmp) rfl ?_; simp only [upds, eq_self, true_or, true_and])) | refine v_end ?_ | refine v_endD (by kernel_rfl) ?_ | (refine hK _ _ ?_; clear hK K) | refine ⟨by (first | trivial | assumption | omega | (intros; first | assumption | omega)), ?_⟩ | (apply v_condb; (focus (simp only [pvN, u32s_length, go_sem]; first | exact pvt | exact pvf)); simp only [cond_true, cond_false]) | fail))
    (first | refine v_fin_n ?_ | refine v_fin_r ?_); simp only [ resK, one, PV.snap, go_sem]
    refine Wk.two (Wk.agg rfl fun j p q hp hq => ?_) (.refl _)
    cases j <;> simp at hp hq
    subst hp hq
    rw [Nt.limbs_zero]; exact Wk.nil 1
  · rw [if_neg c1]
    have e : ¬ cmpN a b < 0 := by unfold cmpN; rw [if_neg c1]; split <;> omega
    have da := Nt.limbs_dig a
    have db := Nt.limbs_dig b
    have va := Nt.lv_limbs a
    have vb := Nt.lv_limbs b
    have lb' := Nt.lt_limbs b
    have hle := Nt.limbs_le (a := b) (b := a) (by omega)
    unfold pvN at hcmp ⊢
    generalize Nt.limbs a = la at *
    generalize Nt.limbs b = lb at *
    generalize cmpN a b = cv at *
    have w2 : (0 : Int) ≤ la.length := by omega
    have w3 : la.length * 4 ≤ 140737488355328 := by omega
    have w4 : (la.length : Int) ≤ 140737488355328 := by omega
    have w5 : (la.length : Int) ≤ la.length := by omega
    obtain ⟨L, hL⟩ : ∃ L, L = la.length := ⟨_, rfl⟩
    rw [← hL] at w2 w3 w4 w5
    (repeat (first | refine Stp.go ?_ | refine v_region ?_ | refine v_regionD ?_ | refine v_blocky (by decide) ?_ | ((first | refine v_o rfl ?_ ?_ | refine v_oD rfl ?_ ?_); (focus (simp only [u32s_length, e, ← hL, w2, w3, w4, w5, zeros_u32s, List.length_replicate, go_sem]; done)); simp only [Env.put]) | ((first | refine v_u rfl fun K hK => ?_ | refine v_g rfl fun K hK => ?_ | refine v_uD rfl fun K hK => ?_ | refine v_gD rfl fun K hK => ?_); simp only [u32s_length, e, ← hL, w2, w3, w4, w5, zeros_u32s, List.length_replicate, go_sem]) | ((refine callK_pure (fun hc => hcmp) rfl ?_; simp only [upds, eq_self, true_or, true_and])) | refine v_end ?_ | refine v_endD (by kernel_rfl) ?_ | (refine hK _ _ ?_; clear hK K) | refine ⟨by (first | trivial | assumption | omega | (intros; first | assumption | omega)), ?_⟩ | (apply v_condb; (focus (simp only [u32s_length, e, ← hL, w2, w3, w4, w5, zeros_u32s, List.length_replicate, go_sem]; first | exact pvt | exact pvf)); simp only [cond_true, cond_false]) | fail))
    refine v_loop [2, 3, 4, 6, 7, 19, 20] (fun s : AddS => SubS.Ok la lb L s) (fun s => L - s.o.length) (fun s => [.ptr 102 1 0 0, .ptr 103 1 0 0, .ptr 104 1 0 0, .sref 105 1 0 L false, .int .u32 s.c, .int .i64 L, .int .i64 s.o.length])
      (fun s => [(102, SC.row 49 1 [PV.agg [PV.slc 1 (u32s la)]]), (103, SC.row 49 1 [PV.agg [PV.slc 1 (u32s lb)]]), (104, SC.row 49 1 [PV.agg [PV.nilS]]), (105, SC.row 105 1 (u32s (padz s.o L)))]) ⟨[], 0⟩ ⟨by simp, fun x hx => by simp at hx, by simp, by simp [Nt.lv]⟩ ?_ ?_
    · exact (fits_sto _ (fun x => if x = 102 then 1000 else if x = 103 then 1001 else if x = 104 then 1002 else if x = 105 then 4003 else x) (by simp [Env.get, PV.renL, PV.ren , padz_nil, renL_u32s, refsL_u32s]) (by simp [PV.refsL, PV.refs , padz_nil, renL_u32s, refsL_u32s]) (by simp [SC.live, SC.ren, SC.refs, PV.renL, PV.ren, PV.refsL, PV.refs, sto_cons, sto_nil , padz_nil, renL_u32s, refsL_u32s]) (by simp ))
    · rintro ⟨o, c⟩ ⟨h1, h2, h3, h4⟩
      simp only at h1 h2 h3 h4
      simp only [List.zip_cons_cons, List.zip_nil_left]
      by_cases hc : o.length < L
      · have z1 : (o.length : Int) < L := by omega
        have z2 : (0 : Int) ≤ o.length := by omega
        have z3 : IntKind.i64.wrap ((o.length : Int) + 1) = ((o.length + 1 : Nat) : Int) := by rw [wrap_i64 (by omega) (by omega)]; omega
        have dx := da.getD o.length
        have dy := db.getD o.length
        have ja : o.length < la.length := by omega
        have z5 : (o.length : Int) < la.length := by omega
        have g1 := u32s_get ja
        have g2 := digit_good lb o.length (by omega)
        have sa := Nt.lv_take_succ la o.length
        have sb := Nt.lv_take_succ lb o.length
        generalize la.getD o.length 0 = x at *
        generalize lb.getD o.length 0 = y at *
        have g3 := sub32_good x y c dx dy h3
        have hset := padz_set hc ((x + 8589934592 - y - c) % 4294967296)
        have hlen := padz_length (o := o) (L := L) h1
        have z4 : o.length < (padz o L).length := by omega
        have hat := u32s_get z4
        rw [padz_at hc] at hat
        have hdm : (x + 8589934592 - y - c) % 4294967296 < 4294967296 := Nat.mod_lt _ (by decide)
        have hrel : x + 4294967296 * (if x < y + c then 1 else 0) = y + c + (x + 8589934592 - y - c) % 4294967296 := by split <;> omega
        have hq1 : (if x < y + c then 1 else 0) ≤ 1 := by split <;> omega
        generalize (x + 8589934592 - y - c) % 4294967296 = d at *
        generalize (if x < y + c then 1 else 0) = q at *
        (repeat (first | refine Stp.go ?_ | refine v_region ?_ | refine v_regionD ?_ | refine v_blocky (by decide) ?_ | ((first | refine v_o rfl ?_ ?_ | refine v_oD rfl ?_ ?_); (focus (simp only [u32s_length, u32s_set, z1, z2, z3, z4, z5, hlen, hset, hat, g1, go_sem]; done)); simp only [Env.put]) | ((first | refine v_u rfl fun K hK => ?_ | refine v_g rfl fun K hK => ?_ | refine v_uD rfl fun K hK => ?_ | refine v_gD rfl fun K hK => ?_); simp only [u32s_length, u32s_set, z1, z2, z3, z4, z5, hlen, hset, hat, g1, go_sem]) | (first | (refine callK_pure (fun hc => g2) rfl ?_; simp only [upds, eq_self, true_or, true_and]) | (refine callK_pure (fun hc => g3) rfl ?_; simp only [upds, eq_self, true_or, true_and])) | refine v_end ?_ | refine v_endD (by kernel_rfl) ?_ | (refine hK _ _ ?_; clear hK K) | refine ⟨by (first | trivial | assumption | omega | (intros; first | assumption | omega)), ?_⟩ | (apply v_condb; (focus (simp only [u32s_length, u32s_set, z1, z2, z3, z4, z5, hlen, hset, hat, g1, go_sem]; first | exact pvt | exact pvf)); simp only [cond_true, cond_false]) | fail))
        refine v_round ⟨o ++ [d], q⟩ ⟨by simp; omega, h2.snoc hdm, hq1, ?_⟩ (by simp; omega) (fits_sto _ id (by simp [Env.get, PV.renL, PV.ren , renL_u32s, refsL_u32s, hset]) (by simp [PV.refsL, PV.refs , renL_u32s, refsL_u32s, hset]) (by simp [SC.live, SC.ren, SC.refs, PV.renL, PV.ren, PV.refsL, PV.refs, sto_cons, sto_nil , renL_u32s, refsL_u32s, hset]) (by simp ))
        simp only [List.length_append, List.length_cons, List.length_nil, Nat.zero_add]
        rw [Nt.lv_snoc, sa, sb, Nat.pow_succ]
        have := congrArg (4294967296 ^ o.length * ·) hrel
        simp only [Nat.mul_add, ← Nat.mul_assoc] at this
        omega
      · have z1 : ¬ (o.length : Int) < L := by omega
        have hLo : L = o.length := by omega
        rw [padz_full (by omega)]
        have ea : la.take o.length = la := List.take_of_length_le (by omega)
        have eb : lb.take o.length = lb := List.take_of_length_le (by omega)
        rw [ea, eb, va, vb] at h4
        have hol := Nt.lv_lt o h2
        have hv : Nt.lv o = a - b := by
          rcases Nat.eq_zero_or_pos c with h0 | h0
          · subst h0; omega
          · have : c = 1 := by omega
            subst this; omega
        have hnorm := norm_good o h2 (by omega)
        have htk := (Nt.take_limbs h2).2
        rw [hv] at hnorm htk
        subst hLo
        clear hL
        (repeat (first | refine Stp.go ?_ | refine v_region ?_ | refine v_regionD ?_ | refine v_blocky (by decide) ?_ | (refine v_callR (by simp [dstOk]) rfl ?_; simp only [List.map_cons, List.map_nil, List.nil_append, List.append_nil, List.cons_append, Env.eval, Env.get, reduceIte, Nat.reduceEqDiff, List.toList_toArray, PV.ofConst]; refine callR_sto ([.sref 1 1 0 o.length false]) ([(1, .row 105 1 (u32s o))]) ((fun x => if x = 1 then 105 else x)) (hnorm) (by simp [PV.renL, PV.ren , renL_u32s, refsL_u32s]) (by simp [PV.refsL, PV.refs , renL_u32s, refsL_u32s]) (by simp [SC.live, SC.ren, SC.refs, PV.renL, PV.ren, PV.refsL, PV.refs, sto_cons, sto_nil, renL_ints, refsL_ints, renL_nats, refsL_nats, List.length_set , renL_u32s, refsL_u32s]) (by simp [id_eq , renL_u32s, refsL_u32s]) ?_; rintro _ _ ⟨rfl, rfl⟩; refine ⟨[(1, .row 105 1 (u32s o))], (fun x => if x = 1 then 105 else x), rfl, (by simp [SC.live, SC.ren, SC.refs, PV.renL, PV.ren, PV.refsL, PV.refs, sto_cons, sto_nil, renL_ints, refsL_ints, renL_nats, refsL_nats, List.length_set , renL_u32s, refsL_u32s]), (by simp [PV.refsL, PV.refs , renL_u32s, refsL_u32s]), (by simp [Free, sto_cons, sto_nil , renL_u32s, refsL_u32s]), (by simp [id_eq , renL_u32s, refsL_u32s]), ?_⟩; simp only [backL, List.map_cons, List.map_nil, List.cons_append, List.nil_append, SC.ren, PV.renL, PV.ren, renL_ints, renL_nats, id_eq, Env.put , renL_u32s, refsL_u32s]) | ((first | refine v_o rfl ?_ ?_ | refine v_oD rfl ?_ ?_); (focus (simp only [u32s_length, z1, go_sem]; done)); simp only [Env.put]) | ((first | refine v_u rfl fun K hK => ?_ | refine v_g rfl fun K hK => ?_ | refine v_uD rfl fun K hK => ?_ | refine v_gD rfl fun K hK => ?_); simp only [u32s_length, z1, go_sem]) | (refine v_loopx ?_) | refine v_end ?_ | refine v_endD (by kernel_rfl) ?_ | (refine hK _ _ ?_; clear hK K) | refine ⟨by (first | trivial | assumption | omega | (intros; first | assumption | omega)), ?_⟩ | (apply v_condb; (focus (simp only [u32s_length, z1, go_sem]; first | exact pvt | exact pvf)); simp only [cond_true, cond_false]) | fail))
        (first | refine v_fin_n ?_ | refine v_fin_r ?_); simp only [htk, u32s_length, List.drop_zero, resK, one, PV.snap, go_sem]
        exact Wk.two (wk_norm4 h2 hv) (.refl _)
end Go.V
/- Layer 1: Mul. -/
set_option linter.unusedVariables false
set_option linter.unusedSimpArgs false
namespace Go.V
open Go.RowKit Go.Proofs
attribute [local irreducible] wp seqK lexK opK callK upd sto Good GoodR

theorem Nt.lv_set : ∀ (l : List Nat) (j v : Nat), j < l.length → Nt.lv (l.set j v) + 4294967296 ^ j * l.getD j 0 = Nt.lv l + 4294967296 ^ j * v
  | [], j, v, h => by simp at h
  | a :: l, 0, v, h => by simp [Nt.lv]; omega
  | a :: l, j + 1, v, h => by
    have ih := Nt.lv_set l j v (by simpa using h)
    simp only [List.set_cons_succ, List.getD_cons_succ, Nt.lv, Nat.pow_succ]
    have := congrArg (4294967296 * ·) ih
    simp only [Nat.mul_add, ← Nat.mul_assoc] at this
    rw [Nat.mul_comm (4294967296 ^ j) 4294967296]
    omega
theorem Nt.Dig.set {l : List Nat} (h : Nt.Dig l) (j : Nat) {x : Nat} (hx : x < 4294967296) : Nt.Dig (l.set j x) := fun y hy => by
  rcases List.mem_or_eq_of_mem_set hy with hy | rfl
  · exact h y hy
  · exact hx
/-- Digits beyond the length of a number are 0. -/
structure MulI (a b la lb : Nat) (o : List Nat) (i k c x : Nat) (A : List Nat) (B : List Nat) : Prop where
  len : o.length = la + lb
  dig : Nt.Dig o
  c1 : c < 4294967296
  hi : ∀ j, i + lb ≤ j → j < o.length → o.getD j 0 = 0
  val : Nt.lv o + 4294967296 ^ (i + k) * c = Nt.lv (A.take i) * b + 4294967296 ^ i * (x * Nt.lv (B.take k))
theorem MulI.step {a b la lb : Nat} {o : List Nat} {i k c x y : Nat} {A B : List Nat} (h : MulI a b la lb o i k c x A B) (hk : k < lb) (hi : i < la) (hx : x < 4294967296) (hy : y = B.getD k 0) (hyb : y < 4294967296) :
    x * y + o.getD (i + k) 0 + c < 18446744073709551616 ∧ MulI a b la lb (o.set (i + k) ((x * y + o.getD (i + k) 0 + c) % 4294967296)) i (k + 1) ((x * y + o.getD (i + k) 0 + c) / 4294967296) x A B := by
  have h1 := h.len
  have hj : i + k < o.length := by omega
  have ho := h.dig.getD (i + k)
  have hc := h.c1
  have hxy : x * y ≤ 4294967295 * 4294967295 := Nat.mul_le_mul (by omega) (by omega)
  have hn : x * y + o.getD (i + k) 0 + c < 18446744073709551616 := by omega
  refine ⟨hn, by simpa using h1, h.dig.set _ (Nat.mod_lt _ (by decide)), by omega, fun j h2 h3 => ?_, ?_⟩
  · simp only [List.length_set] at h3
    rw [Heap.getD_set _ _ _ _ _ hj, if_neg (by omega)]
    exact h.hi j h2 h3
  · have hs := Nt.lv_set o (i + k) ((x * y + o.getD (i + k) 0 + c) % 4294967296) hj
    have hmd : (x * y + o.getD (i + k) 0 + c) % 4294967296 + 4294967296 * ((x * y + o.getD (i + k) 0 + c) / 4294967296) = x * y + o.getD (i + k) 0 + c := Nat.mod_add_div _ _
    have hv := h.val
    have hB := Nt.lv_take_succ B k
    rw [← hy] at hB
    rw [hB]
    generalize (x * y + o.getD (i + k) 0 + c) % 4294967296 = d at *
    generalize (x * y + o.getD (i + k) 0 + c) / 4294967296 = q at *
    generalize o.getD (i + k) 0 = z at *
    have e1 := congrArg (4294967296 ^ (i + k) * ·) hmd
    simp only [Nat.mul_add] at e1
    have e2 : 4294967296 ^ (i + (k + 1)) * q = 4294967296 ^ (i + k) * (4294967296 * q) := by rw [← Nat.add_assoc, Nat.pow_succ, Nat.mul_assoc]
    have e3 : 4294967296 ^ i * (x * (Nt.lv (B.take k) + 4294967296 ^ k * y)) = 4294967296 ^ i * (x * Nt.lv (B.take k)) + 4294967296 ^ (i + k) * (x * y) := by
      rw [Nat.mul_add, Nat.mul_add, Nat.pow_add, Nat.mul_assoc (4294967296 ^ i)]
      congr 2
      rw [← Nat.mul_assoc, Nat.mul_comm x (4294967296 ^ k), Nat.mul_assoc]
    rw [e2, e3]
    omega

set_option maxHeartbeats 2000000 in
theorem mul_good (a b : Nat) (ha : (Nt.limbs a).length ≤ 274877906944) (hb : (Nt.limbs b).length ≤ 274877906944) : Good Try.prog 53 [pvN a, pvN b] (pvN (a * b)) := by
  refine v_enter ttok mixed Try.func53 (by kernel_rfl) rfl Try.ntmps53 Try.results53 (by simp) ?_; rw [fresh_sto]; simp only [argEnv, List.range, List.range.loop, List.length_cons, List.length_nil, List.zip_cons_cons, List.zip_nil_left]
  have da := Nt.limbs_dig a
  have db := Nt.limbs_dig b
  have va := Nt.lv_limbs a
  have vb := Nt.lv_limbs b
  unfold pvN
  generalize Nt.limbs a = la at *
  generalize Nt.limbs b = lb at *
  have w1 : IntKind.i64.wrap ((la.length : Int) + lb.length) = ((la.length + lb.length : Nat) : Int) := by rw [wrap_i64 (by omega) (by omega)]; omega
  obtain ⟨L, hL⟩ : ∃ L, L = la.length + lb.length := ⟨_, rfl⟩
  rw [← hL] at w1
  have w2 : (0 : Int) ≤ L := by omega
  have w3 : L * 4 ≤ 140737488355328 := by omega
  have w4 : (L : Int) ≤ 140737488355328 := by omega
  have w5 : (L : Int) ≤ L := by omega
  (repeat (first | refine Stp.go ?_ | refine v_region ?_ | refine v_regionD ?_ | refine v_blocky (by decide) ?_ | ((first | refine v_o rfl ?_ ?_ | refine v_oD rfl ?_ ?_); (focus (simp only [u32s_length, w1, w2, w3, w4, w5, zeros_u32s, List.length_replicate, go_sem]; done)); simp only [Env.put]) | ((first | refine v_u rfl fun K hK => ?_ | refine v_g rfl fun K hK => ?_ | refine v_uD rfl fun K hK => ?_ | refine v_gD rfl fun K hK => ?_); simp only [u32s_length, w1, w2, w3, w4, w5, zeros_u32s, List.length_replicate, go_sem]) | (fail) | refine v_end ?_ | refine v_endD (by kernel_rfl) ?_ | (refine hK _ _ ?_; clear hK K) | refine ⟨by (first | trivial | assumption | omega | (intros; first | assumption | omega)), ?_⟩ | (apply v_condb; (focus (simp only [u32s_length, w1, w2, w3, w4, w5, zeros_u32s, List.length_replicate, go_sem]; first | exact pvt | exact pvf)); simp only [cond_true, cond_false]) | fail))
  refine v_loop [2, 3, 4, 5, 21, 22, 23] (fun s : Nat × List Nat => s.1 ≤ la.length ∧ MulI a b la.length lb.length s.2 s.1 0 0 0 la lb) (fun s => la.length - s.1) (fun s => [.ptr 102 1 0 0, .ptr 103 1 0 0, .ptr 104 1 0 0, .sref 105 1 0 L false, .slc 1 (u32s la), .int .i64 la.length, .int .i64 s.1])
    (fun s => [(102, SC.row 49 1 [PV.agg [PV.slc 1 (u32s la)]]), (103, SC.row 49 1 [PV.agg [PV.slc 1 (u32s lb)]]), (104, SC.row 49 1 [PV.agg [PV.nilS]]), (105, SC.row 105 1 (u32s (s.2)))]) (0, List.replicate L 0) ⟨Nat.zero_le _, ⟨by simp [hL], fun x hx => by rw [(List.mem_replicate.1 hx).2]; decide, by decide, fun j _ h2 => by simp at h2; simp [List.getD, List.getElem?_replicate, h2], by simp [Nt.lv, Nt.lv_replicate]⟩⟩ ?_ ?_
  · exact (fits_sto _ (fun x => if x = 102 then 1000 else if x = 103 then 1001 else if x = 104 then 1002 else if x = 105 then 2007 else x) (by simp [Env.get, PV.renL, PV.ren , renL_u32s, refsL_u32s]) (by simp [PV.refsL, PV.refs , renL_u32s, refsL_u32s]) (by simp [SC.live, SC.ren, SC.refs, PV.renL, PV.ren, PV.refsL, PV.refs, sto_cons, sto_nil , renL_u32s, refsL_u32s]) (by simp ))
  · rintro ⟨i, o⟩ ⟨h1, h2⟩
    simp only at h1 h2
    simp only [List.zip_cons_cons, List.zip_nil_left]
    by_cases hc : i < la.length
    · have z1 : (i : Int) < la.length := by omega
      have z2 : (0 : Int) ≤ i := by omega
      have z3 : IntKind.i64.wrap ((i : Int) + 1) = ((i + 1 : Nat) : Int) := by rw [wrap_i64 (by omega) (by omega)]; omega
      have g1 := u32s_get hc
      have dx := da.getD i
      have sa := Nt.lv_take_succ la i
      generalize la.getD i 0 = x at *
      have hinit : MulI a b la.length lb.length o i 0 0 x la lb := ⟨h2.len, h2.dig, h2.c1, h2.hi, by have := h2.val; simp [Nt.lv] at this ⊢; exact this⟩
      (repeat (first | refine Stp.go ?_ | refine v_region ?_ | refine v_regionD ?_ | refine v_blocky (by decide) ?_ | ((first | refine v_o rfl ?_ ?_ | refine v_oD rfl ?_ ?_); (focus (simp only [u32s_length, z1, z2, z3, g1, go_sem]; done)); simp only [Env.put]) | ((first | refine v_u rfl fun K hK => ?_ | refine v_g rfl fun K hK => ?_ | refine v_uD rfl fun K hK => ?_ | refine v_gD rfl fun K hK => ?_); simp only [u32s_length, z1, z2, z3, g1, go_sem]) | (fail) | refine v_end ?_ | refine v_endD (by kernel_rfl) ?_ | (refine hK _ _ ?_; clear hK K) | refine ⟨by (first | trivial | assumption | omega | (intros; first | assumption | omega)), ?_⟩ | (apply v_condb; (focus (simp only [u32s_length, z1, z2, z3, g1, go_sem]; first | exact pvt | exact pvf)); simp only [cond_true, cond_false]) | fail))
      refine v_loop [2, 3, 4, 5, 6, 7, 8, 21, 22, 23, 29, 30, 31] (fun s : Nat × List Nat × Nat => s.1 ≤ lb.length ∧ MulI a b la.length lb.length s.2.1 i s.1 s.2.2 x la lb) (fun s => lb.length - s.1)
        (fun s => [.ptr 102 1 0 0, .ptr 103 1 0 0, .ptr 104 1 0 0, .sref 105 1 0 L false, .int .i64 i, .int .u32 x, .int .u64 s.2.2, .slc 1 (u32s la), .int .i64 la.length, .int .i64 i, .slc 1 (u32s lb), .int .i64 lb.length, .int .i64 s.1])
        (fun s => [(102, SC.row 49 1 [PV.agg [PV.slc 1 (u32s la)]]), (103, SC.row 49 1 [PV.agg [PV.slc 1 (u32s lb)]]), (104, SC.row 49 1 [PV.agg [PV.nilS]]), (105, SC.row 105 1 (u32s (s.2.1)))]) (0, o, 0) ⟨Nat.zero_le _, hinit⟩ ?_ ?_
      · exact (fits_sto _ id (by simp [Env.get, PV.renL, PV.ren , renL_u32s, refsL_u32s]) (by simp [PV.refsL, PV.refs , renL_u32s, refsL_u32s]) (by simp [SC.live, SC.ren, SC.refs, PV.renL, PV.ren, PV.refsL, PV.refs, sto_cons, sto_nil , renL_u32s, refsL_u32s]) (by simp ))
      · rintro ⟨k, o, c⟩ ⟨k1, k2⟩
        simp only at k1 k2
        simp only [List.zip_cons_cons, List.zip_nil_left]
        have hol := k2.len
        have hcc := k2.c1
        by_cases hk : k < lb.length
        · have y1 : (k : Int) < lb.length := by omega
          have y2 : (0 : Int) ≤ k := by omega
          have y3 : IntKind.i64.wrap ((k : Int) + 1) = ((k + 1 : Nat) : Int) := by rw [wrap_i64 (by omega) (by omega)]; omega
          have g2 := u32s_get hk
          have dy := db.getD k
          obtain ⟨y, hy⟩ : ∃ y, y = lb.getD k 0 := ⟨_, rfl⟩
          rw [← hy] at g2 dy
          obtain ⟨hn, hstep⟩ := k2.step hk hc dx hy dy
          have hxy : x * y ≤ 4294967295 * 4294967295 := Nat.mul_le_mul (by omega) (by omega)
          have f1 : IntKind.u64.wrap (x : Int) = (x : Int) := wrap_u64 (by omega) (by omega)
          have f2 : IntKind.u64.wrap (y : Int) = (y : Int) := wrap_u64 (by omega) (by omega)
          have f3 : IntKind.u64.wrap ((x : Int) * y) = ((x * y : Nat) : Int) := by rw [← Int.natCast_mul]; exact wrap_u64 (by omega) (by omega)
          have f4 : IntKind.i64.wrap ((i : Int) + k) = ((i + k : Nat) : Int) := by rw [wrap_i64 (by omega) (by omega)]; omega
          have f5 : (0 : Int) ≤ ((i + k : Nat) : Int) := by omega
          have f6 : ((i + k : Nat) : Int) < L := by omega
          have f7 : i + k < o.length := by omega
          have g3 := u32s_get f7
          have hz := k2.dig.getD (i + k)
          generalize o.getD (i + k) 0 = z at *
          have f8 : IntKind.u64.wrap (z : Int) = (z : Int) := wrap_u64 (by omega) (by omega)
          have f9 : IntKind.u64.wrap (((x * y : Nat) : Int) + z) = ((x * y + z : Nat) : Int) := by rw [wrap_u64 (by omega) (by omega)]; omega
          have f10 : IntKind.u64.wrap (((x * y + z : Nat) : Int) + c) = ((x * y + z + c : Nat) : Int) := by rw [wrap_u64 (by omega) (by omega)]; omega
          have f11 := wrap_u32_nat (x * y + z + c)
          have f12 : (2 : Int) ^ (min 32 64 : Nat) = 4294967296 := by decide
          have f13 : ((x * y + z + c : Nat) : Int).fdiv 4294967296 = (((x * y + z + c) / 4294967296 : Nat) : Int) := by rw [Int.fdiv_eq_ediv_of_nonneg _ (by omega)]; omega
          (repeat (first | refine Stp.go ?_ | refine v_region ?_ | refine v_regionD ?_ | refine v_blocky (by decide) ?_ | ((first | refine v_o rfl ?_ ?_ | refine v_oD rfl ?_ ?_); (focus (simp only [u32s_length, u32s_set, y1, y2, y3, g2, g3, f1, f2, f3, f4, f5, f6, f7, f8, f9, f10, f11, f12, f13, go_sem]; done)); simp only [Env.put]) | ((first | refine v_u rfl fun K hK => ?_ | refine v_g rfl fun K hK => ?_ | refine v_uD rfl fun K hK => ?_ | refine v_gD rfl fun K hK => ?_); simp only [u32s_length, u32s_set, y1, y2, y3, g2, g3, f1, f2, f3, f4, f5, f6, f7, f8, f9, f10, f11, f12, f13, go_sem]) | (fail) | refine v_end ?_ | refine v_endD (by kernel_rfl) ?_ | (refine hK _ _ ?_; clear hK K) | refine ⟨by (first | trivial | assumption | omega | (intros; first | assumption | omega)), ?_⟩ | (apply v_condb; (focus (simp only [u32s_length, u32s_set, y1, y2, y3, g2, g3, f1, f2, f3, f4, f5, f6, f7, f8, f9, f10, f11, f12, f13, go_sem]; first | exact pvt | exact pvf)); simp only [cond_true, cond_false]) | fail))
          exact v_round (k + 1, o.set (i + k) ((x * y + z + c) % 4294967296), (x * y + z + c) / 4294967296) ⟨hk, hstep⟩ (by simp only; omega) (fits_sto _ id (by simp [Env.get, PV.renL, PV.ren , renL_u32s, refsL_u32s]) (by simp [PV.refsL, PV.refs , renL_u32s, refsL_u32s]) (by simp [SC.live, SC.ren, SC.refs, PV.renL, PV.ren, PV.refsL, PV.refs, sto_cons, sto_nil , renL_u32s, refsL_u32s]) (by simp ))
        · have y1 : ¬ (k : Int) < lb.length := by omega
          have hke : k = lb.length := by omega
          have f4 : IntKind.i64.wrap ((i : Int) + lb.length) = ((i + lb.length : Nat) : Int) := by rw [wrap_i64 (by omega) (by omega)]; omega
          have f5 : (0 : Int) ≤ ((i + lb.length : Nat) : Int) := by omega
          have f6 : ((i + lb.length : Nat) : Int) < L := by omega
          have f7 : i + lb.length < o.length := by omega
          have g3 := u32s_get f7
          have hz := k2.hi (i + lb.length) (Nat.le_refl _) f7
          rw [hz] at g3
          have f8 : IntKind.u32.wrap (c : Int) = (c : Int) := wrap_u32 (by omega) (by omega)
          (repeat (first | refine Stp.go ?_ | refine v_region ?_ | refine v_regionD ?_ | refine v_blocky (by decide) ?_ | ((first | refine v_o rfl ?_ ?_ | refine v_oD rfl ?_ ?_); (focus (simp only [u32s_length, u32s_set, y1, z3, f4, f5, f6, f7, f8, g3, go_sem]; done)); simp only [Env.put]) | ((first | refine v_u rfl fun K hK => ?_ | refine v_g rfl fun K hK => ?_ | refine v_uD rfl fun K hK => ?_ | refine v_gD rfl fun K hK => ?_); simp only [u32s_length, u32s_set, y1, z3, f4, f5, f6, f7, f8, g3, go_sem]) | (refine v_loopx ?_) | refine v_end ?_ | refine v_endD (by kernel_rfl) ?_ | (refine hK _ _ ?_; clear hK K) | refine ⟨by (first | trivial | assumption | omega | (intros; first | assumption | omega)), ?_⟩ | (apply v_condb; (focus (simp only [u32s_length, u32s_set, y1, z3, f4, f5, f6, f7, f8, g3, go_sem]; first | exact pvt | exact pvf)); simp only [cond_true, cond_false]) | fail))
          refine v_round (i + 1, o.set (i + lb.length) c) ⟨hc, ⟨by simpa using hol, k2.dig.set _ hcc, by decide, fun j j1 j2 => ?_, ?_⟩⟩ (by simp only; omega) (fits_sto _ id (by simp [Env.get, PV.renL, PV.ren , renL_u32s, refsL_u32s]) (by simp [PV.refsL, PV.refs , renL_u32s, refsL_u32s]) (by simp [SC.live, SC.ren, SC.refs, PV.renL, PV.ren, PV.refsL, PV.refs, sto_cons, sto_nil , renL_u32s, refsL_u32s]) (by simp ))
          · simp only [List.length_set] at j2
            rw [Heap.getD_set _ _ _ _ _ f7, if_neg (by omega)]
            exact k2.hi j (by omega) j2
          · have hs := Nt.lv_set o (i + lb.length) c f7
            rw [hz] at hs
            have hv := k2.val
            rw [hke, List.take_length, vb] at hv
            have q1 : 4294967296 ^ (i + 1 + 0) * 0 = 0 := Nat.mul_zero _
            have q2 : 4294967296 ^ (i + 1) * (0 * Nt.lv (lb.take 0)) = 0 := by rw [Nat.zero_mul, Nat.mul_zero]
            have q3 : Nt.lv (la.take (i + 1)) * b = Nt.lv (la.take i) * b + 4294967296 ^ i * (x * b) := by rw [sa, Nat.add_mul, Nat.mul_assoc]
            change Nt.lv (o.set (i + lb.length) c) + 4294967296 ^ (i + 1 + 0) * 0 = Nt.lv (la.take (i + 1)) * b + 4294967296 ^ (i + 1) * (0 * Nt.lv (lb.take 0))
            rw [q1, q2, q3]
            clear q1 q2 q3 sa
            omega
    · have z1 : ¬ (i : Int) < la.length := by omega
      have hie : i = la.length := by omega
      have hol := h2.len
      have hv : Nt.lv o = a * b := by
        have := h2.val
        rw [hie, List.take_length, va] at this
        simpa using this
      have hnorm := norm_good o h2.dig (by omega)
      have htk := (Nt.take_limbs h2.dig).2
      rw [hv] at hnorm htk
      have hLo : L = o.length := by omega
      clear hL
      subst hLo
      (repeat (first | refine Stp.go ?_ | refine v_region ?_ | refine v_regionD ?_ | refine v_blocky (by decide) ?_ | (refine v_callR (by simp [dstOk]) rfl ?_; simp only [List.map_cons, List.map_nil, List.nil_append, List.append_nil, List.cons_append, Env.eval, Env.get, reduceIte, Nat.reduceEqDiff, List.toList_toArray, PV.ofConst]; refine callR_sto ([.sref 1 1 0 o.length false]) ([(1, .row 105 1 (u32s o))]) ((fun x => if x = 1 then 105 else x)) (hnorm) (by simp [PV.renL, PV.ren , renL_u32s, refsL_u32s]) (by simp [PV.refsL, PV.refs , renL_u32s, refsL_u32s]) (by simp [SC.live, SC.ren, SC.refs, PV.renL, PV.ren, PV.refsL, PV.refs, sto_cons, sto_nil, renL_ints, refsL_ints, renL_nats, refsL_nats, List.length_set , renL_u32s, refsL_u32s]) (by simp [id_eq , renL_u32s, refsL_u32s]) ?_; rintro _ _ ⟨rfl, rfl⟩; refine ⟨[(1, .row 105 1 (u32s o))], (fun x => if x = 1 then 105 else x), rfl, (by simp [SC.live, SC.ren, SC.refs, PV.renL, PV.ren, PV.refsL, PV.refs, sto_cons, sto_nil, renL_ints, refsL_ints, renL_nats, refsL_nats, List.length_set , renL_u32s, refsL_u32s]), (by simp [PV.refsL, PV.refs , renL_u32s, refsL_u32s]), (by simp [Free, sto_cons, sto_nil , renL_u32s, refsL_u32s]), (by simp [id_eq , renL_u32s, refsL_u32s]), ?_⟩; simp only [backL, List.map_cons, List.map_nil, List.cons_append, List.nil_append, SC.ren, PV.renL, PV.ren, renL_ints, renL_nats, id_eq, Env.put , renL_u32s, refsL_u32s]) | ((first | refine v_o rfl ?_ ?_ | refine v_oD rfl ?_ ?_); (focus (simp only [u32s_length, z1, go_sem]; done)); simp only [Env.put]) | ((first | refine v_u rfl fun K hK => ?_ | refine v_g rfl fun K hK => ?_ | refine v_uD rfl fun K hK => ?_ | refine v_gD rfl fun K hK => ?_); simp only [u32s_length, z1, go_sem]) | (refine v_loopx ?_) | refine v_end ?_ | refine v_endD (by kernel_rfl) ?_ | (refine hK _ _ ?_; clear hK K) | refine ⟨by (first | trivial | assumption | omega | (intros; first | assumption | omega)), ?_⟩ | (apply v_condb; (focus (simp only [u32s_length, z1, go_sem]; first | exact pvt | exact pvf)); simp only [cond_true, cond_false]) | fail))
      (first | refine v_fin_n ?_ | refine v_fin_r ?_); simp only [htk, u32s_length, List.drop_zero, resK, one, PV.snap, go_sem]
      exact wk_norm4 h2.dig hv
end Go.V
