import Derived.Test.YtjadcdikckmooaaMP
import Derived.Test.YtjadcdikckmooaaM5
/- A part of a proof, with no condition of its own. Merged texts: G0 G1. -/
/- The square of the document: what the functions of layer 12 answer there. -/
set_option linter.unusedVariables false
set_option linter.unusedSimpArgs false
namespace Go.V
open Go.RowKit Go.Proofs

def sqL (i : Nat) : Lnk := ⟨i, ((i : Int) + 1) % 4, 1, 1, 0, 1, 0⟩
def sq : Topo := ⟨4, [], [sqL 0, sqL 1, sqL 2, sqL 3]⟩
theorem sq_ok : sq.ok = true := by decide +kernel
theorem sq_mask : maskOk sq [] = true := by decide +kernel
theorem sq_e : distE sq [] 2 = 0 := by decide +kernel
theorem sq_isDist : SP.IsDist (sq.gr [] 2 false) [2, 1, 0, 1] := by
  refine ⟨by decide +kernel, ?_, ?_, by decide +kernel, ?_, ?_⟩
  · show ∀ v, v < 4 → _
    decide +kernel
  · show ∀ v, v < 4 → _
    decide +kernel
  · show ∀ a, a < 8 → _
    decide +kernel
  · show ∀ v, v < 4 → v ≠ 2 → _
    intro v hv h2 h0
    match v, hv with
    | 0, _ => exact ⟨0, by decide +kernel⟩
    | 1, _ => exact ⟨2, by decide +kernel⟩
    | 2, _ => exact absurd rfl h2
    | 3, _ => exact ⟨5, by decide +kernel⟩
theorem sq_dist : distL sq [] 2 false = [2, 1, 0, 1] :=
  SP.IsDist.unique (Topo.gr_ok sq_ok [] (by decide) (by decide) false) (distL_is sq_ok [] (by decide) (by decide) false) sq_isDist
theorem sq_order : orderL [2, 1, 0, 1] = [0, 1, 3, 2] := by decide +kernel
theorem sq_next : nextL sq [] [2, 1, 0, 1] 0 2 = [0, 7] := by decide +kernel
theorem sq_count : cntL sq [] [2, 1, 0, 1] 2 9 [0, 1, 3, 2] = [2, 1, 1, 1] := by decide +kernel
theorem sq_nextR : nextR sq [] 0 2 = .tup [.slc 1 (ints [0, 7]), .int .i64 0] := by
  unfold nextR
  rw [sq_e, if_pos rfl, if_pos (by decide), sq_dist, sq_next]
theorem sq_countR : countR sq [] 0 2 9 = .tup [.int .i64 2, .int .i64 0] := by
  unfold countR
  rw [sq_e, if_pos rfl, if_pos (by decide), if_pos (by decide), sq_dist, sq_order, sq_count]
  rfl
theorem sq_orderR : orderR sq [] 2 = .tup [.slc 1 (ints [0, 1, 3, 2]), .int .i64 0] := by
  unfold orderR
  rw [sq_e, if_pos rfl, sq_dist, sq_order]

/-- A step with small numbers. -/
def stepB (t : Topo) (c : Nat) (n : Int) (s : ShS) (a : Int) : Bool :=
  decide ((s.at n).num.natAbs < 4294967296) && decide ((s.at n).den * c < 4294967296) && decide ((s.at (t.head a)).num.natAbs < 4294967296) && decide ((s.at n / ((c : Int) : Rat)).num.natAbs < 4294967296) &&
    decide ((s.at (t.head a)).den * (s.at n / ((c : Int) : Rat)).den < 4294967296)
theorem rt_small {q : Rat} (h : q.num.natAbs < 4294967296) : Rt.ok q := Nat.le_trans (limbs_small h) (by decide)
theorem stepB_ok {t : Topo} {c : Nat} {n : Int} {s : ShS} {a : Int} (h : stepB t c n s a = true) : stepOk t c n s a := by
  simp only [stepB, Bool.and_eq_true, decide_eq_true_eq] at h
  exact ⟨rt_small h.1.1.1.1, h.1.1.1.2, rt_small h.1.1.2, rt_small h.1.2, h.2⟩
def shOkB (t : Topo) (down : List Bool) (dist : List Int) (s d : Int) (ord : List Int) : Bool :=
  (List.range ord.length).all fun i => (List.range (nextL t down dist (ord.getD i 0) d).length).all fun k =>
    stepB t (nextL t down dist (ord.getD i 0) d).length (ord.getD i 0)
      (((nextL t down dist (ord.getD i 0) d).take k).foldl (shStep t (nextL t down dist (ord.getD i 0) d).length (ord.getD i 0)) (shL t down dist s d (ord.take i)))
      ((nextL t down dist (ord.getD i 0) d).getD k 0)
theorem shOkB_ok {t : Topo} {down : List Bool} {dist : List Int} {s d : Int} {ord : List Int} (h : shOkB t down dist s d ord = true) : ShOk t down dist s d ord := by
  intro i k hi hk
  simp only [shOkB, List.all_eq_true, List.mem_range] at h
  exact stepB_ok (h i hi k hk)
theorem sq_shOk : ShOk sq [] [2, 1, 0, 1] 0 2 [0, 1, 3, 2] := shOkB_ok (by decide +kernel)
theorem sq_share : (shL sq [] [2, 1, 0, 1] 0 2 [0, 1, 3, 2]).sh = [some (1 / 2), none, some (1 / 2), none, none, some (1 / 2), none, some (1 / 2)] := by decide +kernel
theorem sq_shareR : shareR sq [] 0 2 = .tup [.slc 3 (rats [some (1 / 2), none, some (1 / 2), none, none, some (1 / 2), none, some (1 / 2)]), .int .i64 0] := by
  unfold shareR
  rw [sq_e, if_pos rfl, if_pos (by decide), sq_dist, if_pos (by decide), sq_order, sq_share]

/-- The square as it lies in memory, and no mask. -/
def pvSq : PV := .agg [.int .i64 4, .nilS, .slc 7 (sq.ls.map pvL)]
theorem wk_sq : Wk pvSq (pvT sq) := Wk.agg rfl fun j p q hp hq => by
  match j with
  | 0 => simp [pvSq, pvT] at hp hq; subst hp hq; exact .refl _
  | 1 => simp [pvSq, pvT] at hp hq; subst hp hq; exact Wk.nil 1
  | 2 => simp [pvSq, pvT] at hp hq; subst hp hq; exact .refl _
  | j + 3 => simp at hp
theorem Good.sq {k : FuncId} {l : List PV} {r : PV} (h : Good Try.prog k (pvT sq :: .slc 1 (bools []) :: l) r) : Good Try.prog k (pvSq :: .nilS :: l) r :=
  Good.pre h rfl fun j p q hp hq => by
    match j with
    | 0 => simp at hp hq; subst hp hq; exact wk_sq
    | 1 => simp at hp hq; subst hp hq; exact Wk.nil 1
    | j + 2 =>
      simp only [List.getElem?_cons_succ] at hp hq
      rw [hp] at hq
      obtain rfl := Option.some.inj hq
      exact .refl _
theorem sqnext_good : Good Try.prog 13 [pvSq, .nilS, .int .i64 0, .int .i64 2] (.tup [.slc 1 (ints [0, 7]), .int .i64 0]) := by
  have := next_good sq [] 0 2
  rw [sq_nextR] at this
  exact this.sq
theorem sqcount_good : Good Try.prog 32 [pvSq, .nilS, .int .i64 0, .int .i64 2, .int .i64 9] (.tup [.int .i64 2, .int .i64 0]) := by
  have := count_good sq [] 0 2 9 (by decide) (by decide)
  rw [sq_countR] at this
  exact this.sq
theorem sqorder_good : Good Try.prog 16 [pvSq, .nilS, .int .i64 2] (.tup [.slc 1 (ints [0, 1, 3, 2]), .int .i64 0]) := by
  have := order_good sq [] 2 (by decide)
  rw [sq_orderR] at this
  exact this.sq
theorem sqshare_good : Good Try.prog 26 [pvSq, .nilS, .int .i64 0, .int .i64 2] (.tup [.slc 3 (rats [some (1 / 2), none, some (1 / 2), none, none, some (1 / 2), none, some (1 / 2)]), .int .i64 0]) := by
  have := share_good sq [] 0 2 (by decide) (fun _ _ _ => by rw [sq_dist, sq_order]; exact sq_shOk)
  rw [sq_shareR] at this
  exact this.sq
theorem sqof_good : Good Try.prog 37 [.int .i64 1, .int .i64 2] (.tup [pvQ (1 / 2), .int .i64 0]) := by
  have := rof_good 1 2 (by decide) (by decide) (by decide)
  have e : ofR 1 2 = .tup [pvQ (1 / 2), .int .i64 0] := by
    unfold ofR
    rw [if_neg (by decide)]
    have : Rat.divInt 1 2 = 1 / 2 := by decide +kernel
    rw [this]
  rw [e] at this
  exact this
theorem sqint_good : Good Try.prog 28 [.int .i64 0] (pvQ 0) := rint_good 0 (by decide) (by decide)
theorem sqcmp1_good : Good Try.prog 31 [pvQ (1 / 2), pvQ (1 / 2)] (.int .i64 0) := by
  have := rcmp_good (1 / 2) (1 / 2) (rt_small (by decide +kernel)) (rt_small (by decide +kernel)) (by decide +kernel)
  have e : (1 / 2 - 1 / 2 : Rat).num.sign = 0 := by decide +kernel
  rw [e] at this
  exact this
theorem sqcmp0_good : Good Try.prog 31 [.agg [.bool false, .nilS, .nilS], pvQ 0] (.int .i64 0) := by
  have := rcmp_good 0 0 (rt_small (by decide +kernel)) (rt_small (by decide +kernel)) (by decide +kernel)
  have e : (0 - 0 : Rat).num.sign = 0 := by decide +kernel
  rw [e] at this
  exact good_ops none (some 0) .undef .undef this
end Go.V
/- The example of the document holds. -/
set_option linter.unusedVariables false
set_option linter.unusedSimpArgs false
namespace Go.V
open Go.RowKit Go.Proofs
attribute [local irreducible] wp seqK lexK opK callK upd sto Good GoodR

def sqK (k : Nat) : List Lnk := (List.range k).map sqL
theorem sqK_succ (k : Nat) : sqK (k + 1) = sqK k ++ [sqL k] := by simp [sqK, List.range_succ]
theorem sqK_length (k : Nat) : (sqK k).length = k := by simp [sqK]
def sqS (k : Nat) : PV := if k = 0 then .nilS else .sref 101 7 0 k false
def sqG (k : Nat) : List (Nat × SC) := if k = 0 then [] else [(101, .row 63 7 ((sqK k).map pvL))]

def pvH : PV := .agg [.bool false, nl 1, nl 1]
def pvZ : PV := .agg [.bool false, .nilS, .nilS]
theorem pvH_eq : pvQ (1 / 2) = pvH := by
  have e1 : (1 / 2 : Rat).num = 1 := by decide +kernel
  have e2 : (1 / 2 : Rat).den = 2 := by decide +kernel
  unfold pvQ pvH
  rw [e1, e2]
  rfl
theorem share_sq : Good Try.prog 26 [pvSq, .nilS, .int .i64 0, .int .i64 2] (.tup [.slc 3 [pvH, pvZ, pvH, pvZ, pvZ, pvH, pvZ, pvH], .int .i64 0]) := by
  have := sqshare_good
  simp only [rats, List.map_cons, List.map_nil, pvO_some, pvH_eq] at this
  exact this
theorem of_sq : Good Try.prog 37 [.int .i64 1, .int .i64 2] (.tup [pvH, .int .i64 0]) := by
  have := sqof_good
  rw [pvH_eq] at this
  exact this
theorem cmp_sq : Good Try.prog 31 [pvH, pvH] (.int .i64 0) := by
  have := sqcmp1_good
  rw [pvH_eq] at this
  exact this
theorem same_sq (l : List Int) (hl : l.length ≤ 1000000) : Good Try.prog 15 [.slc 1 (ints l), .slc 1 (ints l)] (.bool true) := by
  have := sameints_good l l hl
  simpa using this
theorem sq_frz (env : Env) (l : List (Nat × SC)) (h : Env.get env 3 = .ptr 8002 3 0 0) (h1 : sto l 8002 = .row 25 3 [.agg [.int .i64 4, .nilS, .sref 101 7 0 4 false]]) (h2 : sto l 101 = .row 63 7 ((sqK 4).map pvL)) :
    frzE env (sto l) [3] = [(3, .vptr [.int .i64 4, .nilS, .slc 7 (sq.ls.map pvL)] 0)] := by
  have e1 : PV.snap (sto l) 5 (.sref 101 7 0 4 false) = .slc 7 (sq.ls.map pvL) := by
    simp only [PV.snap, h2]
    rw [if_pos (by decide +kernel)]
    rfl
  have e2 : PV.snap (sto l) 6 (.ptr 8002 3 0 0) = .vptr ([.int .i64 4, .nilS, .sref 101 7 0 4 false].map (PV.snap (sto l) 5)) 0 := by
    rw [PV.snap, h1]
    rfl
  simp only [frzE, List.map_cons, List.map_nil, h, e2, e1]
  rfl

set_option maxHeartbeats 4000000 in
theorem awake_good : Good Try.prog 11 [] (.bool true) := by
  refine v_enterZ 4 ttok mixed Try.func11 (by kernel_rfl) rfl Try.ntmps11 Try.results11 (by simp) ?_; rw [fresh_sto]; simp only [argEnv, List.range, List.range.loop, List.length_cons, List.length_nil, List.zip_cons_cons, List.zip_nil_left]
  refine v_zseq ?_
  (repeat (first | refine Stp.go ?_ | refine v_region ?_ | refine v_regionD ?_ | refine v_blocky (by decide) ?_ | ((first | refine v_o rfl ?_ ?_ | refine v_oD rfl ?_ ?_); (focus (simp only [ go_sem]; done)); simp only [Env.put]) | ((first | refine v_u rfl fun K hK => ?_ | refine v_g rfl fun K hK => ?_ | refine v_uD rfl fun K hK => ?_ | refine v_gD rfl fun K hK => ?_); simp only [ go_sem]) | (fail) | refine v_end ?_ | refine v_endD (by kernel_rfl) ?_ | (refine hK _ _ ?_; clear hK K) | refine ⟨by (first | trivial | assumption | omega | (intros; first | assumption | omega)), ?_⟩ | (apply v_condb; (focus (simp only [ go_sem]; first | exact pvt | exact pvf)); simp only [cond_true, cond_false]) | fail))
  refine v_zn (v_zseq ?_)
  (repeat (first | refine Stp.go ?_ | refine v_region ?_ | refine v_regionD ?_ | refine v_blocky (by decide) ?_ | ((first | refine v_o rfl ?_ ?_ | refine v_oD rfl ?_ ?_); (focus (simp only [ go_sem]; done)); simp only [Env.put]) | ((first | refine v_u rfl fun K hK => ?_ | refine v_g rfl fun K hK => ?_ | refine v_uD rfl fun K hK => ?_ | refine v_gD rfl fun K hK => ?_); simp only [ go_sem]) | (fail) | refine v_end ?_ | refine v_endD (by kernel_rfl) ?_ | (refine hK _ _ ?_; clear hK K) | refine ⟨by (first | trivial | assumption | omega | (intros; first | assumption | omega)), ?_⟩ | (apply v_condb; (focus (simp only [ go_sem]; first | exact pvt | exact pvf)); simp only [cond_true, cond_false]) | fail))
  refine v_zn (v_zseq ?_)
  (repeat (first | refine Stp.go ?_ | refine v_region ?_ | refine v_regionD ?_ | refine v_blocky (by decide) ?_ | ((first | refine v_o rfl ?_ ?_ | refine v_oD rfl ?_ ?_); (focus (simp only [ go_sem]; done)); simp only [Env.put]) | ((first | refine v_u rfl fun K hK => ?_ | refine v_g rfl fun K hK => ?_ | refine v_uD rfl fun K hK => ?_ | refine v_gD rfl fun K hK => ?_); simp only [ go_sem]) | (fail) | refine v_end ?_ | refine v_endD (by kernel_rfl) ?_ | (refine hK _ _ ?_; clear hK K) | refine ⟨by (first | trivial | assumption | omega | (intros; first | assumption | omega)), ?_⟩ | (apply v_condb; (focus (simp only [ go_sem]; first | exact pvt | exact pvf)); simp only [cond_true, cond_false]) | fail))
  refine v_loop [1, 14] (fun k : Nat => k ≤ 4) (fun k => 4 - k) (fun k => [sqS k, .int .i64 k]) sqG 0 (by decide) ?_ ?_
  · exact (fits_sto _ id (by simp [Env.get, PV.renL, PV.ren , sqS, sqG]) (by simp [PV.refsL, PV.refs , sqS, sqG]) (by simp [SC.live, SC.ren, SC.refs, PV.renL, PV.ren, PV.refsL, PV.refs, sto_cons, sto_nil , sqS, sqG]) (by simp [sqG]))
  · intro k hk
    simp only [List.zip_cons_cons, List.zip_nil_left]
    by_cases hc : k < 4
    · have z1 : (k : Int) < 4 := by omega
      have z3 : IntKind.i64.wrap ((k : Int) + 1) = (k : Int) + 1 := wrap_i64 (by omega) (by omega)
      have z4 : ((k : Int) + 1).tmod 4 = ((k : Int) + 1) % 4 := Int.tmod_eq_emod_of_nonneg (by omega)
      have hsucc := sqK_succ k
      have hl := sqK_length k
      have hd : sqL k = ⟨k, ((k : Int) + 1) % 4, 1, 1, 0, 1, 0⟩ := rfl
      by_cases h0 : k = 0
      · subst h0
        (repeat (first | refine Stp.go ?_ | refine v_region ?_ | refine v_regionD ?_ | refine v_blocky (by decide) ?_ | ((first | refine v_o rfl ?_ ?_ | refine v_oD rfl ?_ ?_); (focus (simp only [sqS, sqG, z1, z3, z4, rep1', go_sem]; done)); simp only [Env.put]) | ((first | refine v_u rfl fun K hK => ?_ | refine v_g rfl fun K hK => ?_ | refine v_uD rfl fun K hK => ?_ | refine v_gD rfl fun K hK => ?_); simp only [sqS, sqG, z1, z3, z4, rep1', go_sem]) | (fail) | refine v_end ?_ | refine v_endD (by kernel_rfl) ?_ | (refine hK _ _ ?_; clear hK K) | refine ⟨by (first | trivial | assumption | omega | (intros; first | assumption | omega)), ?_⟩ | (apply v_condb; (focus (simp only [sqS, sqG, z1, z3, z4, rep1', go_sem]; first | exact pvt | exact pvf)); simp only [cond_true, cond_false]) | fail))
        refine v_round 1 (by decide) (by decide) (fits_sto _ (fun x => if x = 101 then 6008 else x) (by simp [Env.get, PV.renL, PV.ren , sqS, sqG, sqK, sqL, pvL]) (by simp [PV.refsL, PV.refs , sqS, sqG, sqK, sqL, pvL]) (by simp [SC.live, SC.ren, SC.refs, PV.renL, PV.ren, PV.refsL, PV.refs, sto_cons, sto_nil , sqS, sqG, sqK, sqL, pvL]) (by simp [sqG]))
      · have f1 : (k + 1) * 56 ≤ 140737488355328 := by omega
        have f2 : k + 1 ≤ 140737488355328 := by omega
        have f3 : ((sqK k).map pvL).take k = (sqK k).map pvL := List.take_of_length_le (by simp [hl])
        have f4 := no_room k
        have f5 : k ≤ k := Nat.le_refl _
        have hl2 : ((sqK k).map pvL).length = k := by simp [hl]
        have h1 : k + 1 ≠ 0 := by omega
        have eS : sqS k = .sref 101 7 0 k false := if_neg h0
        have eG : sqG k = [(101, .row 63 7 ((sqK k).map pvL))] := if_neg h0
        have eS' : sqS (k + 1) = .sref 101 7 0 (k + 1) false := if_neg h1
        have eG' : sqG (k + 1) = [(101, .row 63 7 ((sqK (k + 1)).map pvL))] := if_neg h1
        have hrf : PV.refsL ((sqK (k + 1)).map pvL) = [] := refsL_nil_of _ fun p hp => by
          obtain ⟨x, _, rfl⟩ := List.mem_map.1 hp
          rfl
        have hrn : ∀ f, PV.renL f ((sqK (k + 1)).map pvL) = (sqK (k + 1)).map pvL := fun f => PV.renL_none f _ hrf
        have hE : (sqK k).map pvL ++ [.agg [.int .i64 k, .int .i64 (((k : Int) + 1) % 4), .int .i64 1, .int .i64 1, .int .i64 0, .int .i64 1, .int .i64 0]] = (sqK (k + 1)).map pvL := by rw [hsucc, List.map_append]; rfl
        rw [eS, eG]
        generalize (sqK (k + 1)).map pvL = es' at *
        generalize (sqK k).map pvL = es at *
        (repeat (first | refine Stp.go ?_ | refine v_region ?_ | refine v_regionD ?_ | refine v_blocky (by decide) ?_ | ((first | refine v_o rfl ?_ ?_ | refine v_oD rfl ?_ ?_); (focus (simp only [z1, z3, z4, rep1', f1, f2, f3, f4, f5, hl2, go_sem]; done)); simp only [Env.put]) | ((first | refine v_u rfl fun K hK => ?_ | refine v_g rfl fun K hK => ?_ | refine v_uD rfl fun K hK => ?_ | refine v_gD rfl fun K hK => ?_); simp only [z1, z3, z4, rep1', f1, f2, f3, f4, f5, hl2, go_sem]) | (fail) | refine v_end ?_ | refine v_endD (by kernel_rfl) ?_ | (refine hK _ _ ?_; clear hK K) | refine ⟨by (first | trivial | assumption | omega | (intros; first | assumption | omega)), ?_⟩ | (apply v_condb; (focus (simp only [z1, z3, z4, rep1', f1, f2, f3, f4, f5, hl2, go_sem]; first | exact pvt | exact pvf)); simp only [cond_true, cond_false]) | fail))
        refine v_round (k + 1) hc (by omega) (fits_sto _ (fun x => if x = 101 then 6008 else x) (by simp [Env.get, PV.renL, PV.ren , eS', eG', hE, hrn, hrf]) (by simp [PV.refsL, PV.refs , eS', eG', hE, hrn, hrf]) (by simp [SC.live, SC.ren, SC.refs, PV.renL, PV.ren, PV.refsL, PV.refs, sto_cons, sto_nil , eS', eG', hE, hrn, hrf]) (by simp [eG']))
    · have hk4 : k = 4 := by omega
      subst hk4
      (repeat (first | refine Stp.go ?_ | refine v_region ?_ | refine v_regionD ?_ | refine v_blocky (by decide) ?_ | ((first | refine v_o rfl ?_ ?_ | refine v_oD rfl ?_ ?_); (focus (simp only [sqS, sqG, go_sem]; done)); simp only [Env.put]) | ((first | refine v_u rfl fun K hK => ?_ | refine v_g rfl fun K hK => ?_ | refine v_uD rfl fun K hK => ?_ | refine v_gD rfl fun K hK => ?_); simp only [sqS, sqG, go_sem]) | (refine v_loopx ?_) | refine v_end ?_ | refine v_endD (by kernel_rfl) ?_ | (refine hK _ _ ?_; clear hK K) | refine ⟨by (first | trivial | assumption | omega | (intros; first | assumption | omega)), ?_⟩ | (apply v_condb; (focus (simp only [sqS, sqG, go_sem]; first | exact pvt | exact pvf)); simp only [cond_true, cond_false]) | fail))
      refine v_zn (v_zseq ?_)
      (repeat (first | refine Stp.go ?_ | refine v_region ?_ | refine v_regionD ?_ | refine v_blocky (by decide) ?_ | ((first | refine v_o rfl ?_ ?_ | refine v_oD rfl ?_ ?_); (focus (simp only [ go_sem]; done)); simp only [Env.put]) | ((first | refine v_u rfl fun K hK => ?_ | refine v_g rfl fun K hK => ?_ | refine v_uD rfl fun K hK => ?_ | refine v_gD rfl fun K hK => ?_); simp only [ go_sem]) | (fail) | refine v_end ?_ | refine v_endD (by kernel_rfl) ?_ | (refine hK _ _ ?_; clear hK K) | refine ⟨by (first | trivial | assumption | omega | (intros; first | assumption | omega)), ?_⟩ | (apply v_condb; (focus (simp only [ go_sem]; first | exact pvt | exact pvf)); simp only [cond_true, cond_false]) | fail))
      refine v_zn (v_frz [3] ?_)
      rw [sq_frz _ _ rfl (by simp [sto_cons]) (by simp [sto_cons]), frzS_sto]
      simp only [List.map_cons, List.map_nil, frzC]
      have n1 := sqnext_good
      have n2 := sqcount_good
      have n3 := sqorder_good
      have n4 := share_sq
      have n5 := of_sq
      have n6 := cmp_sq
      have n7 := sqcmp0_good
      have n8 := sqint_good
      have n9 := same_sq [0, 7] (by decide)
      have n10 := same_sq [0, 1, 3, 2] (by decide)
      rw [pvQ_zero] at n7 n8
      unfold pvSq at n1 n2 n3 n4
      unfold pvH at n4 n5 n6
      unfold pvZ at n4
      generalize sq.ls.map pvL = es at *
      have c8 : ((8 : Nat) : Int) = 8 := rfl
      (repeat (first | refine Stp.go ?_ | refine v_region ?_ | refine v_regionD ?_ | refine v_blocky (by decide) ?_ | ((first | refine v_o rfl ?_ ?_ | refine v_oD rfl ?_ ?_); (focus (simp only [rep1', c8, go_sem]; done)); simp only [Env.put]) | ((first | refine v_u rfl fun K hK => ?_ | refine v_g rfl fun K hK => ?_ | refine v_uD rfl fun K hK => ?_ | refine v_gD rfl fun K hK => ?_); simp only [rep1', c8, go_sem]) | (first | (refine callK_pure (fun hc => n1) rfl ?_; simp only [upds, eq_self, true_or, true_and]) | (refine callK_pure (fun hc => n2) rfl ?_; simp only [upds, eq_self, true_or, true_and]) | (refine callK_pure (fun hc => n3) rfl ?_; simp only [upds, eq_self, true_or, true_and]) | (refine callK_pure (fun hc => n4) rfl ?_; simp only [upds, eq_self, true_or, true_and]) | (refine callK_pure (fun hc => n5) rfl ?_; simp only [upds, eq_self, true_or, true_and]) | (refine callK_pure (fun hc => n6) rfl ?_; simp only [upds, eq_self, true_or, true_and]) | (refine callK_pure (fun hc => n7) rfl ?_; simp only [upds, eq_self, true_or, true_and]) | (refine callK_pure (fun hc => n8) rfl ?_; simp only [upds, eq_self, true_or, true_and]) | (refine callK_lent (fun hc => n9) ?_ rfl ?_; (focus (simp [PV.snap, sto_cons, ints, PV.plain]; done)); simp only [upds, eq_self, true_or, true_and]) | (refine callK_lent (fun hc => n10) ?_ rfl ?_; (focus (simp [PV.snap, sto_cons, ints, PV.plain]; done)); simp only [upds, eq_self, true_or, true_and])) | refine v_end ?_ | refine v_endD (by kernel_rfl) ?_ | (refine hK _ _ ?_; clear hK K) | refine ⟨by (first | trivial | assumption | omega | (intros; first | assumption | omega)), ?_⟩ | (apply v_condb; (focus (simp only [rep1', c8, go_sem]; first | exact pvt | exact pvf)); simp only [cond_true, cond_false]) | fail))
      (first | refine v_fin_n ?_ | refine v_fin_r ?_); simp only [ resK, one, PV.snap, go_sem]
      exact .refl _
end Go.V
