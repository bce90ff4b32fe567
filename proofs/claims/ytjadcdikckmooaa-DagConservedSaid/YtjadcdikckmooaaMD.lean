import Derived.Test.YtjadcdikckmooaaMS
import Derived.Test.YtjadcdikckmooaaMH
/- A part of a proof, with no condition of its own. Merged texts: D2 D3 D4. -/
/- Layer 12: the next arcs of a node. -/
set_option linter.unusedVariables false
set_option linter.unusedSimpArgs false
namespace Go.V
open Go.RowKit Go.Proofs
attribute [local irreducible] wp seqK lexK opK callK upd sto Good

def arcsUp (t : Topo) : List Int := (List.range (2 * t.ls.length)).map fun (i : Nat) => (i : Int)
def nextP (t : Topo) (down : List Bool) (dist : List Int) (n d a : Int) : Bool := decide (t.tail a = n) && onB t down dist a d
def nextK (t : Topo) (down : List Bool) (dist : List Int) (n d : Int) (k : Nat) : List Int := ((List.range k).map fun (i : Nat) => (i : Int)).filter (nextP t down dist n d)
def nextL (t : Topo) (down : List Bool) (dist : List Int) (n d : Int) : List Int := nextK t down dist n d (2 * t.ls.length)
theorem nextK_succ (t : Topo) (down : List Bool) (dist : List Int) (n d : Int) (k : Nat) : nextK t down dist n d (k + 1) = nextK t down dist n d k ++ if nextP t down dist n d k = true then [(k : Int)] else [] := by
  simp only [nextK, List.range_succ, List.map_append, List.filter_append, List.map_cons, List.map_nil, List.filter_cons, List.filter_nil]
theorem nextK_length (t : Topo) (down : List Bool) (dist : List Int) (n d : Int) (k : Nat) : (nextK t down dist n d k).length ≤ k := by
  have := List.length_filter_le (nextP t down dist n d) ((List.range k).map fun (i : Nat) => (i : Int))
  simpa [nextK] using this


set_option maxHeartbeats 2000000 in
theorem rnext_good (t : Topo) (down : List Bool) (dist : List Int) (n d : Int) (ht : t.ok = true) (hm : down.length = 0 ∨ down.length = 2 * t.ls.length) (hd : distOk t dist) :
    Good Try.prog 40 [pvT t, .slc 1 (bools down), .slc 1 (ints dist), .int .i64 n, .int .i64 d] (.slc 1 (ints (nextL t down dist n d))) := by
  refine v_enter ttok mixed Try.func40 (by kernel_rfl) rfl Try.ntmps40 Try.results40 (by simp) ?_; rw [fresh_sto]; simp only [argEnv, List.range, List.range.loop, List.length_cons, List.length_nil, List.zip_cons_cons, List.zip_nil_left]
  obtain ⟨hn1, hn2, hn3, hn4⟩ := Topo.frame_n (Topo.ok_frame ht)
  (repeat (first | refine Stp.go ?_ | refine v_region ?_ | refine v_regionD ?_ | refine v_blocky (by decide) ?_ | ((first | refine v_o rfl ?_ ?_ | refine v_oD rfl ?_ ?_); (focus (simp only [pvT, ite_bool, go_sem]; done)); simp only [Env.put]) | ((first | refine v_u rfl fun K hK => ?_ | refine v_g rfl fun K hK => ?_ | refine v_uD rfl fun K hK => ?_ | refine v_gD rfl fun K hK => ?_); simp only [pvT, ite_bool, go_sem]) | (fail) | refine v_end ?_ | refine v_endD (by kernel_rfl) ?_ | (refine hK _ _ ?_; clear hK K) | refine ⟨by (first | trivial | assumption | omega | (intros; first | assumption | omega)), ?_⟩ | (apply v_condb; (focus (simp only [pvT, ite_bool, go_sem]; first | exact pvt | exact pvf)); simp only [cond_true, cond_false]) | fail))
  refine v_loop [1, 2, 3, 4, 5, 11, 12] (fun k : Nat => k ≤ 2 * t.ls.length) (fun k => 2 * t.ls.length - k)
    (fun k => [.slc 1 (bools down), .slc 1 (ints dist), .int .i64 n, .int .i64 d, .ptr 102 3 0 0, osl 101 (nextK t down dist n d k), .int .i64 k]) (fun k => (102, .row 25 3 [pvT t]) :: oslG 101 3 (nextK t down dist n d k)) 0 (Nat.zero_le _) ?_ ?_
  · exact (fits_sto _ (fun x => if x = 102 then 1000 else x) (by simp [Env.get, PV.renL, PV.ren , pvT, nextK, osl_nil, oslG_nil]) (by simp [PV.refsL, PV.refs , pvT, nextK, osl_nil, oslG_nil]) (by simp [SC.live, SC.ren, SC.refs, PV.renL, PV.ren, PV.refsL, PV.refs, sto_cons, sto_nil , pvT, nextK, osl_nil, oslG_nil]) (by simp [nextK, oslG_nil]))
  · intro k hk
    simp only [List.zip_cons_cons, List.zip_nil_left]
    have hlen := nextK_length t down dist n d k
    have hsucc := nextK_succ t down dist n d k
    have z1 : IntKind.i64.wrap (2 * (t.ls.length : Int)) = 2 * (t.ls.length : Int) := wrap_i64 (by omega) (by omega)
    by_cases hc : k < 2 * t.ls.length
    · have ha : t.arc k := ⟨by omega, by omega⟩
      have z2 : (k : Int) < 2 * (t.ls.length : Int) := by omega
      have z3 : IntKind.i64.wrap ((k : Int) + 1) = ((k + 1 : Nat) : Int) := by rw [wrap_i64 (by omega) (by omega)]; omega
      have hon := on_good t down dist k d ht ha hm hd
      have htl := rtail_good t k ht ha
      generalize hP : nextP t down dist n d k = pk at *
      have hP' : (if decide (t.tail k = n) = true then onB t down dist k d else false) = pk := by rw [← hP]; unfold nextP; cases decide (t.tail k = n) <;> rfl
      generalize onB t down dist k d = on at *
      generalize hL : nextK t down dist n d k = l at *
      have f1 : (l.length + 1) * 8 ≤ 140737488355328 := by omega
      have f2 : l.length + 1 ≤ 140737488355328 := by omega
      have f3 := ints_take_all l
      have f4 := no_room l.length
      have f5 : l.length ≤ l.length := Nat.le_refl _
      (repeat (first | refine Stp.go ?_ | refine v_region ?_ | refine v_regionD ?_ | refine v_blocky (by decide) ?_ | ((first | refine v_o rfl ?_ ?_ | refine v_oD rfl ?_ ?_); (focus (simp only [pvT, ite_bool, List.length_map, z1, z2, z3, hP', go_sem]; done)); simp only [Env.put]) | ((first | refine v_u rfl fun K hK => ?_ | refine v_g rfl fun K hK => ?_ | refine v_uD rfl fun K hK => ?_ | refine v_gD rfl fun K hK => ?_); simp only [pvT, ite_bool, List.length_map, z1, z2, z3, hP', go_sem]) | (first | (refine callK_pure (fun hc => htl) rfl ?_; simp only [upds, eq_self, true_or, true_and]) | (refine callK_pure (fun hc => hon) rfl ?_; simp only [upds, eq_self, true_or, true_and])) | refine v_end ?_ | refine v_endD (by kernel_rfl) ?_ | (refine hK _ _ ?_; clear hK K) | refine ⟨by (first | trivial | assumption | omega | (intros; first | assumption | omega)), ?_⟩ | (apply v_condb; (focus (simp only [pvT, ite_bool, List.length_map, z1, z2, z3, hP', go_sem]; first | exact pvt | exact pvf)); simp only [cond_true, cond_false]) | fail))
      refine v_cond rfl (fun hx => ?_) (fun hx => ?_)
      · have hx : pk = true := by simpa [hP'] using hx
        rw [hx, if_pos rfl] at hsucc
        by_cases hnil : l = []
        · subst hnil
          rw [osl_nil, oslG_nil]
          (repeat (first | refine Stp.go ?_ | refine v_region ?_ | refine v_regionD ?_ | refine v_blocky (by decide) ?_ | ((first | refine v_o rfl ?_ ?_ | refine v_oD rfl ?_ ?_); (focus (simp only [pvT, ite_bool, z3, ints_length, rep1', go_sem]; done)); simp only [Env.put]) | ((first | refine v_u rfl fun K hK => ?_ | refine v_g rfl fun K hK => ?_ | refine v_uD rfl fun K hK => ?_ | refine v_gD rfl fun K hK => ?_); simp only [pvT, ite_bool, z3, ints_length, rep1', go_sem]) | (fail) | refine v_end ?_ | refine v_endD (by kernel_rfl) ?_ | (refine hK _ _ ?_; clear hK K) | refine ⟨by (first | trivial | assumption | omega | (intros; first | assumption | omega)), ?_⟩ | (apply v_condb; (focus (simp only [pvT, ite_bool, z3, ints_length, rep1', go_sem]; first | exact pvt | exact pvf)); simp only [cond_true, cond_false]) | fail))
          refine v_round (k + 1) hc (by omega) (fits_sto _ (fun x => if x = 101 then 7003 else x) (by simp [Env.get, PV.renL, PV.ren , hsucc, osl_cons, oslG_cons, ints, pvT]) (by simp [PV.refsL, PV.refs , hsucc, osl_cons, oslG_cons, ints, pvT]) (by simp [SC.live, SC.ren, SC.refs, PV.renL, PV.ren, PV.refsL, PV.refs, sto_cons, sto_nil , hsucc, osl_cons, oslG_cons, ints, pvT]) (by simp [hsucc, oslG_cons, pvT]))
        · rw [osl_some hnil, oslG_some hnil]
          (repeat (first | refine Stp.go ?_ | refine v_region ?_ | refine v_regionD ?_ | refine v_blocky (by decide) ?_ | ((first | refine v_o rfl ?_ ?_ | refine v_oD rfl ?_ ?_); (focus (simp only [pvT, ite_bool, z3, ints_length, rep1', f1, f2, f3, f4, f5, go_sem]; done)); simp only [Env.put]) | ((first | refine v_u rfl fun K hK => ?_ | refine v_g rfl fun K hK => ?_ | refine v_uD rfl fun K hK => ?_ | refine v_gD rfl fun K hK => ?_); simp only [pvT, ite_bool, z3, ints_length, rep1', f1, f2, f3, f4, f5, go_sem]) | (fail) | refine v_end ?_ | refine v_endD (by kernel_rfl) ?_ | (refine hK _ _ ?_; clear hK K) | refine ⟨by (first | trivial | assumption | omega | (intros; first | assumption | omega)), ?_⟩ | (apply v_condb; (focus (simp only [pvT, ite_bool, z3, ints_length, rep1', f1, f2, f3, f4, f5, go_sem]; first | exact pvt | exact pvf)); simp only [cond_true, cond_false]) | fail))
          refine v_round (k + 1) hc (by omega) (fits_sto _ (fun x => if x = 101 then 7003 else x) (by simp [Env.get, PV.renL, PV.ren , hsucc, osl_snoc, oslG_snoc, ints_snoc, renL_ints, refsL_ints, pvT]) (by simp [PV.refsL, PV.refs , hsucc, osl_snoc, oslG_snoc, ints_snoc, renL_ints, refsL_ints, pvT]) (by simp [SC.live, SC.ren, SC.refs, PV.renL, PV.ren, PV.refsL, PV.refs, sto_cons, sto_nil , hsucc, osl_snoc, oslG_snoc, ints_snoc, renL_ints, refsL_ints, pvT]) (by simp [hsucc, oslG_snoc, pvT]))
      · have hx : pk = false := by simpa [hP'] using hx
        rw [hx] at hsucc
        simp only [Bool.false_eq_true, if_false, List.append_nil] at hsucc
        (repeat (first | refine Stp.go ?_ | refine v_region ?_ | refine v_regionD ?_ | refine v_blocky (by decide) ?_ | ((first | refine v_o rfl ?_ ?_ | refine v_oD rfl ?_ ?_); (focus (simp only [z3, go_sem]; done)); simp only [Env.put]) | ((first | refine v_u rfl fun K hK => ?_ | refine v_g rfl fun K hK => ?_ | refine v_uD rfl fun K hK => ?_ | refine v_gD rfl fun K hK => ?_); simp only [z3, go_sem]) | (fail) | refine v_end ?_ | refine v_endD (by kernel_rfl) ?_ | (refine hK _ _ ?_; clear hK K) | refine ⟨by (first | trivial | assumption | omega | (intros; first | assumption | omega)), ?_⟩ | (apply v_condb; (focus (simp only [z3, go_sem]; first | exact pvt | exact pvf)); simp only [cond_true, cond_false]) | fail))
        by_cases hnil : l = []
        · subst hnil
          rw [osl_nil, oslG_nil]
          refine v_round (k + 1) hc (by omega) (fits_sto _ id (by simp [Env.get, PV.renL, PV.ren , hsucc, osl_nil, oslG_nil, ints, renL_ints, refsL_ints, pvT]) (by simp [PV.refsL, PV.refs , hsucc, osl_nil, oslG_nil, ints, renL_ints, refsL_ints, pvT]) (by simp [SC.live, SC.ren, SC.refs, PV.renL, PV.ren, PV.refsL, PV.refs, sto_cons, sto_nil , hsucc, osl_nil, oslG_nil, ints, renL_ints, refsL_ints, pvT]) (by simp [hsucc, oslG_nil, pvT]))
        · rw [osl_some hnil, oslG_some hnil]
          refine v_round (k + 1) hc (by omega) (fits_sto _ id (by simp [Env.get, PV.renL, PV.ren , hsucc, osl_some hnil, oslG_some hnil, renL_ints, refsL_ints, pvT]) (by simp [PV.refsL, PV.refs , hsucc, osl_some hnil, oslG_some hnil, renL_ints, refsL_ints, pvT]) (by simp [SC.live, SC.ren, SC.refs, PV.renL, PV.ren, PV.refsL, PV.refs, sto_cons, sto_nil , hsucc, osl_some hnil, oslG_some hnil, renL_ints, refsL_ints, pvT]) (by simp [hsucc, oslG_some hnil, pvT]))
    · have z2 : ¬ (k : Int) < 2 * (t.ls.length : Int) := by omega
      have hkn : k = 2 * t.ls.length := by omega
      have eL : nextL t down dist n d = nextK t down dist n d k := by rw [hkn]; rfl
      rw [eL]
      generalize nextK t down dist n d k = l at *
      by_cases hnil : l = []
      · subst hnil
        rw [osl_nil, oslG_nil]
        (repeat (first | refine Stp.go ?_ | refine v_region ?_ | refine v_regionD ?_ | refine v_blocky (by decide) ?_ | ((first | refine v_o rfl ?_ ?_ | refine v_oD rfl ?_ ?_); (focus (simp only [pvT, ite_bool, List.length_map, ints_length, z1, z2, go_sem]; done)); simp only [Env.put]) | ((first | refine v_u rfl fun K hK => ?_ | refine v_g rfl fun K hK => ?_ | refine v_uD rfl fun K hK => ?_ | refine v_gD rfl fun K hK => ?_); simp only [pvT, ite_bool, List.length_map, ints_length, z1, z2, go_sem]) | (refine v_loopx ?_) | refine v_end ?_ | refine v_endD (by kernel_rfl) ?_ | (refine hK _ _ ?_; clear hK K) | refine ⟨by (first | trivial | assumption | omega | (intros; first | assumption | omega)), ?_⟩ | (apply v_condb; (focus (simp only [pvT, ite_bool, List.length_map, ints_length, z1, z2, go_sem]; first | exact pvt | exact pvf)); simp only [cond_true, cond_false]) | fail))
        (first | refine v_fin_n ?_ | refine v_fin_r ?_); simp only [ resK, one, PV.snap, go_sem]
        exact Wk.nil 1
      · rw [osl_some hnil, oslG_some hnil]
        (repeat (first | refine Stp.go ?_ | refine v_region ?_ | refine v_regionD ?_ | refine v_blocky (by decide) ?_ | ((first | refine v_o rfl ?_ ?_ | refine v_oD rfl ?_ ?_); (focus (simp only [pvT, ite_bool, List.length_map, ints_length, z1, z2, go_sem]; done)); simp only [Env.put]) | ((first | refine v_u rfl fun K hK => ?_ | refine v_g rfl fun K hK => ?_ | refine v_uD rfl fun K hK => ?_ | refine v_gD rfl fun K hK => ?_); simp only [pvT, ite_bool, List.length_map, ints_length, z1, z2, go_sem]) | (refine v_loopx ?_) | refine v_end ?_ | refine v_endD (by kernel_rfl) ?_ | (refine hK _ _ ?_; clear hK K) | refine ⟨by (first | trivial | assumption | omega | (intros; first | assumption | omega)), ?_⟩ | (apply v_condb; (focus (simp only [pvT, ite_bool, List.length_map, ints_length, z1, z2, go_sem]; first | exact pvt | exact pvf)); simp only [cond_true, cond_false]) | fail))
        (first | refine v_fin_n ?_ | refine v_fin_r ?_); simp only [ resK, one, PV.snap, go_sem]
        refine wk_eq ?_
        simp [ints_length, List.take_of_length_le, snap_ints]
end Go.V
/- Layer 12: the next arcs of a node, as the program finds them. -/
set_option linter.unusedVariables false
set_option linter.unusedSimpArgs false
namespace Go.V
open Go.RowKit Go.Proofs
attribute [local irreducible] wp seqK lexK opK callK upd sto Good

/-- The graph of the shortest paths. -/
def pvG (t : Topo) (down : List Bool) (d : Int) (dist : List Int) : PV := .agg [.int .i64 t.n, .slc 1 (bools t.ov), .slc 7 (t.ls.map pvL), .slc 1 (bools down), .int .i64 d, .slc 1 (ints dist)]

theorem arcF_eq (t : Topo) (n : Int) (ht : t.ok = true) (k : Nat) (hk : k < t.ls.length) : arcF t n true k = ([2 * (k : Int), 2 * (k : Int) + 1].filter fun a => decide (t.tail a = n)) := by
  have e0 : t.link (2 * (k : Int)) = t.ls.getD k default := by unfold Topo.link; congr 1; omega
  have e1 : t.link (2 * (k : Int) + 1) = t.ls.getD k default := by unfold Topo.link; congr 1; omega
  have h0 : t.tail (2 * (k : Int)) = (t.ls.getD k default).a := by unfold Topo.tail; rw [if_pos (by omega), e0]
  have h1 : t.tail (2 * (k : Int) + 1) = (t.ls.getD k default).b := by unfold Topo.tail; rw [if_neg (by omega), e1]
  have hok := Lnk.ok_iff (t.ok_link ht (l := t.ls.getD k default) (by simp [List.getD, hk]))
  simp only [List.filter_cons, List.filter_nil, h0, h1, arcF]
  generalize t.ls.getD k default = l at *
  by_cases ha : l.a = n
  · have hb : ¬ l.b = n := by omega
    simp [ha, hb]
  · by_cases hb : l.b = n <;> simp [ha, hb]

theorem arcsL_eq (t : Topo) (n : Int) (ht : t.ok = true) : arcsL t n true = (arcsUp t).filter fun a => decide (t.tail a = n) := by
  have key : ∀ k, k ≤ t.ls.length → arcsK t n true k = ((List.range (2 * k)).map fun (i : Nat) => (i : Int)).filter fun a => decide (t.tail a = n) := by
    intro k
    induction k with
    | zero => intro _; rfl
    | succ k ih =>
      intro hk
      have e : 2 * (k + 1) = 2 * k + 1 + 1 := by omega
      rw [arcsK_succ, ih (by omega), arcF_eq t n ht k (by omega), e, List.range_succ, List.range_succ]
      simp only [List.map_append, List.filter_append, List.map_cons, List.map_nil, List.append_assoc]
      congr 1
      rw [← List.filter_append]
      simp
  exact key _ (Nat.le_refl _)

theorem arcsL_mem {t : Topo} (ht : t.ok = true) {n a : Int} (h : a ∈ arcsL t n true) : t.arc a ∧ t.tail a = n := by
  rw [arcsL_eq t n ht, List.mem_filter, arcsUp, List.mem_map] at h
  obtain ⟨⟨i, hi, rfl⟩, h2⟩ := h
  rw [List.mem_range] at hi
  exact ⟨⟨by omega, by omega⟩, by simpa using h2⟩

theorem nextL_eq (t : Topo) (ht : t.ok = true) (down : List Bool) (dist : List Int) (n d : Int) : nextL t down dist n d = (arcsL t n true).filter fun a => onB t down dist a d := by
  rw [arcsL_eq t n ht, List.filter_filter]
  unfold nextL nextK arcsUp
  congr 1
  funext a
  simp only [nextP]
  exact Bool.and_comm _ _

/-- Where no shortest path begins. -/
theorem nextL_none (t : Topo) (ht : t.ok = true) (down : List Bool) (dist : List Int) (n d : Int) (h : n = d ∨ dist.getD n.toNat 0 < 0) : nextL t down dist n d = [] := by
  rw [nextL_eq t ht, List.filter_eq_nil_iff]
  intro a ha
  obtain ⟨h1, h2⟩ := arcsL_mem ht ha
  have hc := (t.cost_in ht h1).1
  unfold onB
  rw [h2]
  rcases h with h | h
  · simp [h]
  · intro h'
    simp only [Bool.and_eq_true, decide_eq_true_eq] at h'
    omega

def gnK (t : Topo) (down : List Bool) (dist : List Int) (n d : Int) (k : Nat) : List Int := ((arcsL t n true).take k).filter fun a => onB t down dist a d
theorem gnK_succ (t : Topo) (down : List Bool) (dist : List Int) (n d : Int) (k : Nat) (hk : k < (arcsL t n true).length) : gnK t down dist n d (k + 1) = gnK t down dist n d k ++ if onB t down dist ((arcsL t n true).getD k 0) d = true then [(arcsL t n true).getD k 0] else [] := by
  have e : (arcsL t n true).getD k 0 = (arcsL t n true)[k] := by simp [List.getD, hk]
  rw [e]
  unfold gnK
  rw [List.take_succ_eq_append_getElem hk, List.filter_append]
  congr 1
  simp only [List.filter_cons, List.filter_nil]
theorem gnK_length (t : Topo) (down : List Bool) (dist : List Int) (n d : Int) (k : Nat) : (gnK t down dist n d k).length ≤ k := by
  have h1 := List.length_filter_le (fun a => onB t down dist a d) ((arcsL t n true).take k)
  have h2 := List.length_take_le k (arcsL t n true)
  unfold gnK; omega

set_option maxHeartbeats 2000000 in
theorem gnext_good (t : Topo) (down : List Bool) (dist : List Int) (n d : Int) (ht : t.ok = true) (hm : down.length = 0 ∨ down.length = 2 * t.ls.length) (hd : distOk t dist) (h0 : 0 ≤ n) (h1 : n < t.n) :
    Good Try.prog 39 [pvG t down d dist, .int .i64 n] (.slc 1 (ints (nextL t down dist n d))) := by
  refine v_enter ttok mixed Try.func39 (by kernel_rfl) rfl Try.ntmps39 Try.results39 (by simp) ?_; rw [fresh_sto]; simp only [argEnv, List.range, List.range.loop, List.length_cons, List.length_nil, List.zip_cons_cons, List.zip_nil_left]
  obtain ⟨hn1, hn2, hn3, hn4⟩ := Topo.frame_n (Topo.ok_frame ht)
  have hl := hd.1
  have y1 : n < dist.length := by omega
  have hN : (ints dist).getD n.toNat .undef = .int .i64 (dist.getD n.toNat 0) := ints_get (by omega)
  have hnone := nextL_none t ht down dist n d
  have bn := hd.get n.toNat (by omega)
  have hout := out_good t n ht
  have hlen0 : (arcsL t n true).length ≤ 256 := Nat.le_trans (arcsK_length t n true _) hn4
  generalize hdn : dist.getD n.toNat 0 = dn at *
  (repeat (first | refine Stp.go ?_ | refine v_region ?_ | refine v_regionD ?_ | refine v_blocky (by decide) ?_ | ((first | refine v_o rfl ?_ ?_ | refine v_oD rfl ?_ ?_); (focus (simp only [pvG, ite_bool, ints_length, h0, y1, hN, go_sem]; done)); simp only [Env.put]) | ((first | refine v_u rfl fun K hK => ?_ | refine v_g rfl fun K hK => ?_ | refine v_uD rfl fun K hK => ?_ | refine v_gD rfl fun K hK => ?_); simp only [pvG, ite_bool, ints_length, h0, y1, hN, go_sem]) | (fail) | refine v_end ?_ | refine v_endD (by kernel_rfl) ?_ | (refine hK _ _ ?_; clear hK K) | refine ⟨by (first | trivial | assumption | omega | (intros; first | assumption | omega)), ?_⟩ | (apply v_condb; (focus (simp only [pvG, ite_bool, ints_length, h0, y1, hN, go_sem]; first | exact pvt | exact pvf)); simp only [cond_true, cond_false]) | fail))
  refine v_cond rfl (fun hx => ?_) (fun hx => ?_)
  · have hcase : n = d ∨ dn < 0 := by by_cases h : n = d <;> simp_all
    (repeat (first | refine Stp.go ?_ | refine v_region ?_ | refine v_regionD ?_ | refine v_blocky (by decide) ?_ | ((first | refine v_o rfl ?_ ?_ | refine v_oD rfl ?_ ?_); (focus (simp only [ go_sem]; done)); simp only [Env.put]) | ((first | refine v_u rfl fun K hK => ?_ | refine v_g rfl fun K hK => ?_ | refine v_uD rfl fun K hK => ?_ | refine v_gD rfl fun K hK => ?_); simp only [ go_sem]) | (fail) | refine v_end ?_ | refine v_endD (by kernel_rfl) ?_ | (refine hK _ _ ?_; clear hK K) | refine ⟨by (first | trivial | assumption | omega | (intros; first | assumption | omega)), ?_⟩ | (apply v_condb; (focus (simp only [ go_sem]; first | exact pvt | exact pvf)); simp only [cond_true, cond_false]) | fail))
    (first | refine v_fin_n ?_ | refine v_fin_r ?_); simp only [ resK, one, PV.snap, go_sem]
    rw [hnone hcase]
    exact Wk.nil 1
  · have hcase : ¬ n = d ∧ ¬ dn < 0 := by by_cases h : n = d <;> simp_all
    clear hx
    obtain ⟨g1, g2⟩ := hcase
    (repeat (first | refine Stp.go ?_ | refine v_region ?_ | refine v_regionD ?_ | refine v_blocky (by decide) ?_ | ((first | refine v_o rfl ?_ ?_ | refine v_oD rfl ?_ ?_); (focus (simp only [pvG, pvT, ite_bool, ints_length, go_sem]; done)); simp only [Env.put]) | ((first | refine v_u rfl fun K hK => ?_ | refine v_g rfl fun K hK => ?_ | refine v_uD rfl fun K hK => ?_ | refine v_gD rfl fun K hK => ?_); simp only [pvG, pvT, ite_bool, ints_length, go_sem]) | ((refine callK_pure (fun hc => hout) rfl ?_; simp only [upds, eq_self, true_or, true_and])) | refine v_end ?_ | refine v_endD (by kernel_rfl) ?_ | (refine hK _ _ ?_; clear hK K) | refine ⟨by (first | trivial | assumption | omega | (intros; first | assumption | omega)), ?_⟩ | (apply v_condb; (focus (simp only [pvG, pvT, ite_bool, ints_length, go_sem]; first | exact pvt | exact pvf)); simp only [cond_true, cond_false]) | fail))
    refine v_loop [1, 2, 5, 24, 25, 26] (fun k : Nat => k ≤ (arcsL t n true).length) (fun k => (arcsL t n true).length - k)
      (fun k => [.int .i64 n, .ptr 102 6 0 0, osl 101 (gnK t down dist n d k), .slc 1 (ints (arcsL t n true)), .int .i64 (arcsL t n true).length, .int .i64 k]) (fun k => (102, .row 67 6 [pvG t down d dist]) :: oslG 101 3 (gnK t down dist n d k)) 0 (Nat.zero_le _) ?_ ?_
    · exact (fits_sto _ (fun x => if x = 102 then 1000 else x) (by simp [Env.get, PV.renL, PV.ren , pvG, gnK, osl_nil, oslG_nil]) (by simp [PV.refsL, PV.refs , pvG, gnK, osl_nil, oslG_nil]) (by simp [SC.live, SC.ren, SC.refs, PV.renL, PV.ren, PV.refsL, PV.refs, sto_cons, sto_nil , pvG, gnK, osl_nil, oslG_nil]) (by simp [gnK, oslG_nil]))
    · intro k hk
      simp only [List.zip_cons_cons, List.zip_nil_left]
      have hlen := gnK_length t down dist n d k
      by_cases hc : k < (arcsL t n true).length
      · have hsucc := gnK_succ t down dist n d k hc
        have z1 : (k : Int) < (arcsL t n true).length := by omega
        have z2 : (0 : Int) ≤ k := by omega
        have z3 : IntKind.i64.wrap ((k : Int) + 1) = ((k + 1 : Nat) : Int) := by rw [wrap_i64 (by omega) (by omega)]; omega
        have hA := ints_get hc
        have hmem : (arcsL t n true).getD k 0 ∈ arcsL t n true := by simp [List.getD, hc]
        generalize hgk : (arcsL t n true).getD k 0 = a at *
        obtain ⟨ha, htl⟩ := arcsL_mem ht hmem
        obtain ⟨x1, x2⟩ := t.head_in ht ha
        obtain ⟨c1, c2⟩ := t.cost_in ht ha
        have hhd := head_good t a ht ha
        have hov := over_good t (t.head a) ht
        have hcg := cost_good t a ht ha
        have x3 : t.head a < dist.length := by omega
        have hH : (ints dist).getD (t.head a).toNat .undef = .int .i64 (dist.getD (t.head a).toNat 0) := ints_get (by omega)
        have bh := hd.get (t.head a).toNat (by omega)
        have hP : onB t down dist a d = (upB down a && !decide (n = d) && decide (0 ≤ dist.getD (t.head a).toNat 0) && (decide (t.head a = d) || !t.over (t.head a)) && decide (dn = dist.getD (t.head a).toNat 0 + t.cost a)) := by
          unfold onB; rw [htl, hdn]
        have hup : upB down a = (decide (down.length = 0) || !down.getD a.toNat false) := rfl
        generalize onB t down dist a d = pk at *
        generalize dist.getD (t.head a).toNat 0 = dh at *
        generalize t.head a = h at *
        generalize t.over h = ov at *
        generalize t.cost a = c at *
        generalize hL : gnK t down dist n d k = l at *
        have f1 : (l.length + 1) * 8 ≤ 140737488355328 := by omega
        have f2 : l.length + 1 ≤ 140737488355328 := by omega
        have f3 := ints_take_all l
        have f4 := no_room l.length
        have f5 : l.length ≤ l.length := Nat.le_refl _
        have e3 : IntKind.i64.wrap (dh + c) = dh + c := wrap_i64 (by omega) (by omega)
        have hdec : (∃ z, down.length = 0 ∧ z = false) ∨ (down.length ≠ 0 ∧ a < down.length ∧ (bools down).getD a.toNat .undef = .bool (down.getD a.toNat false)) := by
          by_cases hz : down.length = 0
          · exact .inl ⟨false, hz, rfl⟩
          · have ha2 := ha.2
            have ha1 := ha.1
            have hdl : down.length = 2 * t.ls.length := hm.resolve_left hz
            exact .inr ⟨hz, by omega, bools_get (by omega)⟩
        have ha1 := ha.1
        have hP2 : ∀ dz, upB down a = !dz → pk = (!dz && !decide (dh < 0) && (decide (h = d) || !ov) && decide (dn = dh + c)) := fun dz hz => by
          rw [hP, hz]
          have e1 : decide (0 ≤ dh) = !decide (dh < 0) := by by_cases q : dh < 0 <;> simp [q] <;> omega
          have e2 : decide (n = d) = false := by simpa using g1
          rw [e1, e2, Bool.not_false, Bool.and_true]
        rcases hdec with ⟨z, hz, _⟩ | ⟨hz, q1, q2⟩
        · have q0 : ¬ (0 : Int) < down.length := by omega
          have hP3 := hP2 false (by rw [hup]; simp [hz])
          clear hP hP2 hup
          (repeat (first | refine Stp.go ?_ | refine v_region ?_ | refine v_regionD ?_ | refine v_blocky (by decide) ?_ | ((first | refine v_o rfl ?_ ?_ | refine v_oD rfl ?_ ?_); (focus (simp only [pvG, pvT, ite_bool, bools_length, ints_length, z1, z2, z3, hA, x1, x3, h0, y1, hH, hN, e3, q0, go_sem]; done)); simp only [Env.put]) | ((first | refine v_u rfl fun K hK => ?_ | refine v_g rfl fun K hK => ?_ | refine v_uD rfl fun K hK => ?_ | refine v_gD rfl fun K hK => ?_); simp only [pvG, pvT, ite_bool, bools_length, ints_length, z1, z2, z3, hA, x1, x3, h0, y1, hH, hN, e3, q0, go_sem]) | (first | (refine callK_pure (fun hc => hhd) rfl ?_; simp only [upds, eq_self, true_or, true_and]) | (refine callK_pure (fun hc => hov) rfl ?_; simp only [upds, eq_self, true_or, true_and]) | (refine callK_pure (fun hc => hcg) rfl ?_; simp only [upds, eq_self, true_or, true_and])) | refine v_end ?_ | refine v_endD (by kernel_rfl) ?_ | (refine hK _ _ ?_; clear hK K) | refine ⟨by (first | trivial | assumption | omega | (intros; first | assumption | omega)), ?_⟩ | (apply v_condb; (focus (simp only [pvG, pvT, ite_bool, bools_length, ints_length, z1, z2, z3, hA, x1, x3, h0, y1, hH, hN, e3, q0, go_sem]; first | exact pvt | exact pvf)); simp only [cond_true, cond_false]) | fail))
          refine v_cond rfl (fun hx => ?_) (fun hx => ?_)
          · have hpk : pk = false := by
              rw [hP3]; clear hP3 hsucc
              by_cases q3 : dh < 0 <;> by_cases q4 : h = d <;> cases ov  <;> (try simp_all) <;> (try omega)
            clear hx
            rw [hpk] at hsucc
            simp only [Bool.false_eq_true, if_false, List.append_nil] at hsucc
            (repeat (first | refine Stp.go ?_ | refine v_region ?_ | refine v_regionD ?_ | refine v_blocky (by decide) ?_ | ((first | refine v_o rfl ?_ ?_ | refine v_oD rfl ?_ ?_); (focus (simp only [z3, go_sem]; done)); simp only [Env.put]) | ((first | refine v_u rfl fun K hK => ?_ | refine v_g rfl fun K hK => ?_ | refine v_uD rfl fun K hK => ?_ | refine v_gD rfl fun K hK => ?_); simp only [z3, go_sem]) | (fail) | refine v_end ?_ | refine v_endD (by kernel_rfl) ?_ | (refine hK _ _ ?_; clear hK K) | refine ⟨by (first | trivial | assumption | omega | (intros; first | assumption | omega)), ?_⟩ | (apply v_condb; (focus (simp only [z3, go_sem]; first | exact pvt | exact pvf)); simp only [cond_true, cond_false]) | fail))
            by_cases hnil : l = []
            · subst hnil
              rw [osl_nil, oslG_nil]
              refine v_round (k + 1) hc (by omega) (fits_sto _ id (by simp [Env.get, PV.renL, PV.ren , hsucc, osl_nil, oslG_nil, ints, renL_ints, refsL_ints, pvG]) (by simp [PV.refsL, PV.refs , hsucc, osl_nil, oslG_nil, ints, renL_ints, refsL_ints, pvG]) (by simp [SC.live, SC.ren, SC.refs, PV.renL, PV.ren, PV.refsL, PV.refs, sto_cons, sto_nil , hsucc, osl_nil, oslG_nil, ints, renL_ints, refsL_ints, pvG]) (by simp [hsucc, oslG_nil, pvG]))
            · rw [osl_some hnil, oslG_some hnil]
              refine v_round (k + 1) hc (by omega) (fits_sto _ id (by simp [Env.get, PV.renL, PV.ren , hsucc, osl_some hnil, oslG_some hnil, renL_ints, refsL_ints, pvG]) (by simp [PV.refsL, PV.refs , hsucc, osl_some hnil, oslG_some hnil, renL_ints, refsL_ints, pvG]) (by simp [SC.live, SC.ren, SC.refs, PV.renL, PV.ren, PV.refsL, PV.refs, sto_cons, sto_nil , hsucc, osl_some hnil, oslG_some hnil, renL_ints, refsL_ints, pvG]) (by simp [hsucc, oslG_some hnil, pvG]))
          · have hq : false = false ∧ ¬ dh < 0 ∧ (decide (h = d) || !ov) = true := by
              clear hP3 hsucc
              by_cases q3 : dh < 0 <;> by_cases q4 : h = d <;> cases ov  <;> (try simp_all) <;> (try omega)
            clear hx
            obtain ⟨q5, q6, q7⟩ := hq
            (repeat (first | refine Stp.go ?_ | refine v_region ?_ | refine v_regionD ?_ | refine v_blocky (by decide) ?_ | ((first | refine v_o rfl ?_ ?_ | refine v_oD rfl ?_ ?_); (focus (simp only [pvG, pvT, ite_bool, bools_length, ints_length, z1, z2, z3, hA, x1, x3, h0, y1, hH, hN, e3, q0, go_sem]; done)); simp only [Env.put]) | ((first | refine v_u rfl fun K hK => ?_ | refine v_g rfl fun K hK => ?_ | refine v_uD rfl fun K hK => ?_ | refine v_gD rfl fun K hK => ?_); simp only [pvG, pvT, ite_bool, bools_length, ints_length, z1, z2, z3, hA, x1, x3, h0, y1, hH, hN, e3, q0, go_sem]) | (first | (refine callK_pure (fun hc => hhd) rfl ?_; simp only [upds, eq_self, true_or, true_and]) | (refine callK_pure (fun hc => hov) rfl ?_; simp only [upds, eq_self, true_or, true_and]) | (refine callK_pure (fun hc => hcg) rfl ?_; simp only [upds, eq_self, true_or, true_and])) | refine v_end ?_ | refine v_endD (by kernel_rfl) ?_ | (refine hK _ _ ?_; clear hK K) | refine ⟨by (first | trivial | assumption | omega | (intros; first | assumption | omega)), ?_⟩ | (apply v_condb; (focus (simp only [pvG, pvT, ite_bool, bools_length, ints_length, z1, z2, z3, hA, x1, x3, h0, y1, hH, hN, e3, q0, go_sem]; first | exact pvt | exact pvf)); simp only [cond_true, cond_false]) | fail))
            refine v_cond rfl (fun hx => ?_) (fun hx => ?_)
            · have hpk : pk = true := by rw [hP3, q5, q7]; simp [q6]; simpa using hx
              rw [hpk, if_pos rfl] at hsucc
              clear hx
              by_cases hnil : l = []
              · subst hnil
                rw [osl_nil, oslG_nil]
                (repeat (first | refine Stp.go ?_ | refine v_region ?_ | refine v_regionD ?_ | refine v_blocky (by decide) ?_ | ((first | refine v_o rfl ?_ ?_ | refine v_oD rfl ?_ ?_); (focus (simp only [pvG, ite_bool, z3, ints_length, rep1', go_sem]; done)); simp only [Env.put]) | ((first | refine v_u rfl fun K hK => ?_ | refine v_g rfl fun K hK => ?_ | refine v_uD rfl fun K hK => ?_ | refine v_gD rfl fun K hK => ?_); simp only [pvG, ite_bool, z3, ints_length, rep1', go_sem]) | (fail) | refine v_end ?_ | refine v_endD (by kernel_rfl) ?_ | (refine hK _ _ ?_; clear hK K) | refine ⟨by (first | trivial | assumption | omega | (intros; first | assumption | omega)), ?_⟩ | (apply v_condb; (focus (simp only [pvG, ite_bool, z3, ints_length, rep1', go_sem]; first | exact pvt | exact pvf)); simp only [cond_true, cond_false]) | fail))
                refine v_round (k + 1) hc (by omega) (fits_sto _ (fun x => if x = 101 then 11003 else x) (by simp [Env.get, PV.renL, PV.ren , hsucc, osl_cons, oslG_cons, ints, pvG]) (by simp [PV.refsL, PV.refs , hsucc, osl_cons, oslG_cons, ints, pvG]) (by simp [SC.live, SC.ren, SC.refs, PV.renL, PV.ren, PV.refsL, PV.refs, sto_cons, sto_nil , hsucc, osl_cons, oslG_cons, ints, pvG]) (by simp [hsucc, oslG_cons, pvG]))
              · rw [osl_some hnil, oslG_some hnil]
                (repeat (first | refine Stp.go ?_ | refine v_region ?_ | refine v_regionD ?_ | refine v_blocky (by decide) ?_ | ((first | refine v_o rfl ?_ ?_ | refine v_oD rfl ?_ ?_); (focus (simp only [pvG, ite_bool, z3, ints_length, rep1', f1, f2, f3, f4, f5, go_sem]; done)); simp only [Env.put]) | ((first | refine v_u rfl fun K hK => ?_ | refine v_g rfl fun K hK => ?_ | refine v_uD rfl fun K hK => ?_ | refine v_gD rfl fun K hK => ?_); simp only [pvG, ite_bool, z3, ints_length, rep1', f1, f2, f3, f4, f5, go_sem]) | (fail) | refine v_end ?_ | refine v_endD (by kernel_rfl) ?_ | (refine hK _ _ ?_; clear hK K) | refine ⟨by (first | trivial | assumption | omega | (intros; first | assumption | omega)), ?_⟩ | (apply v_condb; (focus (simp only [pvG, ite_bool, z3, ints_length, rep1', f1, f2, f3, f4, f5, go_sem]; first | exact pvt | exact pvf)); simp only [cond_true, cond_false]) | fail))
                refine v_round (k + 1) hc (by omega) (fits_sto _ (fun x => if x = 101 then 11003 else x) (by simp [Env.get, PV.renL, PV.ren , hsucc, osl_snoc, oslG_snoc, ints_snoc, renL_ints, refsL_ints, pvG]) (by simp [PV.refsL, PV.refs , hsucc, osl_snoc, oslG_snoc, ints_snoc, renL_ints, refsL_ints, pvG]) (by simp [SC.live, SC.ren, SC.refs, PV.renL, PV.ren, PV.refsL, PV.refs, sto_cons, sto_nil , hsucc, osl_snoc, oslG_snoc, ints_snoc, renL_ints, refsL_ints, pvG]) (by simp [hsucc, oslG_snoc, pvG]))
            · have hpk : pk = false := by rw [hP3, q5, q7]; simp [q6]; simpa using hx
              rw [hpk] at hsucc
              simp only [Bool.false_eq_true, if_false, List.append_nil] at hsucc
              clear hx
              (repeat (first | refine Stp.go ?_ | refine v_region ?_ | refine v_regionD ?_ | refine v_blocky (by decide) ?_ | ((first | refine v_o rfl ?_ ?_ | refine v_oD rfl ?_ ?_); (focus (simp only [z3, go_sem]; done)); simp only [Env.put]) | ((first | refine v_u rfl fun K hK => ?_ | refine v_g rfl fun K hK => ?_ | refine v_uD rfl fun K hK => ?_ | refine v_gD rfl fun K hK => ?_); simp only [z3, go_sem]) | (fail) | refine v_end ?_ | refine v_endD (by kernel_rfl) ?_ | (refine hK _ _ ?_; clear hK K) | refine ⟨by (first | trivial | assumption | omega | (intros; first | assumption | omega)), ?_⟩ | (apply v_condb; (focus (simp only [z3, go_sem]; first | exact pvt | exact pvf)); simp only [cond_true, cond_false]) | fail))
              by_cases hnil : l = []
              · subst hnil
                rw [osl_nil, oslG_nil]
                refine v_round (k + 1) hc (by omega) (fits_sto _ id (by simp [Env.get, PV.renL, PV.ren , hsucc, osl_nil, oslG_nil, ints, renL_ints, refsL_ints, pvG]) (by simp [PV.refsL, PV.refs , hsucc, osl_nil, oslG_nil, ints, renL_ints, refsL_ints, pvG]) (by simp [SC.live, SC.ren, SC.refs, PV.renL, PV.ren, PV.refsL, PV.refs, sto_cons, sto_nil , hsucc, osl_nil, oslG_nil, ints, renL_ints, refsL_ints, pvG]) (by simp [hsucc, oslG_nil, pvG]))
              · rw [osl_some hnil, oslG_some hnil]
                refine v_round (k + 1) hc (by omega) (fits_sto _ id (by simp [Env.get, PV.renL, PV.ren , hsucc, osl_some hnil, oslG_some hnil, renL_ints, refsL_ints, pvG]) (by simp [PV.refsL, PV.refs , hsucc, osl_some hnil, oslG_some hnil, renL_ints, refsL_ints, pvG]) (by simp [SC.live, SC.ren, SC.refs, PV.renL, PV.ren, PV.refsL, PV.refs, sto_cons, sto_nil , hsucc, osl_some hnil, oslG_some hnil, renL_ints, refsL_ints, pvG]) (by simp [hsucc, oslG_some hnil, pvG]))
        · have q0 : (0 : Int) < down.length := by omega
          generalize down.getD a.toNat false = dz at *
          have hP3 := hP2 dz (by rw [hup]; simp [hz])
          clear hP hP2 hup
          (repeat (first | refine Stp.go ?_ | refine v_region ?_ | refine v_regionD ?_ | refine v_blocky (by decide) ?_ | ((first | refine v_o rfl ?_ ?_ | refine v_oD rfl ?_ ?_); (focus (simp only [pvG, pvT, ite_bool, bools_length, ints_length, z1, z2, z3, hA, x1, x3, h0, y1, hH, hN, e3, q0, q1, q2, ha1, go_sem]; done)); simp only [Env.put]) | ((first | refine v_u rfl fun K hK => ?_ | refine v_g rfl fun K hK => ?_ | refine v_uD rfl fun K hK => ?_ | refine v_gD rfl fun K hK => ?_); simp only [pvG, pvT, ite_bool, bools_length, ints_length, z1, z2, z3, hA, x1, x3, h0, y1, hH, hN, e3, q0, q1, q2, ha1, go_sem]) | (first | (refine callK_pure (fun hc => hhd) rfl ?_; simp only [upds, eq_self, true_or, true_and]) | (refine callK_pure (fun hc => hov) rfl ?_; simp only [upds, eq_self, true_or, true_and]) | (refine callK_pure (fun hc => hcg) rfl ?_; simp only [upds, eq_self, true_or, true_and])) | refine v_end ?_ | refine v_endD (by kernel_rfl) ?_ | (refine hK _ _ ?_; clear hK K) | refine ⟨by (first | trivial | assumption | omega | (intros; first | assumption | omega)), ?_⟩ | (apply v_condb; (focus (simp only [pvG, pvT, ite_bool, bools_length, ints_length, z1, z2, z3, hA, x1, x3, h0, y1, hH, hN, e3, q0, q1, q2, ha1, go_sem]; first | exact pvt | exact pvf)); simp only [cond_true, cond_false]) | fail))
          refine v_cond rfl (fun hx => ?_) (fun hx => ?_)
          · have hpk : pk = false := by
              rw [hP3]; clear hP3 hsucc
              by_cases q3 : dh < 0 <;> by_cases q4 : h = d <;> cases ov <;> cases dz <;> (try simp_all) <;> (try omega)
            clear hx
            rw [hpk] at hsucc
            simp only [Bool.false_eq_true, if_false, List.append_nil] at hsucc
            (repeat (first | refine Stp.go ?_ | refine v_region ?_ | refine v_regionD ?_ | refine v_blocky (by decide) ?_ | ((first | refine v_o rfl ?_ ?_ | refine v_oD rfl ?_ ?_); (focus (simp only [z3, go_sem]; done)); simp only [Env.put]) | ((first | refine v_u rfl fun K hK => ?_ | refine v_g rfl fun K hK => ?_ | refine v_uD rfl fun K hK => ?_ | refine v_gD rfl fun K hK => ?_); simp only [z3, go_sem]) | (fail) | refine v_end ?_ | refine v_endD (by kernel_rfl) ?_ | (refine hK _ _ ?_; clear hK K) | refine ⟨by (first | trivial | assumption | omega | (intros; first | assumption | omega)), ?_⟩ | (apply v_condb; (focus (simp only [z3, go_sem]; first | exact pvt | exact pvf)); simp only [cond_true, cond_false]) | fail))
            by_cases hnil : l = []
            · subst hnil
              rw [osl_nil, oslG_nil]
              refine v_round (k + 1) hc (by omega) (fits_sto _ id (by simp [Env.get, PV.renL, PV.ren , hsucc, osl_nil, oslG_nil, ints, renL_ints, refsL_ints, pvG]) (by simp [PV.refsL, PV.refs , hsucc, osl_nil, oslG_nil, ints, renL_ints, refsL_ints, pvG]) (by simp [SC.live, SC.ren, SC.refs, PV.renL, PV.ren, PV.refsL, PV.refs, sto_cons, sto_nil , hsucc, osl_nil, oslG_nil, ints, renL_ints, refsL_ints, pvG]) (by simp [hsucc, oslG_nil, pvG]))
            · rw [osl_some hnil, oslG_some hnil]
              refine v_round (k + 1) hc (by omega) (fits_sto _ id (by simp [Env.get, PV.renL, PV.ren , hsucc, osl_some hnil, oslG_some hnil, renL_ints, refsL_ints, pvG]) (by simp [PV.refsL, PV.refs , hsucc, osl_some hnil, oslG_some hnil, renL_ints, refsL_ints, pvG]) (by simp [SC.live, SC.ren, SC.refs, PV.renL, PV.ren, PV.refsL, PV.refs, sto_cons, sto_nil , hsucc, osl_some hnil, oslG_some hnil, renL_ints, refsL_ints, pvG]) (by simp [hsucc, oslG_some hnil, pvG]))
          · have hq : dz = false ∧ ¬ dh < 0 ∧ (decide (h = d) || !ov) = true := by
              clear hP3 hsucc
              by_cases q3 : dh < 0 <;> by_cases q4 : h = d <;> cases ov <;> cases dz <;> (try simp_all) <;> (try omega)
            clear hx
            obtain ⟨q5, q6, q7⟩ := hq
            (repeat (first | refine Stp.go ?_ | refine v_region ?_ | refine v_regionD ?_ | refine v_blocky (by decide) ?_ | ((first | refine v_o rfl ?_ ?_ | refine v_oD rfl ?_ ?_); (focus (simp only [pvG, pvT, ite_bool, bools_length, ints_length, z1, z2, z3, hA, x1, x3, h0, y1, hH, hN, e3, q0, q1, q2, ha1, go_sem]; done)); simp only [Env.put]) | ((first | refine v_u rfl fun K hK => ?_ | refine v_g rfl fun K hK => ?_ | refine v_uD rfl fun K hK => ?_ | refine v_gD rfl fun K hK => ?_); simp only [pvG, pvT, ite_bool, bools_length, ints_length, z1, z2, z3, hA, x1, x3, h0, y1, hH, hN, e3, q0, q1, q2, ha1, go_sem]) | (first | (refine callK_pure (fun hc => hhd) rfl ?_; simp only [upds, eq_self, true_or, true_and]) | (refine callK_pure (fun hc => hov) rfl ?_; simp only [upds, eq_self, true_or, true_and]) | (refine callK_pure (fun hc => hcg) rfl ?_; simp only [upds, eq_self, true_or, true_and])) | refine v_end ?_ | refine v_endD (by kernel_rfl) ?_ | (refine hK _ _ ?_; clear hK K) | refine ⟨by (first | trivial | assumption | omega | (intros; first | assumption | omega)), ?_⟩ | (apply v_condb; (focus (simp only [pvG, pvT, ite_bool, bools_length, ints_length, z1, z2, z3, hA, x1, x3, h0, y1, hH, hN, e3, q0, q1, q2, ha1, go_sem]; first | exact pvt | exact pvf)); simp only [cond_true, cond_false]) | fail))
            refine v_cond rfl (fun hx => ?_) (fun hx => ?_)
            · have hpk : pk = true := by rw [hP3, q5, q7]; simp [q6]; simpa using hx
              rw [hpk, if_pos rfl] at hsucc
              clear hx
              by_cases hnil : l = []
              · subst hnil
                rw [osl_nil, oslG_nil]
                (repeat (first | refine Stp.go ?_ | refine v_region ?_ | refine v_regionD ?_ | refine v_blocky (by decide) ?_ | ((first | refine v_o rfl ?_ ?_ | refine v_oD rfl ?_ ?_); (focus (simp only [pvG, ite_bool, z3, ints_length, rep1', go_sem]; done)); simp only [Env.put]) | ((first | refine v_u rfl fun K hK => ?_ | refine v_g rfl fun K hK => ?_ | refine v_uD rfl fun K hK => ?_ | refine v_gD rfl fun K hK => ?_); simp only [pvG, ite_bool, z3, ints_length, rep1', go_sem]) | (fail) | refine v_end ?_ | refine v_endD (by kernel_rfl) ?_ | (refine hK _ _ ?_; clear hK K) | refine ⟨by (first | trivial | assumption | omega | (intros; first | assumption | omega)), ?_⟩ | (apply v_condb; (focus (simp only [pvG, ite_bool, z3, ints_length, rep1', go_sem]; first | exact pvt | exact pvf)); simp only [cond_true, cond_false]) | fail))
                refine v_round (k + 1) hc (by omega) (fits_sto _ (fun x => if x = 101 then 11003 else x) (by simp [Env.get, PV.renL, PV.ren , hsucc, osl_cons, oslG_cons, ints, pvG]) (by simp [PV.refsL, PV.refs , hsucc, osl_cons, oslG_cons, ints, pvG]) (by simp [SC.live, SC.ren, SC.refs, PV.renL, PV.ren, PV.refsL, PV.refs, sto_cons, sto_nil , hsucc, osl_cons, oslG_cons, ints, pvG]) (by simp [hsucc, oslG_cons, pvG]))
              · rw [osl_some hnil, oslG_some hnil]
                (repeat (first | refine Stp.go ?_ | refine v_region ?_ | refine v_regionD ?_ | refine v_blocky (by decide) ?_ | ((first | refine v_o rfl ?_ ?_ | refine v_oD rfl ?_ ?_); (focus (simp only [pvG, ite_bool, z3, ints_length, rep1', f1, f2, f3, f4, f5, go_sem]; done)); simp only [Env.put]) | ((first | refine v_u rfl fun K hK => ?_ | refine v_g rfl fun K hK => ?_ | refine v_uD rfl fun K hK => ?_ | refine v_gD rfl fun K hK => ?_); simp only [pvG, ite_bool, z3, ints_length, rep1', f1, f2, f3, f4, f5, go_sem]) | (fail) | refine v_end ?_ | refine v_endD (by kernel_rfl) ?_ | (refine hK _ _ ?_; clear hK K) | refine ⟨by (first | trivial | assumption | omega | (intros; first | assumption | omega)), ?_⟩ | (apply v_condb; (focus (simp only [pvG, ite_bool, z3, ints_length, rep1', f1, f2, f3, f4, f5, go_sem]; first | exact pvt | exact pvf)); simp only [cond_true, cond_false]) | fail))
                refine v_round (k + 1) hc (by omega) (fits_sto _ (fun x => if x = 101 then 11003 else x) (by simp [Env.get, PV.renL, PV.ren , hsucc, osl_snoc, oslG_snoc, ints_snoc, renL_ints, refsL_ints, pvG]) (by simp [PV.refsL, PV.refs , hsucc, osl_snoc, oslG_snoc, ints_snoc, renL_ints, refsL_ints, pvG]) (by simp [SC.live, SC.ren, SC.refs, PV.renL, PV.ren, PV.refsL, PV.refs, sto_cons, sto_nil , hsucc, osl_snoc, oslG_snoc, ints_snoc, renL_ints, refsL_ints, pvG]) (by simp [hsucc, oslG_snoc, pvG]))
            · have hpk : pk = false := by rw [hP3, q5, q7]; simp [q6]; simpa using hx
              rw [hpk] at hsucc
              simp only [Bool.false_eq_true, if_false, List.append_nil] at hsucc
              clear hx
              (repeat (first | refine Stp.go ?_ | refine v_region ?_ | refine v_regionD ?_ | refine v_blocky (by decide) ?_ | ((first | refine v_o rfl ?_ ?_ | refine v_oD rfl ?_ ?_); (focus (simp only [z3, go_sem]; done)); simp only [Env.put]) | ((first | refine v_u rfl fun K hK => ?_ | refine v_g rfl fun K hK => ?_ | refine v_uD rfl fun K hK => ?_ | refine v_gD rfl fun K hK => ?_); simp only [z3, go_sem]) | (fail) | refine v_end ?_ | refine v_endD (by kernel_rfl) ?_ | (refine hK _ _ ?_; clear hK K) | refine ⟨by (first | trivial | assumption | omega | (intros; first | assumption | omega)), ?_⟩ | (apply v_condb; (focus (simp only [z3, go_sem]; first | exact pvt | exact pvf)); simp only [cond_true, cond_false]) | fail))
              by_cases hnil : l = []
              · subst hnil
                rw [osl_nil, oslG_nil]
                refine v_round (k + 1) hc (by omega) (fits_sto _ id (by simp [Env.get, PV.renL, PV.ren , hsucc, osl_nil, oslG_nil, ints, renL_ints, refsL_ints, pvG]) (by simp [PV.refsL, PV.refs , hsucc, osl_nil, oslG_nil, ints, renL_ints, refsL_ints, pvG]) (by simp [SC.live, SC.ren, SC.refs, PV.renL, PV.ren, PV.refsL, PV.refs, sto_cons, sto_nil , hsucc, osl_nil, oslG_nil, ints, renL_ints, refsL_ints, pvG]) (by simp [hsucc, oslG_nil, pvG]))
              · rw [osl_some hnil, oslG_some hnil]
                refine v_round (k + 1) hc (by omega) (fits_sto _ id (by simp [Env.get, PV.renL, PV.ren , hsucc, osl_some hnil, oslG_some hnil, renL_ints, refsL_ints, pvG]) (by simp [PV.refsL, PV.refs , hsucc, osl_some hnil, oslG_some hnil, renL_ints, refsL_ints, pvG]) (by simp [SC.live, SC.ren, SC.refs, PV.renL, PV.ren, PV.refsL, PV.refs, sto_cons, sto_nil , hsucc, osl_some hnil, oslG_some hnil, renL_ints, refsL_ints, pvG]) (by simp [hsucc, oslG_some hnil, pvG]))
      · have z1 : ¬ (k : Int) < (arcsL t n true).length := by omega
        have eL : nextL t down dist n d = gnK t down dist n d k := by
          rw [nextL_eq t ht]; unfold gnK; rw [List.take_of_length_le (by omega)]
        rw [eL]
        generalize gnK t down dist n d k = l at *
        by_cases hnil : l = []
        · subst hnil
          rw [osl_nil, oslG_nil]
          (repeat (first | refine Stp.go ?_ | refine v_region ?_ | refine v_regionD ?_ | refine v_blocky (by decide) ?_ | ((first | refine v_o rfl ?_ ?_ | refine v_oD rfl ?_ ?_); (focus (simp only [ite_bool, ints_length, z1, go_sem]; done)); simp only [Env.put]) | ((first | refine v_u rfl fun K hK => ?_ | refine v_g rfl fun K hK => ?_ | refine v_uD rfl fun K hK => ?_ | refine v_gD rfl fun K hK => ?_); simp only [ite_bool, ints_length, z1, go_sem]) | (refine v_loopx ?_) | refine v_end ?_ | refine v_endD (by kernel_rfl) ?_ | (refine hK _ _ ?_; clear hK K) | refine ⟨by (first | trivial | assumption | omega | (intros; first | assumption | omega)), ?_⟩ | (apply v_condb; (focus (simp only [ite_bool, ints_length, z1, go_sem]; first | exact pvt | exact pvf)); simp only [cond_true, cond_false]) | fail))
          (first | refine v_fin_n ?_ | refine v_fin_r ?_); simp only [ resK, one, PV.snap, go_sem]
          exact Wk.nil 1
        · rw [osl_some hnil, oslG_some hnil]
          (repeat (first | refine Stp.go ?_ | refine v_region ?_ | refine v_regionD ?_ | refine v_blocky (by decide) ?_ | ((first | refine v_o rfl ?_ ?_ | refine v_oD rfl ?_ ?_); (focus (simp only [ite_bool, ints_length, z1, go_sem]; done)); simp only [Env.put]) | ((first | refine v_u rfl fun K hK => ?_ | refine v_g rfl fun K hK => ?_ | refine v_uD rfl fun K hK => ?_ | refine v_gD rfl fun K hK => ?_); simp only [ite_bool, ints_length, z1, go_sem]) | (refine v_loopx ?_) | refine v_end ?_ | refine v_endD (by kernel_rfl) ?_ | (refine hK _ _ ?_; clear hK K) | refine ⟨by (first | trivial | assumption | omega | (intros; first | assumption | omega)), ?_⟩ | (apply v_condb; (focus (simp only [ite_bool, ints_length, z1, go_sem]; first | exact pvt | exact pvf)); simp only [cond_true, cond_false]) | fail))
          (first | refine v_fin_n ?_ | refine v_fin_r ?_); simp only [ resK, one, PV.snap, go_sem]
          refine wk_eq ?_
          simp [ints_length, List.take_of_length_le, snap_ints]
end Go.V
/- Layer 11: what the program's search keeps. -/
set_option linter.unusedVariables false
set_option linter.unusedSimpArgs false
namespace Go.V
open Go.RowKit Go.Proofs

theorem arcF_Y (t : Topo) (n : Int) (fwd : Bool) (ht : t.ok = true) (k : Nat) (hk : k < t.ls.length) : arcF t n fwd k = ([2 * (k : Int), 2 * (k : Int) + 1].filter fun a => decide (t.Y fwd a = n)) := by
  have e0 : t.link (2 * (k : Int)) = t.ls.getD k default := by unfold Topo.link; congr 1; omega
  have e1 : t.link (2 * (k : Int) + 1) = t.ls.getD k default := by unfold Topo.link; congr 1; omega
  have h0 : t.tail (2 * (k : Int)) = (t.ls.getD k default).a := by unfold Topo.tail; rw [if_pos (by omega), e0]
  have h1 : t.tail (2 * (k : Int) + 1) = (t.ls.getD k default).b := by unfold Topo.tail; rw [if_neg (by omega), e1]
  have h2 : t.head (2 * (k : Int)) = (t.ls.getD k default).b := by unfold Topo.head; rw [if_pos (by omega), e0]
  have h3 : t.head (2 * (k : Int) + 1) = (t.ls.getD k default).a := by unfold Topo.head; rw [if_neg (by omega), e1]
  have hok := Lnk.ok_iff (t.ok_link ht (l := t.ls.getD k default) (by simp [List.getD, hk]))
  unfold arcF
  simp only [List.filter_cons, List.filter_nil, Topo.Y]
  generalize t.ls.getD k default = l at *
  cases fwd
  · simp only [h2, h3, Bool.false_eq_true, if_false]
    by_cases ha : l.a = n
    · have hb : ¬ l.b = n := by omega
      simp [ha, hb]
    · by_cases hb : l.b = n <;> simp [ha, hb]
  · simp only [h0, h1, if_true]
    by_cases ha : l.a = n
    · have hb : ¬ l.b = n := by omega
      simp [ha, hb]
    · by_cases hb : l.b = n <;> simp [ha, hb]

theorem arcsL_Y (t : Topo) (n : Int) (fwd : Bool) (ht : t.ok = true) : arcsL t n fwd = (arcsUp t).filter fun a => decide (t.Y fwd a = n) := by
  have key : ∀ k, k ≤ t.ls.length → arcsK t n fwd k = ((List.range (2 * k)).map fun (i : Nat) => (i : Int)).filter fun a => decide (t.Y fwd a = n) := by
    intro k
    induction k with
    | zero => intro _; rfl
    | succ k ih =>
      intro hk
      have e : 2 * (k + 1) = 2 * k + 1 + 1 := by omega
      rw [arcsK_succ, ih (by omega), arcF_Y t n fwd ht k (by omega), e, List.range_succ, List.range_succ]
      simp only [List.map_append, List.filter_append, List.map_cons, List.map_nil, List.append_assoc]
      congr 1
      rw [← List.filter_append]
      simp
  exact key _ (Nat.le_refl _)

theorem arcsL_iff {t : Topo} (ht : t.ok = true) {n a : Int} {fwd : Bool} : a ∈ arcsL t n fwd ↔ t.arc a ∧ t.Y fwd a = n := by
  rw [arcsL_Y t n fwd ht, List.mem_filter, arcsUp, List.mem_map]
  constructor
  · rintro ⟨⟨i, hi, rfl⟩, h2⟩
    rw [List.mem_range] at hi
    exact ⟨⟨by omega, by omega⟩, by simpa using h2⟩
  · rintro ⟨⟨h1, h2⟩, h3⟩
    exact ⟨⟨a.toNat, by rw [List.mem_range]; omega, by omega⟩, by simpa using h3⟩

/-- The arcs that are still to be looked at. -/
def pendK (L : List Int) (k : Nat) (b : Nat) : Prop := ∃ j, k ≤ j ∧ j < L.length ∧ L.getD j 0 = (b : Int)
theorem pendK_step {L : List Int} {k : Nat} {a b : Nat} (hk : k < L.length) (ha : L.getD k 0 = (a : Int)) (h : pendK L k b) : b = a ∨ pendK L (k + 1) b := by
  obtain ⟨j, h1, h2, h3⟩ := h
  by_cases e : j = k
  · subst e; left; omega
  · exact .inr ⟨j, by omega, h2, h3⟩
theorem pendK_end {L : List Int} {k : Nat} (hk : L.length ≤ k) (b : Nat) : ¬ pendK L k b := fun ⟨j, h1, h2, _⟩ => by omega
theorem pendK_Y {t : Topo} (ht : t.ok = true) {v : Nat} {fwd : Bool} {k b : Nat} (h : pendK (arcsL t v fwd) k b) : t.arc b ∧ t.Y fwd b = v := by
  obtain ⟨j, h1, h2, h3⟩ := h
  have : (arcsL t v fwd).getD j 0 ∈ arcsL t v fwd := by simp [List.getD, h2]
  rw [h3] at this
  exact (arcsL_iff ht).1 this
theorem pendK_all {t : Topo} (ht : t.ok = true) {v : Nat} {fwd : Bool} {b : Nat} (hb : b < 2 * t.ls.length) (h : (t.Y fwd b).toNat = v) : pendK (arcsL t v fwd) 0 b := by
  have ha : t.arc b := ⟨by omega, by omega⟩
  have hy := t.Y_in ht ha fwd
  have hm : (b : Int) ∈ arcsL t v fwd := (arcsL_iff ht).2 ⟨ha, by omega⟩
  obtain ⟨j, hj, e⟩ := List.getElem_of_mem hm
  exact ⟨j, Nat.zero_le _, hj, by simp [List.getD, hj, e]⟩

theorem Heap.H.least {n : Nat} {arr : List Nat} {keys pl : List Int} (h : Heap.H n arr keys pl) {w : Nat} (hw : 0 ≤ pl.getD w (-1)) : keys.getD (arr.getD 0 0) 0 ≤ keys.getD w 0 := by
  have hlt : w < pl.length := by
    refine Nat.lt_of_not_le fun hge => ?_
    rw [List.getD_eq_getElem?_getD, List.getElem?_eq_none hge] at hw
    simp at hw
  obtain ⟨h1, h2⟩ := h.c.place w hlt hw
  have := Heap.root_least h.o _ h1
  rw [h2] at this
  simp only [Heap.lt, Bool.or_eq_false_iff, Bool.and_eq_false_iff, decide_eq_false_iff_not] at this
  omega
theorem Heap.H.root {n : Nat} {arr : List Nat} {keys pl : List Int} (h : Heap.H n arr keys pl) (hn : 0 < n) : 0 ≤ pl.getD (arr.getD 0 0) (-1) := by
  have := (h.c.item 0 hn).2
  omega
theorem Heap.H.none {n : Nat} {arr : List Nat} {keys pl : List Int} (h : Heap.H n arr keys pl) (hn : n = 0) (w : Nat) : ¬ 0 ≤ pl.getD w (-1) := by
  intro hw
  have hlt : w < pl.length := by
    refine Nat.lt_of_not_le fun hge => ?_
    rw [List.getD_eq_getElem?_getD, List.getElem?_eq_none hge] at hw
    simp at hw
  have := (h.c.place w hlt hw).1
  omega
/-- A heap that holds nothing. -/
theorem Heap.H.new (N : Nat) : Heap.H 0 [] (List.replicate N 0) (List.replicate N (-1)) := by
  refine ⟨⟨Nat.zero_le _, fun j hj => absurd hj (Nat.not_lt_zero j), fun i hi hp => ?_⟩, fun j hj => absurd hj (Nat.not_lt_zero j), by simp⟩
  have : (List.replicate N (-1 : Int)).getD i (-1) = -1 := by
    simp only [List.getD_eq_getElem?_getD, List.getElem?_replicate]; split <;> rfl
  omega
end Go.V
