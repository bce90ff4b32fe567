import Derived.Test.YtjadcdikckmooaaMD
import Derived.Test.YtjadcdikckmooaaMS
/- A part of a proof, with no condition of its own. Merged texts: D5 D6. -/
/- Layer 11: the program's search computes the distances. -/
set_option linter.unusedVariables false
set_option linter.unusedSimpArgs false
namespace Go.V
open Go.RowKit Go.Proofs
attribute [local irreducible] wp seqK lexK opK callK upd sto Good GoodR

def arcsFn (fwd : Bool) : FuncId := if fwd then 63 else 81
def endFn (fwd : Bool) : FuncId := if fwd then 48 else 82
def pvSide (fwd : Bool) : PV := .agg [.fn (arcsFn fwd) [] [], .fn (endFn fwd) [] []]
theorem arcsFn_good (t : Topo) (n : Int) (fwd : Bool) (ht : t.ok = true) : Good Try.prog (arcsFn fwd) [pvT t, .int .i64 n] (.slc 1 (ints (arcsL t n fwd))) := by
  cases fwd
  · exact in_good t n ht
  · exact out_good t n ht
theorem endFn_good (t : Topo) (a : Int) (fwd : Bool) (ht : t.ok = true) (ha : t.arc a) : Good Try.prog (endFn fwd) [pvT t, .int .i64 a] (.int .i64 (t.X fwd a)) := by
  cases fwd
  · exact tail_good t a ht ha
  · exact head_good t a ht ha

/-- The heap's objects in the search. -/
def dobj (n : Nat) (arr : List Nat) (keys pl : List Int) : List (Nat × SC) :=
  [(201, .row 136 3 [.agg [.sref 202 1 0 n false, .sref 203 1 0 keys.length false, .sref 204 1 0 pl.length false]]), (202, .row 3 1 (nats arr)), (203, .row 3 1 (ints keys)), (204, .row 3 1 (ints pl))]
def sobjD (t : Topo) (fwd : Bool) (D : List Int) : List (Nat × SC) :=
  [(105, .row 25 3 [pvT t]), (106, .row 114 2 [pvSide fwd]), (107, .row 3 1 (ints D))]

structure DS where
  D : List Int
  n : Nat
  arr : List Nat
  keys : List Int
  pl : List Int
structure DS.Ok (G : SP.Gr) (s : DS) (N : Nat) (pend : Nat → Prop) : Prop where
  dj : SP.DJ G s.D s.keys (fun v => 0 ≤ s.pl.getD v (-1)) pend
  h : Heap.H s.n s.arr s.keys s.pl
  len : s.pl.length = N
  ne : s.arr ≠ []
  gn : G.n = N

set_option maxHeartbeats 4000000 in
theorem search_good (t : Topo) (down : List Bool) (n : Int) (fwd : Bool) : Good Try.prog 80 [pvT t, .slc 1 (bools down), .int .i64 n, pvSide fwd] (distR t down n fwd) := by
  refine v_enter ttok mixed Try.func80 (by kernel_rfl) rfl Try.ntmps80 Try.results80 (by simp) ?_; rw [fresh_sto]; simp only [argEnv, List.range, List.range.loop, List.length_cons, List.length_nil, List.zip_cons_cons, List.zip_nil_left]
  have hfit := fits_good t down
  unfold distR
  by_cases hm : maskOk t down = true
  · rw [hm] at hfit
    rw [if_pos hm]
    have ht := maskOk_ok hm
    have hml := maskOk_len hm
    obtain ⟨hn1, hn2, hn3, hn4⟩ := Topo.frame_n (Topo.ok_frame ht)
    by_cases hn : 0 ≤ n ∧ n < t.n
    · rw [if_pos hn]
      obtain ⟨w1, w2⟩ := hn
      have ok := Topo.gr_ok ht down w1 w2 fwd
      have v1 : ¬ n < 0 := by omega
      have v2 : ¬ t.n ≤ n := by omega
      have v3 : 0 ≤ t.n := by omega
      have v4 : t.n.toNat * 8 ≤ 140737488355328 := by omega
      have v5 : t.n ≤ 140737488355328 := by omega
      obtain ⟨N, hN⟩ : ∃ N : Nat, t.n = N := ⟨t.n.toNat, by omega⟩
      have hnn : t.n.toNat = N := by omega
      obtain ⟨m, rfl⟩ : ∃ m : Nat, n = m := ⟨n.toNat, by omega⟩
      (repeat (first | refine Stp.go ?_ | refine v_region ?_ | refine v_regionD ?_ | refine v_blocky (by decide) ?_ | ((first | refine v_o rfl ?_ ?_ | refine v_oD rfl ?_ ?_); (focus (simp only [pvT, pvSide, ite_bool, v1, v2, v3, v4, v5, hnn, ints_replicate, ints_length, List.length_replicate, go_sem]; done)); simp only [Env.put]) | ((first | refine v_u rfl fun K hK => ?_ | refine v_g rfl fun K hK => ?_ | refine v_uD rfl fun K hK => ?_ | refine v_gD rfl fun K hK => ?_); simp only [pvT, pvSide, ite_bool, v1, v2, v3, v4, v5, hnn, ints_replicate, ints_length, List.length_replicate, go_sem]) | ((refine callK_pure (fun hc => hfit) rfl ?_; simp only [upds, eq_self, true_or, true_and])) | refine v_end ?_ | refine v_endD (by kernel_rfl) ?_ | (refine hK _ _ ?_; clear hK K) | refine ⟨by (first | trivial | assumption | omega | (intros; first | assumption | omega)), ?_⟩ | (apply v_condb; (focus (simp only [pvT, pvSide, ite_bool, v1, v2, v3, v4, v5, hnn, ints_replicate, ints_length, List.length_replicate, go_sem]; first | exact pvt | exact pvf)); simp only [cond_true, cond_false]) | fail))
      refine v_loop [1, 2, 4, 7, 10, 39, 40] (fun k : Nat => k ≤ N) (fun k => N - k) (fun k => [.slc 1 (bools down), .int .i64 m, .ptr 105 3 0 0, .ptr 106 2 0 0, .sref 107 1 0 N false, .int .i64 N, .int .i64 k])
        (fun k => sobjD t fwd (List.replicate k (-1) ++ List.replicate (N - k) 0)) 0 (Nat.zero_le _) ?_ ?_
      · exact (fits_sto _ (fun x => if x = 105 then 1000 else if x = 106 then 1001 else if x = 107 then 6002 else x) (by simp [Env.get, PV.renL, PV.ren , sobjD, pvSide, pvT, hN, renL_ints, refsL_ints]) (by simp [PV.refsL, PV.refs , sobjD, pvSide, pvT, hN, renL_ints, refsL_ints]) (by simp [SC.live, SC.ren, SC.refs, PV.renL, PV.ren, PV.refsL, PV.refs, sto_cons, sto_nil , sobjD, pvSide, pvT, hN, renL_ints, refsL_ints]) (by simp [sobjD]))
      · intro k hk
        have hlen : (List.replicate k (-1 : Int) ++ List.replicate (N - k) 0).length = N := by simp; omega
        simp only [List.zip_cons_cons, List.zip_nil_left]
        by_cases hc : k < N
        · have x1 : (k : Int) < N := by omega
          have x2 : (0 : Int) ≤ k := by omega
          have x3 : IntKind.i64.wrap ((k : Int) + 1) = ((k + 1 : Nat) : Int) := by rw [wrap_i64 (by omega) (by omega)]; omega
          have x4 : k < (List.replicate k (-1 : Int) ++ List.replicate (N - k) 0).length := by omega
          have x5 := ints_get x4
          have x6 : (List.replicate k (-1 : Int) ++ List.replicate (N - k) 0).set k (-1) = List.replicate (k + 1) (-1) ++ List.replicate (N - (k + 1)) 0 := by
            have : N - k = (N - (k + 1)) + 1 := by omega
            rw [this, List.replicate_succ, List.replicate_succ', List.set_append_right _ _ (by simp)]
            simp
          unfold sobjD
          (repeat (first | refine Stp.go ?_ | refine v_region ?_ | refine v_regionD ?_ | refine v_blocky (by decide) ?_ | ((first | refine v_o rfl ?_ ?_ | refine v_oD rfl ?_ ?_); (focus (simp only [x1, x2, x3, x4, x5, ints_length, ints_set, hlen, go_sem]; done)); simp only [Env.put]) | ((first | refine v_u rfl fun K hK => ?_ | refine v_g rfl fun K hK => ?_ | refine v_uD rfl fun K hK => ?_ | refine v_gD rfl fun K hK => ?_); simp only [x1, x2, x3, x4, x5, ints_length, ints_set, hlen, go_sem]) | (fail) | refine v_end ?_ | refine v_endD (by kernel_rfl) ?_ | (refine hK _ _ ?_; clear hK K) | refine ⟨by (first | trivial | assumption | omega | (intros; first | assumption | omega)), ?_⟩ | (apply v_condb; (focus (simp only [x1, x2, x3, x4, x5, ints_length, ints_set, hlen, go_sem]; first | exact pvt | exact pvf)); simp only [cond_true, cond_false]) | fail))
          refine v_round (k + 1) hc (by omega) (fits_sto _ id (by simp [Env.get, PV.renL, PV.ren , sobjD, pvSide, pvT, renL_ints, refsL_ints, x6]) (by simp [PV.refsL, PV.refs , sobjD, pvSide, pvT, renL_ints, refsL_ints, x6]) (by simp [SC.live, SC.ren, SC.refs, PV.renL, PV.ren, PV.refsL, PV.refs, sto_cons, sto_nil , sobjD, pvSide, pvT, renL_ints, refsL_ints, x6]) (by simp [sobjD]))
        · have hkn : k = N := by omega
          subst hkn
          generalize hM : k = M at *
          have x1 : ¬ (M : Int) < M := by omega
          have e : List.replicate M (-1 : Int) ++ List.replicate (M - M) 0 = List.replicate M (-1) := by simp
          rw [e]
          have hgn : (t.gr down m fwd).n = M := by simp only [Topo.gr]; omega
          have hgd : (t.gr down m fwd).d = m := by simp only [Topo.gr]; omega
          have hmM : m < M := by omega
          have hset := set_good 0 [] (List.replicate M 0) (List.replicate M (-1)) m 0 (Heap.H.new M) (by simpa using hmM) (by simp; omega)
          unfold sobjD
          (repeat (first | refine Stp.go ?_ | refine v_region ?_ | refine v_regionD ?_ | refine v_blocky (by decide) ?_ | (first | refine v_callR (by simp [dstOk]) rfl ?_; simp only [List.map_cons, List.map_nil, List.nil_append, List.append_nil, List.cons_append, Env.eval, Env.get, reduceIte, Nat.reduceEqDiff, List.toList_toArray, PV.ofConst]; refine callR_sto ([.int .i64 (M : Nat)]) ([]) ((fun x => x)) (new_good M (by omega) (by omega)) (by simp [PV.renL, PV.ren , nobj]) (by simp [PV.refsL, PV.refs , nobj]) (by simp [SC.live, SC.ren, SC.refs, PV.renL, PV.ren, PV.refsL, PV.refs, sto_cons, sto_nil, renL_ints, refsL_ints, renL_nats, refsL_nats, List.length_set , nobj]) (by simp [id_eq , nobj]) ?_; rintro _ _ ⟨rfl, rfl⟩; refine ⟨nobj (List.replicate M 0) (List.replicate M (-1)), (fun x => if x = 101 then 900101 else if x = 103 then 900103 else if x = 104 then 900104 else x), rfl, (by simp [SC.live, SC.ren, SC.refs, PV.renL, PV.ren, PV.refsL, PV.refs, sto_cons, sto_nil, renL_ints, refsL_ints, renL_nats, refsL_nats, List.length_set , nobj]), (by simp [PV.refsL, PV.refs , nobj]), (by simp [Free, sto_cons, sto_nil , nobj]), (by simp [id_eq , nobj]), ?_⟩; simp only [backL, List.map_cons, List.map_nil, List.cons_append, List.nil_append, SC.ren, PV.renL, PV.ren, renL_ints, renL_nats, id_eq, Env.put , nobj] | refine v_callR (by simp [dstOk]) rfl ?_; simp only [List.map_cons, List.map_nil, List.nil_append, List.append_nil, List.cons_append, Env.eval, Env.get, reduceIte, Nat.reduceEqDiff, List.toList_toArray, PV.ofConst]; refine callR_sto ([.ptr 1 3 0 0, .int .i64 (m : Nat), .int .i64 0]) (sobj 0 [] (List.replicate M 0) (List.replicate M (-1))) ((fun x => if x = 1 then 900101 else if x = 3 then 900103 else if x = 4 then 900104 else x)) (hset) (by simp [PV.renL, PV.ren , pobj, sobj, qobj]) (by simp [PV.refsL, PV.refs , pobj, sobj, qobj]) (by simp [SC.live, SC.ren, SC.refs, PV.renL, PV.ren, PV.refsL, PV.refs, sto_cons, sto_nil, renL_ints, refsL_ints, renL_nats, refsL_nats, List.length_set , pobj, sobj, qobj]) (by simp [id_eq , pobj, sobj, qobj]) ?_; rintro _ _ ⟨n', arr', pl', a1, a2, a3, a4, rfl, rfl⟩; refine ⟨pobj n' arr' ((List.replicate M 0).set m 0) pl', (fun x => if x = 1 then 900101 else if x = 3 then 900103 else if x = 4 then 900104 else if x = 102 then 900102 else x), rfl, (by simp [SC.live, SC.ren, SC.refs, PV.renL, PV.ren, PV.refsL, PV.refs, sto_cons, sto_nil, renL_ints, refsL_ints, renL_nats, refsL_nats, List.length_set , pobj, sobj, qobj]), (by simp [PV.refsL, PV.refs , pobj, sobj, qobj]), (by simp [Free, sto_cons, sto_nil , pobj, sobj, qobj]), (by simp [id_eq , pobj, sobj, qobj]), ?_⟩; simp only [backL, List.map_cons, List.map_nil, List.cons_append, List.nil_append, SC.ren, PV.renL, PV.ren, renL_ints, renL_nats, id_eq, Env.put , pobj, sobj, qobj]) | ((first | refine v_o rfl ?_ ?_ | refine v_oD rfl ?_ ?_); (focus (simp only [x1, ints_length, List.length_replicate, w1, hN, pvT, pvSide, go_sem]; done)); simp only [Env.put]) | ((first | refine v_u rfl fun K hK => ?_ | refine v_g rfl fun K hK => ?_ | refine v_uD rfl fun K hK => ?_ | refine v_gD rfl fun K hK => ?_); simp only [x1, ints_length, List.length_replicate, w1, hN, pvT, pvSide, go_sem]) | (refine v_loopx ?_) | refine v_end ?_ | refine v_endD (by kernel_rfl) ?_ | (refine hK _ _ ?_; clear hK K) | refine ⟨by (first | trivial | assumption | omega | (intros; first | assumption | omega)), ?_⟩ | (apply v_condb; (focus (simp only [x1, ints_length, List.length_replicate, w1, hN, pvT, pvSide, go_sem]; first | exact pvt | exact pvf)); simp only [cond_true, cond_false]) | fail))
          have hr : ∀ v, (List.replicate M (-1 : Int)).getD v (-1) = -1 := fun v => by
            simp only [List.getD_eq_getElem?_getD, List.getElem?_replicate]; split <;> rfl
          have hdj : SP.DJ (t.gr down m fwd) (List.replicate M (-1)) ((List.replicate M 0).set m 0) (fun v => 0 ≤ pl'.getD v (-1)) (fun _ => False) := by
            have := SP.DJ.start ok (key := (List.replicate M 0).set m 0) (by rw [hgn]; simp) (by rw [hgd, Heap.getD_set _ _ _ _ _ (by simpa using hmM), if_pos rfl]) (held := fun v => 0 ≤ pl'.getD v (-1)) (fun v => by rw [a3, hr, hgd]; simp)
            rw [hgn] at this
            exact this
          refine v_loop [1, 2, 4, 7, 10, 12] (fun s : DS => DS.Ok (t.gr down m fwd) s M (fun _ => False)) (fun s => M - SP.cnt s.D)
            (fun s => [.slc 1 (bools down), .int .i64 m, .ptr 105 3 0 0, .ptr 106 2 0 0, .sref 107 1 0 M false, .ptr 201 3 0 0]) (fun s => sobjD t fwd s.D ++ dobj s.n s.arr s.keys s.pl) ⟨_, n', arr', _, pl'⟩ ⟨hdj, a1, by rw [a2]; simp, a4, hgn⟩ ?_ ?_
          · exact (fits_sto _ (fun x => if x = 201 then 900101 else if x = 202 then 900102 else if x = 203 then 900103 else if x = 204 then 900104 else x) (by simp [Env.get, PV.renL, PV.ren , sobjD, dobj, pvSide, pvT, hN, a2, renL_ints, refsL_ints, renL_nats, refsL_nats]) (by simp [PV.refsL, PV.refs , sobjD, dobj, pvSide, pvT, hN, a2, renL_ints, refsL_ints, renL_nats, refsL_nats]) (by simp [SC.live, SC.ren, SC.refs, PV.renL, PV.ren, PV.refsL, PV.refs, sto_cons, sto_nil , sobjD, dobj, pvSide, pvT, hN, a2, renL_ints, refsL_ints, renL_nats, refsL_nats]) (by simp [sobjD, dobj]))
          · clear hdj a1 a2 a3 a4 hset e hlen
            rintro ⟨D, n, arr, keys, pl⟩ ⟨dj, hh, hl, hne, -⟩
            simp only at dj hh hl hne
            simp only [List.zip_cons_cons, List.zip_nil_left]
            have hDl := dj.len
            rw [hgn] at hDl
            have hkl := dj.klen
            rw [hgn] at hkl
            have hw : HW n arr keys pl := HW.of_C hh.c hh.same (by omega)
            have hpop := pop_good n arr keys pl hw
            by_cases hn0 : n = 0
            · subst hn0
              unfold sobjD dobj
              (repeat (first | refine Stp.go ?_ | refine v_region ?_ | refine v_regionD ?_ | refine v_blocky (by decide) ?_ | (refine v_callR (by simp [dstOk]) rfl ?_; simp only [List.map_cons, List.map_nil, List.nil_append, List.append_nil, List.cons_append, Env.eval, Env.get, reduceIte, Nat.reduceEqDiff, List.toList_toArray, PV.ofConst]; refine callR_sto ([.ptr 1 3 0 0]) (pobj 0 arr keys pl) ((fun x => if x = 1 then 201 else if x = 102 then 202 else if x = 3 then 203 else if x = 4 then 204 else x)) (hpop) (by simp [PV.renL, PV.ren , pobj]) (by simp [PV.refsL, PV.refs , pobj]) (by simp [SC.live, SC.ren, SC.refs, PV.renL, PV.ren, PV.refsL, PV.refs, sto_cons, sto_nil, renL_ints, refsL_ints, renL_nats, refsL_nats, List.length_set , pobj]) (by simp [id_eq , pobj]) ?_; (rintro _ _ hp; rw [if_pos rfl] at hp; obtain ⟨rfl, rfl⟩ := hp); refine ⟨pobj 0 arr keys pl, (fun x => if x = 1 then 201 else if x = 102 then 900202 else if x = 3 then 203 else if x = 4 then 204 else x), rfl, (by simp [SC.live, SC.ren, SC.refs, PV.renL, PV.ren, PV.refsL, PV.refs, sto_cons, sto_nil, renL_ints, refsL_ints, renL_nats, refsL_nats, List.length_set , pobj]), (by simp [PV.refsL, PV.refs , pobj]), (by simp [Free, sto_cons, sto_nil , pobj]), (by simp [id_eq , pobj]), ?_⟩; simp only [backL, List.map_cons, List.map_nil, List.cons_append, List.nil_append, SC.ren, PV.renL, PV.ren, renL_ints, renL_nats, id_eq, Env.put , pobj]) | ((first | refine v_o rfl ?_ ?_ | refine v_oD rfl ?_ ?_); (focus (simp only [ints_length, pvSide, pvT, go_sem]; done)); simp only [Env.put]) | ((first | refine v_u rfl fun K hK => ?_ | refine v_g rfl fun K hK => ?_ | refine v_uD rfl fun K hK => ?_ | refine v_gD rfl fun K hK => ?_); simp only [ints_length, pvSide, pvT, go_sem]) | (refine v_loopr ?_) | refine v_end ?_ | refine v_endD (by kernel_rfl) ?_ | (refine hK _ _ ?_; clear hK K) | refine ⟨by (first | trivial | assumption | omega | (intros; first | assumption | omega)), ?_⟩ | (apply v_condb; (focus (simp only [ints_length, pvSide, pvT, go_sem]; first | exact pvt | exact pvf)); simp only [cond_true, cond_false]) | fail))
              (first | refine v_fin_n ?_ | refine v_fin_r ?_); simp only [ resK, one, PV.snap, go_sem]
              have hD := (dj.isDist ok (fun v _ => hh.none rfl v) (fun a _ h => h)).eq ok
              refine Wk.two (wk_eq ?_) (.refl _)
              subst hDl
              simp [sto_cons, ints_length, List.take_of_length_le, snap_ints]
              rw [hD]; rfl
            · obtain ⟨b1, b2, b3, b4⟩ := Heap.take_law hh (by omega)
              have hroot := hh.root (by omega)
              obtain ⟨vn, vneg, vk0⟩ := dj.hn _ hroot
              rw [hgn] at vn
              obtain ⟨dj2, hmax, hcnt⟩ := dj.pop ok hroot (fun w hw => hh.least hw) b4
              generalize Heap.take n keys arr pl = tk at *
              obtain ⟨arr2, pl2⟩ := tk
              simp only at b1 b2 b3 b4 dj2
              have hkb := dj.hb _ hroot
              generalize arr.getD 0 0 = v at *
              generalize keys.getD v 0 = kv at *
              have hcl := SP.cnt_le D
              have q1 : (v : Int) < M := by omega
              have q2 : (0 : Int) ≤ v := by omega
              have q3 : v < D.length := by omega
              have q4 := ints_get q3
              have hover := over_good t v ht
              have hne2 : arr2 ≠ [] := fun h => hne (List.eq_nil_of_length_eq_zero (by rw [← b2, h]; rfl))
              have hclt := SP.cnt_lt D v q3 vneg
              have hD1 : (D.set v kv).getD v (-1) = kv := by rw [SP.getD_set' _ _ _ _ q3, if_pos rfl]
              unfold sobjD dobj
              (repeat (first | refine Stp.go ?_ | refine v_region ?_ | refine v_regionD ?_ | refine v_blocky (by decide) ?_ | (refine v_callR (by simp [dstOk]) rfl ?_; simp only [List.map_cons, List.map_nil, List.nil_append, List.append_nil, List.cons_append, Env.eval, Env.get, reduceIte, Nat.reduceEqDiff, List.toList_toArray, PV.ofConst]; refine callR_sto ([.ptr 1 3 0 0]) (pobj n arr keys pl) ((fun x => if x = 1 then 201 else if x = 102 then 202 else if x = 3 then 203 else if x = 4 then 204 else x)) (hpop) (by simp [PV.renL, PV.ren , pobj]) (by simp [PV.refsL, PV.refs , pobj]) (by simp [SC.live, SC.ren, SC.refs, PV.renL, PV.ren, PV.refsL, PV.refs, sto_cons, sto_nil, renL_ints, refsL_ints, renL_nats, refsL_nats, List.length_set , pobj]) (by simp [id_eq , pobj]) ?_; (rintro _ _ hp; rw [if_neg hn0] at hp; obtain ⟨rfl, rfl⟩ := hp); refine ⟨pobj (n - 1) arr2 keys pl2, (fun x => if x = 1 then 201 else if x = 102 then 900202 else if x = 3 then 203 else if x = 4 then 204 else x), rfl, (by simp [SC.live, SC.ren, SC.refs, PV.renL, PV.ren, PV.refsL, PV.refs, sto_cons, sto_nil, renL_ints, refsL_ints, renL_nats, refsL_nats, List.length_set , pobj]), (by simp [PV.refsL, PV.refs , pobj]), (by simp [Free, sto_cons, sto_nil , pobj]), (by simp [id_eq , pobj]), ?_⟩; simp only [backL, List.map_cons, List.map_nil, List.cons_append, List.nil_append, SC.ren, PV.renL, PV.ren, renL_ints, renL_nats, id_eq, Env.put , pobj]) | ((first | refine v_o rfl ?_ ?_ | refine v_oD rfl ?_ ?_); (focus (simp only [ints_length, ints_set, ite_bool, pvSide, pvT, q1, q2, q3, q4, go_sem]; done)); simp only [Env.put]) | ((first | refine v_u rfl fun K hK => ?_ | refine v_g rfl fun K hK => ?_ | refine v_uD rfl fun K hK => ?_ | refine v_gD rfl fun K hK => ?_); simp only [ints_length, ints_set, ite_bool, pvSide, pvT, q1, q2, q3, q4, go_sem]) | ((refine callK_pure (fun hc => hover) rfl ?_; simp only [upds, eq_self, true_or, true_and])) | refine v_end ?_ | refine v_endD (by kernel_rfl) ?_ | (refine hK _ _ ?_; clear hK K) | refine ⟨by (first | trivial | assumption | omega | (intros; first | assumption | omega)), ?_⟩ | (apply v_condb; (focus (simp only [ints_length, ints_set, ite_bool, pvSide, pvT, q1, q2, q3, q4, go_sem]; first | exact pvt | exact pvf)); simp only [cond_true, cond_false]) | fail))
              refine v_cond rfl (fun hx => ?_) (fun hx => ?_)
              · have hcase : ¬ (v : Int) = m ∧ t.over v = true := by
                  by_cases h : (v : Int) = m <;> cases h2 : t.over v <;> (try simp_all) <;> (try omega)
                clear hx
                (repeat (first | refine Stp.go ?_ | refine v_region ?_ | refine v_regionD ?_ | refine v_blocky (by decide) ?_ | ((first | refine v_o rfl ?_ ?_ | refine v_oD rfl ?_ ?_); (focus (simp only [pvT go_sem]; done)); simp only [Env.put]) | ((first | refine v_u rfl fun K hK => ?_ | refine v_g rfl fun K hK => ?_ | refine v_uD rfl fun K hK => ?_ | refine v_gD rfl fun K hK => ?_); simp only [pvT go_sem]) | (fail) | refine v_end ?_ | refine v_endD (by kernel_rfl) ?_ | (refine hK _ _ ?_; clear hK K) | refine ⟨by (first | trivial | assumption | omega | (intros; first | assumption | omega)), ?_⟩ | (apply v_condb; (focus (simp only [pvT go_sem]; first | exact pvt | exact pvf)); simp only [cond_true, cond_false]) | fail))
                refine v_round ⟨D.set v kv, n - 1, arr2, keys, pl2⟩ ⟨dj2.weaken (fun _ => Iff.rfl) (fun a ha hp hu _ => ?_), b1, by rw [b3]; exact hl, hne2, hgn⟩ (by simp only; rw [hcnt]; omega) (fits_sto _ (fun x => if x = 202 then 900202 else x) (by simp [Env.get, PV.renL, PV.ren , sobjD, dobj, pvSide, pvT, b3, renL_ints, refsL_ints, renL_nats, refsL_nats]) (by simp [PV.refsL, PV.refs , sobjD, dobj, pvSide, pvT, b3, renL_ints, refsL_ints, renL_nats, refsL_nats]) (by simp [SC.live, SC.ren, SC.refs, PV.renL, PV.ren, PV.refsL, PV.refs, sto_cons, sto_nil , sobjD, dobj, pvSide, pvT, b3, renL_ints, refsL_ints, renL_nats, refsL_nats]) (by simp [sobjD, dobj]))
                have hya : (t.Y fwd a).toNat = v := hp
                have haa : t.arc a := ⟨by omega, by simp only [Topo.gr] at ha; omega⟩
                have hyi := t.Y_in ht haa fwd
                have e : t.Y fwd a = v := by omega
                have hua : useB t down m fwd a = true := hu
                unfold useB at hua
                rw [e, hcase.2] at hua
                simp [hcase.1] at hua
              · have hcase : (v : Int) = m ∨ t.over v = false := by
                  by_cases h : (v : Int) = m <;> cases h2 : t.over v <;> (try simp_all) <;> (try omega)
                clear hx
                have harcs := arcsFn_good t v fwd ht
                (repeat (first | refine Stp.go ?_ | refine v_region ?_ | refine v_regionD ?_ | refine v_blocky (by decide) ?_ | ((first | refine v_o rfl ?_ ?_ | refine v_oD rfl ?_ ?_); (focus (simp only [pvT, pvSide, ints_length, go_sem]; done)); simp only [Env.put]) | ((first | refine v_u rfl fun K hK => ?_ | refine v_g rfl fun K hK => ?_ | refine v_uD rfl fun K hK => ?_ | refine v_gD rfl fun K hK => ?_); simp only [pvT, pvSide, ints_length, go_sem]) | ((refine callK_pure (fun hc => harcs) rfl ?_; simp only [upds, eq_self, true_or, true_and])) | refine v_end ?_ | refine v_endD (by kernel_rfl) ?_ | (refine hK _ _ ?_; clear hK K) | refine ⟨by (first | trivial | assumption | omega | (intros; first | assumption | omega)), ?_⟩ | (apply v_condb; (focus (simp only [pvT, pvSide, ints_length, go_sem]; first | exact pvt | exact pvf)); simp only [cond_true, cond_false]) | fail))
                have hLl : (arcsL t v fwd).length ≤ 256 := Nat.le_trans (arcsK_length t v fwd _) hn4
                have dj3 := dj2.weaken (held' := fun w => 0 ≤ pl2.getD w (-1)) (pend' := pendK (arcsL t v fwd) 0) (fun _ => Iff.rfl) (fun a ha hp _ _ => pendK_all ht ha hp)
                have hmem : ∀ k, k < (arcsL t v fwd).length → t.arc ((arcsL t v fwd).getD k 0) ∧ t.Y fwd ((arcsL t v fwd).getD k 0) = v := fun k hk => (arcsL_iff ht).1 (by simp [List.getD, hk])
                have hpY : ∀ k b, b < 2 * t.ls.length → pendK (arcsL t v fwd) k b → (t.gr down m fwd).y b = v := fun k b hb hp => by
                  have := (pendK_Y ht hp).2
                  simp only [Topo.gr]; omega
                generalize arcsL t v fwd = L at *
                have hD1l : (D.set v kv).length = M := by simpa using hDl
                have hcl1 := SP.cnt_le (D.set v kv)
                have hv0 : 0 ≤ (D.set v kv).getD v (-1) := by rw [hD1]; exact vk0
                generalize D.set v kv = D1 at *
                refine v_loop [1, 2, 4, 7, 10, 12, 14, 15, 81, 82, 83] (fun s : Nat × DS => s.1 ≤ L.length ∧ s.2.D = D1 ∧ DS.Ok (t.gr down m fwd) s.2 M (pendK L s.1)) (fun s => L.length - s.1)
                  (fun s => [.slc 1 (bools down), .int .i64 m, .ptr 105 3 0 0, .ptr 106 2 0 0, .sref 107 1 0 M false, .ptr 201 3 0 0, .int .i64 v, .int .i64 kv, .slc 1 (ints L), .int .i64 L.length, .int .i64 s.1]) (fun s => sobjD t fwd D1 ++ dobj s.2.n s.2.arr s.2.keys s.2.pl) (0, ⟨D1, n - 1, arr2, keys, pl2⟩) ⟨Nat.zero_le _, rfl, dj3, b1, by rw [b3]; exact hl, hne2, hgn⟩ ?_ ?_
                · exact (fits_sto _ (fun x => if x = 202 then 900202 else x) (by simp [Env.get, PV.renL, PV.ren , sobjD, dobj, pvSide, pvT, b3, renL_ints, refsL_ints, renL_nats, refsL_nats]) (by simp [PV.refsL, PV.refs , sobjD, dobj, pvSide, pvT, b3, renL_ints, refsL_ints, renL_nats, refsL_nats]) (by simp [SC.live, SC.ren, SC.refs, PV.renL, PV.ren, PV.refsL, PV.refs, sto_cons, sto_nil , sobjD, dobj, pvSide, pvT, b3, renL_ints, refsL_ints, renL_nats, refsL_nats]) (by simp [sobjD, dobj]))
                · clear dj dj2 dj3 hh b1 b2 b3 b4 hne2 hpop hw hover hroot hl hkl hne
                  rintro ⟨k, D', n, arr, keys, pl⟩ ⟨hk, rfl, dj, hh, hl, hne, -⟩
                  simp only at hk dj hh hl hne
                  simp only [List.zip_cons_cons, List.zip_nil_left]
                  have hDl := dj.len
                  have hkl := dj.klen
                  rw [hgn] at hkl
                  have hw : HW n arr keys pl := HW.of_C hh.c hh.same (by omega)
                  unfold sobjD dobj
                  by_cases hc : k < L.length
                  · have z1 : (k : Int) < L.length := by omega
                    have z2 : (0 : Int) ≤ k := by omega
                    have z3 : IntKind.i64.wrap ((k : Int) + 1) = ((k + 1 : Nat) : Int) := by rw [wrap_i64 (by omega) (by omega)]; omega
                    have hA := ints_get hc
                    obtain ⟨ha, hY⟩ := hmem k hc
                    generalize hgk : L.getD k 0 = a at *
                    obtain ⟨an, rfl⟩ : ∃ an : Nat, a = an := ⟨a.toNat, by have := ha.1; omega⟩
                    have hXi := t.X_in ht ha fwd
                    have hcs := t.cost_in ht ha
                    have hend := endFn_good t an fwd ht ha
                    have gx : (t.gr down m fwd).x an = (t.X fwd an).toNat := rfl
                    have gy : (t.gr down m fwd).y an = (t.Y fwd an).toNat := rfl
                    have gc : (t.gr down m fwd).c an = t.cost an := rfl
                    have gm : (t.gr down m fwd).m = 2 * t.ls.length := rfl
                    have han : an < 2 * t.ls.length := by have := ha.2; omega
                    have guse : (t.gr down m fwd).use an = upB down an := by
                      show (upB down an && (decide (t.Y fwd an = m) || !t.over (t.Y fwd an))) = upB down an
                      rw [hY]
                      rcases hcase with h | h <;> simp [h]
                    have hup := up_good down an (by omega) (by rcases hml with h | h; exact .inl h; exact .inr (by omega))
                    have hcost := cost_good t an ht ha
                    have hskip := fun hs => dj.skip (a := an) (v := v) (by rw [gy, hY]; rfl) (fun b hb hp => pendK_step hc hgk hp) hmax (by rw [gx, hgn]; omega) (by rw [gc]; omega) hs
                    have hrel := fun (held' : Nat → Prop) hu hx hk hh' => dj.relax (pend' := pendK L (k + 1)) (held' := held') ok (a := an) (v := v) (by rw [gm]; exact han) (by rw [gy, hY]; rfl) hu (fun b hb hp => pendK_step hc hgk hp) (fun b hb hp => hpY k b hb hp) hmax hv0 hx hk hh'
                    rw [gx, gc, hD1] at hskip hrel
                    rw [guse] at hskip hrel
                    obtain ⟨xn, hxn⟩ : ∃ xn : Nat, t.X fwd an = xn := ⟨(t.X fwd an).toNat, by omega⟩
                    rw [hxn] at hXi hend hskip hrel
                    simp only [Int.toNat_natCast] at hskip hrel
                    have u1 : (xn : Int) < M := by omega
                    have u2 : (0 : Int) ≤ xn := by omega
                    have u3 : xn < D'.length := by omega
                    have hX : (ints D').getD xn .undef = .int .i64 (D'.getD xn (-1)) := ints_get' u3
                    have hkey := key_good (.slc 1 (nats (arr.take n))) keys pl xn (by omega) (by omega)
                    have hpx : pl.getD xn 0 = pl.getD xn (-1) := getD_01 (by omega)
                    rw [hpx] at hkey
                    have hkv : kv ≤ 4194240 := by omega
                    generalize t.cost an = c at *
                    have u4 : IntKind.i64.wrap (kv + c) = kv + c := wrap_i64 (by omega) (by omega)
                    generalize upB down an = ub at *
                    generalize hdx : D'.getD xn (-1) = dx at *
                    (repeat (first | refine Stp.go ?_ | refine v_region ?_ | refine v_regionD ?_ | refine v_blocky (by decide) ?_ | ((first | refine v_o rfl ?_ ?_ | refine v_oD rfl ?_ ?_); (focus (simp only [ints_length, ite_bool, pvSide, pvT, z1, z2, hA, u1, u2, u3, hX, go_sem]; done)); simp only [Env.put]) | ((first | refine v_u rfl fun K hK => ?_ | refine v_g rfl fun K hK => ?_ | refine v_uD rfl fun K hK => ?_ | refine v_gD rfl fun K hK => ?_); simp only [ints_length, ite_bool, pvSide, pvT, z1, z2, hA, u1, u2, u3, hX, go_sem]) | (first | (refine callK_pure (fun hc => hend) rfl ?_; simp only [upds, eq_self, true_or, true_and]) | (refine callK_pure (fun hc => hup) rfl ?_; simp only [upds, eq_self, true_or, true_and])) | refine v_end ?_ | refine v_endD (by kernel_rfl) ?_ | (refine hK _ _ ?_; clear hK K) | refine ⟨by (first | trivial | assumption | omega | (intros; first | assumption | omega)), ?_⟩ | (apply v_condb; (focus (simp only [ints_length, ite_bool, pvSide, pvT, z1, z2, hA, u1, u2, u3, hX, go_sem]; first | exact pvt | exact pvf)); simp only [cond_true, cond_false]) | fail))
                    refine v_cond rfl (fun hx => ?_) (fun hx => ?_)
                    · have hcs2 : ub = false ∨ 0 ≤ dx := by cases ub <;> by_cases h : 0 ≤ dx <;> (try simp_all) <;> (try omega)
                      clear hx
                      (repeat (first | refine Stp.go ?_ | refine v_region ?_ | refine v_regionD ?_ | refine v_blocky (by decide) ?_ | ((first | refine v_o rfl ?_ ?_ | refine v_oD rfl ?_ ?_); (focus (simp only [z3, go_sem]; done)); simp only [Env.put]) | ((first | refine v_u rfl fun K hK => ?_ | refine v_g rfl fun K hK => ?_ | refine v_uD rfl fun K hK => ?_ | refine v_gD rfl fun K hK => ?_); simp only [z3, go_sem]) | (fail) | refine v_end ?_ | refine v_endD (by kernel_rfl) ?_ | (refine hK _ _ ?_; clear hK K) | refine ⟨by (first | trivial | assumption | omega | (intros; first | assumption | omega)), ?_⟩ | (apply v_condb; (focus (simp only [z3, go_sem]; first | exact pvt | exact pvf)); simp only [cond_true, cond_false]) | fail))
                      refine v_round (k + 1, ⟨D', n, arr, keys, pl⟩) ⟨hc, rfl, hskip (by rcases hcs2 with h | h; exact .inl h; exact .inr (.inl h)), hh, hl, hne, hgn⟩ (by simp only; omega) (fits_sto _ id (by simp [Env.get, PV.renL, PV.ren , sobjD, dobj, pvSide, pvT, renL_ints, refsL_ints, renL_nats, refsL_nats]) (by simp [PV.refsL, PV.refs , sobjD, dobj, pvSide, pvT, renL_ints, refsL_ints, renL_nats, refsL_nats]) (by simp [SC.live, SC.ren, SC.refs, PV.renL, PV.ren, PV.refsL, PV.refs, sto_cons, sto_nil , sobjD, dobj, pvSide, pvT, renL_ints, refsL_ints, renL_nats, refsL_nats]) (by simp [sobjD, dobj]))
                    · have hcs2 : ub = true ∧ dx < 0 := by cases ub <;> by_cases h : 0 ≤ dx <;> (try simp_all) <;> (try omega)
                      clear hx
                      obtain ⟨cu, cx⟩ := hcs2
                      have hset := set_good n arr keys pl xn (kv + c) hh (by omega) (by omega)
                      have hsob : sobj n arr keys pl = pobj n arr keys pl := if_neg hne
                      rw [hsob] at hset
                      by_cases hheld : 0 ≤ pl.getD xn (-1)
                      · have hneg : ¬ pl.getD xn (-1) < 0 := by omega
                        rw [if_neg hneg] at hkey
                        by_cases hlt : kv + c < keys.getD xn 0
                        · (repeat (first | refine Stp.go ?_ | refine v_region ?_ | refine v_regionD ?_ | refine v_blocky (by decide) ?_ | (refine v_callR (by simp [dstOk]) rfl ?_; simp only [List.map_cons, List.map_nil, List.nil_append, List.append_nil, List.cons_append, Env.eval, Env.get, reduceIte, Nat.reduceEqDiff, List.toList_toArray, PV.ofConst]; refine callR_sto ([.ptr 1 3 0 0, .int .i64 (xn : Nat), .int .i64 (kv + c)]) (pobj n arr keys pl) ((fun x => if x = 1 then 201 else if x = 102 then 202 else if x = 3 then 203 else if x = 4 then 204 else x)) (hset) (by simp [PV.renL, PV.ren , pobj]) (by simp [PV.refsL, PV.refs , pobj]) (by simp [SC.live, SC.ren, SC.refs, PV.renL, PV.ren, PV.refsL, PV.refs, sto_cons, sto_nil, renL_ints, refsL_ints, renL_nats, refsL_nats, List.length_set , pobj]) (by simp [id_eq , pobj]) ?_; rintro _ _ ⟨n2, arr2, pl2, b1, b2, b3, b4, rfl, rfl⟩; refine ⟨pobj n2 arr2 (keys.set xn (kv + c)) pl2, (fun x => if x = 1 then 201 else if x = 102 then 900202 else if x = 3 then 203 else if x = 4 then 204 else x), rfl, (by simp [SC.live, SC.ren, SC.refs, PV.renL, PV.ren, PV.refsL, PV.refs, sto_cons, sto_nil, renL_ints, refsL_ints, renL_nats, refsL_nats, List.length_set , pobj]), (by simp [PV.refsL, PV.refs , pobj]), (by simp [Free, sto_cons, sto_nil , pobj]), (by simp [id_eq , pobj]), ?_⟩; simp only [backL, List.map_cons, List.map_nil, List.cons_append, List.nil_append, SC.ren, PV.renL, PV.ren, renL_ints, renL_nats, id_eq, Env.put , pobj]) | ((first | refine v_o rfl ?_ ?_ | refine v_oD rfl ?_ ?_); (focus (simp only [ints_length, ite_bool, pvSide, pvT, u4, z3, hlt,  go_sem]; done)); simp only [Env.put]) | ((first | refine v_u rfl fun K hK => ?_ | refine v_g rfl fun K hK => ?_ | refine v_uD rfl fun K hK => ?_ | refine v_gD rfl fun K hK => ?_); simp only [ints_length, ite_bool, pvSide, pvT, u4, z3, hlt,  go_sem]) | (first | (refine callK_pure (fun hc => hcost) rfl ?_; simp only [upds, eq_self, true_or, true_and]) | (refine callK_lent (fun hc => hkey) (by simp only [List.map_cons, List.map_nil]; rw [hsnap (a := 201) (b := 202) (c := 203) (d := 204) (n := n) (arr := arr) (keys := keys) (places := pl) (by simp [sto_cons]) (by simp [sto_cons]) (by simp [sto_cons]) (by simp [sto_cons]) hh.c.len]; rfl) rfl ?_; simp only [upds, eq_self, true_or, true_and])) | refine v_end ?_ | refine v_endD (by kernel_rfl) ?_ | (refine hK _ _ ?_; clear hK K) | refine ⟨by (first | trivial | assumption | omega | (intros; first | assumption | omega)), ?_⟩ | (apply v_condb; (focus (simp only [ints_length, ite_bool, pvSide, pvT, u4, z3, hlt,  go_sem]; first | exact pvt | exact pvf)); simp only [cond_true, cond_false]) | fail))
                          refine v_round (k + 1, ⟨D', n2, arr2, keys.set xn (kv + c), pl2⟩) ⟨hc, rfl, hrel (fun w => 0 ≤ pl2.getD w (-1)) cu cx (.inr hlt) b3, b1, by rw [b2]; exact hl, b4, hgn⟩ (by simp only; omega) (fits_sto _ (fun x => if x = 202 then 900202 else x) (by simp [Env.get, PV.renL, PV.ren , sobjD, dobj, pvSide, pvT, b2, renL_ints, refsL_ints, renL_nats, refsL_nats]) (by simp [PV.refsL, PV.refs , sobjD, dobj, pvSide, pvT, b2, renL_ints, refsL_ints, renL_nats, refsL_nats]) (by simp [SC.live, SC.ren, SC.refs, PV.renL, PV.ren, PV.refsL, PV.refs, sto_cons, sto_nil , sobjD, dobj, pvSide, pvT, b2, renL_ints, refsL_ints, renL_nats, refsL_nats]) (by simp [sobjD, dobj]))
                        · (repeat (first | refine Stp.go ?_ | refine v_region ?_ | refine v_regionD ?_ | refine v_blocky (by decide) ?_ | ((first | refine v_o rfl ?_ ?_ | refine v_oD rfl ?_ ?_); (focus (simp only [ints_length, ite_bool, pvSide, pvT, u4, z3, hlt, go_sem]; done)); simp only [Env.put]) | ((first | refine v_u rfl fun K hK => ?_ | refine v_g rfl fun K hK => ?_ | refine v_uD rfl fun K hK => ?_ | refine v_gD rfl fun K hK => ?_); simp only [ints_length, ite_bool, pvSide, pvT, u4, z3, hlt, go_sem]) | (first | (refine callK_pure (fun hc => hcost) rfl ?_; simp only [upds, eq_self, true_or, true_and]) | (refine callK_lent (fun hc => hkey) (by simp only [List.map_cons, List.map_nil]; rw [hsnap (a := 201) (b := 202) (c := 203) (d := 204) (n := n) (arr := arr) (keys := keys) (places := pl) (by simp [sto_cons]) (by simp [sto_cons]) (by simp [sto_cons]) (by simp [sto_cons]) hh.c.len]; rfl) rfl ?_; simp only [upds, eq_self, true_or, true_and])) | refine v_end ?_ | refine v_endD (by kernel_rfl) ?_ | (refine hK _ _ ?_; clear hK K) | refine ⟨by (first | trivial | assumption | omega | (intros; first | assumption | omega)), ?_⟩ | (apply v_condb; (focus (simp only [ints_length, ite_bool, pvSide, pvT, u4, z3, hlt, go_sem]; first | exact pvt | exact pvf)); simp only [cond_true, cond_false]) | fail))
                          refine v_round (k + 1, ⟨D', n, arr, keys, pl⟩) ⟨hc, rfl, hskip (.inr (.inr ⟨hheld, by omega⟩)), hh, hl, hne, hgn⟩ (by simp only; omega) (fits_sto _ id (by simp [Env.get, PV.renL, PV.ren , sobjD, dobj, pvSide, pvT, renL_ints, refsL_ints, renL_nats, refsL_nats]) (by simp [PV.refsL, PV.refs , sobjD, dobj, pvSide, pvT, renL_ints, refsL_ints, renL_nats, refsL_nats]) (by simp [SC.live, SC.ren, SC.refs, PV.renL, PV.ren, PV.refsL, PV.refs, sto_cons, sto_nil , sobjD, dobj, pvSide, pvT, renL_ints, refsL_ints, renL_nats, refsL_nats]) (by simp [sobjD, dobj]))
                      · have hneg : pl.getD xn (-1) < 0 := by omega
                        rw [if_pos hneg] at hkey
                        (repeat (first | refine Stp.go ?_ | refine v_region ?_ | refine v_regionD ?_ | refine v_blocky (by decide) ?_ | (refine v_callR (by simp [dstOk]) rfl ?_; simp only [List.map_cons, List.map_nil, List.nil_append, List.append_nil, List.cons_append, Env.eval, Env.get, reduceIte, Nat.reduceEqDiff, List.toList_toArray, PV.ofConst]; refine callR_sto ([.ptr 1 3 0 0, .int .i64 (xn : Nat), .int .i64 (kv + c)]) (pobj n arr keys pl) ((fun x => if x = 1 then 201 else if x = 102 then 202 else if x = 3 then 203 else if x = 4 then 204 else x)) (hset) (by simp [PV.renL, PV.ren , pobj]) (by simp [PV.refsL, PV.refs , pobj]) (by simp [SC.live, SC.ren, SC.refs, PV.renL, PV.ren, PV.refsL, PV.refs, sto_cons, sto_nil, renL_ints, refsL_ints, renL_nats, refsL_nats, List.length_set , pobj]) (by simp [id_eq , pobj]) ?_; rintro _ _ ⟨n2, arr2, pl2, b1, b2, b3, b4, rfl, rfl⟩; refine ⟨pobj n2 arr2 (keys.set xn (kv + c)) pl2, (fun x => if x = 1 then 201 else if x = 102 then 900202 else if x = 3 then 203 else if x = 4 then 204 else x), rfl, (by simp [SC.live, SC.ren, SC.refs, PV.renL, PV.ren, PV.refsL, PV.refs, sto_cons, sto_nil, renL_ints, refsL_ints, renL_nats, refsL_nats, List.length_set , pobj]), (by simp [PV.refsL, PV.refs , pobj]), (by simp [Free, sto_cons, sto_nil , pobj]), (by simp [id_eq , pobj]), ?_⟩; simp only [backL, List.map_cons, List.map_nil, List.cons_append, List.nil_append, SC.ren, PV.renL, PV.ren, renL_ints, renL_nats, id_eq, Env.put , pobj]) | ((first | refine v_o rfl ?_ ?_ | refine v_oD rfl ?_ ?_); (focus (simp only [ints_length, ite_bool, pvSide, pvT, u4, z3,  go_sem]; done)); simp only [Env.put]) | ((first | refine v_u rfl fun K hK => ?_ | refine v_g rfl fun K hK => ?_ | refine v_uD rfl fun K hK => ?_ | refine v_gD rfl fun K hK => ?_); simp only [ints_length, ite_bool, pvSide, pvT, u4, z3,  go_sem]) | (first | (refine callK_pure (fun hc => hcost) rfl ?_; simp only [upds, eq_self, true_or, true_and]) | (refine callK_lent (fun hc => hkey) (by simp only [List.map_cons, List.map_nil]; rw [hsnap (a := 201) (b := 202) (c := 203) (d := 204) (n := n) (arr := arr) (keys := keys) (places := pl) (by simp [sto_cons]) (by simp [sto_cons]) (by simp [sto_cons]) (by simp [sto_cons]) hh.c.len]; rfl) rfl ?_; simp only [upds, eq_self, true_or, true_and])) | refine v_end ?_ | refine v_endD (by kernel_rfl) ?_ | (refine hK _ _ ?_; clear hK K) | refine ⟨by (first | trivial | assumption | omega | (intros; first | assumption | omega)), ?_⟩ | (apply v_condb; (focus (simp only [ints_length, ite_bool, pvSide, pvT, u4, z3,  go_sem]; first | exact pvt | exact pvf)); simp only [cond_true, cond_false]) | fail))
                        refine v_round (k + 1, ⟨D', n2, arr2, keys.set xn (kv + c), pl2⟩) ⟨hc, rfl, hrel (fun w => 0 ≤ pl2.getD w (-1)) cu cx (.inl hheld) b3, b1, by rw [b2]; exact hl, b4, hgn⟩ (by simp only; omega) (fits_sto _ (fun x => if x = 202 then 900202 else x) (by simp [Env.get, PV.renL, PV.ren , sobjD, dobj, pvSide, pvT, b2, renL_ints, refsL_ints, renL_nats, refsL_nats]) (by simp [PV.refsL, PV.refs , sobjD, dobj, pvSide, pvT, b2, renL_ints, refsL_ints, renL_nats, refsL_nats]) (by simp [SC.live, SC.ren, SC.refs, PV.renL, PV.ren, PV.refsL, PV.refs, sto_cons, sto_nil , sobjD, dobj, pvSide, pvT, b2, renL_ints, refsL_ints, renL_nats, refsL_nats]) (by simp [sobjD, dobj]))
                  · have z1 : ¬ (k : Int) < L.length := by omega
                    (repeat (first | refine Stp.go ?_ | refine v_region ?_ | refine v_regionD ?_ | refine v_blocky (by decide) ?_ | ((first | refine v_o rfl ?_ ?_ | refine v_oD rfl ?_ ?_); (focus (simp only [ints_length, z1, go_sem]; done)); simp only [Env.put]) | ((first | refine v_u rfl fun K hK => ?_ | refine v_g rfl fun K hK => ?_ | refine v_uD rfl fun K hK => ?_ | refine v_gD rfl fun K hK => ?_); simp only [ints_length, z1, go_sem]) | (refine v_loopx ?_) | refine v_end ?_ | refine v_endD (by kernel_rfl) ?_ | (refine hK _ _ ?_; clear hK K) | refine ⟨by (first | trivial | assumption | omega | (intros; first | assumption | omega)), ?_⟩ | (apply v_condb; (focus (simp only [ints_length, z1, go_sem]; first | exact pvt | exact pvf)); simp only [cond_true, cond_false]) | fail))
                    refine v_round ⟨D', n, arr, keys, pl⟩ ⟨dj.weaken (fun _ => Iff.rfl) (fun a ha hp _ _ => pendK_end (by omega) a hp), hh, hl, hne, hgn⟩ (by simp only; rw [hcnt]; omega) (fits_sto _ id (by simp [Env.get, PV.renL, PV.ren , sobjD, dobj, pvSide, pvT, renL_ints, refsL_ints, renL_nats, refsL_nats]) (by simp [PV.refsL, PV.refs , sobjD, dobj, pvSide, pvT, renL_ints, refsL_ints, renL_nats, refsL_nats]) (by simp [SC.live, SC.ren, SC.refs, PV.renL, PV.ren, PV.refsL, PV.refs, sto_cons, sto_nil , sobjD, dobj, pvSide, pvT, renL_ints, refsL_ints, renL_nats, refsL_nats]) (by simp [sobjD, dobj]))
    · rw [if_neg hn]
      have v : (n < 0) = True ∨ (n < 0) = False ∧ t.n ≤ n := by
        by_cases h : n < 0
        · exact .inl (by simp [h])
        · exact .inr ⟨by simp [h], by omega⟩
      rcases v with v | ⟨v, v'⟩
      · (repeat (first | refine Stp.go ?_ | refine v_region ?_ | refine v_regionD ?_ | refine v_blocky (by decide) ?_ | ((first | refine v_o rfl ?_ ?_ | refine v_oD rfl ?_ ?_); (focus (simp only [pvT, pvSide, ite_bool, v,  go_sem]; done)); simp only [Env.put]) | ((first | refine v_u rfl fun K hK => ?_ | refine v_g rfl fun K hK => ?_ | refine v_uD rfl fun K hK => ?_ | refine v_gD rfl fun K hK => ?_); simp only [pvT, pvSide, ite_bool, v,  go_sem]) | ((refine callK_pure (fun hc => hfit) rfl ?_; simp only [upds, eq_self, true_or, true_and])) | refine v_end ?_ | refine v_endD (by kernel_rfl) ?_ | (refine hK _ _ ?_; clear hK K) | refine ⟨by (first | trivial | assumption | omega | (intros; first | assumption | omega)), ?_⟩ | (apply v_condb; (focus (simp only [pvT, pvSide, ite_bool, v,  go_sem]; first | exact pvt | exact pvf)); simp only [cond_true, cond_false]) | fail))
        (first | refine v_fin_n ?_ | refine v_fin_r ?_); simp only [ resK, one, PV.snap, go_sem]
        exact Wk.two (Wk.nil 1) (.refl _)
      · (repeat (first | refine Stp.go ?_ | refine v_region ?_ | refine v_regionD ?_ | refine v_blocky (by decide) ?_ | ((first | refine v_o rfl ?_ ?_ | refine v_oD rfl ?_ ?_); (focus (simp only [pvT, pvSide, ite_bool, v, v',  go_sem]; done)); simp only [Env.put]) | ((first | refine v_u rfl fun K hK => ?_ | refine v_g rfl fun K hK => ?_ | refine v_uD rfl fun K hK => ?_ | refine v_gD rfl fun K hK => ?_); simp only [pvT, pvSide, ite_bool, v, v',  go_sem]) | ((refine callK_pure (fun hc => hfit) rfl ?_; simp only [upds, eq_self, true_or, true_and])) | refine v_end ?_ | refine v_endD (by kernel_rfl) ?_ | (refine hK _ _ ?_; clear hK K) | refine ⟨by (first | trivial | assumption | omega | (intros; first | assumption | omega)), ?_⟩ | (apply v_condb; (focus (simp only [pvT, pvSide, ite_bool, v, v',  go_sem]; first | exact pvt | exact pvf)); simp only [cond_true, cond_false]) | fail))
        (first | refine v_fin_n ?_ | refine v_fin_r ?_); simp only [ resK, one, PV.snap, go_sem]
        exact Wk.two (Wk.nil 1) (.refl _)
  · rw [if_neg hm]
    have hm' : maskOk t down = false := by simpa using hm
    rw [hm'] at hfit
    (repeat (first | refine Stp.go ?_ | refine v_region ?_ | refine v_regionD ?_ | refine v_blocky (by decide) ?_ | ((first | refine v_o rfl ?_ ?_ | refine v_oD rfl ?_ ?_); (focus (simp only [pvT, pvSide, ite_bool,  go_sem]; done)); simp only [Env.put]) | ((first | refine v_u rfl fun K hK => ?_ | refine v_g rfl fun K hK => ?_ | refine v_uD rfl fun K hK => ?_ | refine v_gD rfl fun K hK => ?_); simp only [pvT, pvSide, ite_bool,  go_sem]) | ((refine callK_pure (fun hc => hfit) rfl ?_; simp only [upds, eq_self, true_or, true_and])) | refine v_end ?_ | refine v_endD (by kernel_rfl) ?_ | (refine hK _ _ ?_; clear hK K) | refine ⟨by (first | trivial | assumption | omega | (intros; first | assumption | omega)), ?_⟩ | (apply v_condb; (focus (simp only [pvT, pvSide, ite_bool,  go_sem]; first | exact pvt | exact pvf)); simp only [cond_true, cond_false]) | fail))
    (first | refine v_fin_n ?_ | refine v_fin_r ?_); simp only [ resK, one, PV.snap, go_sem]
    exact Wk.two (Wk.nil 1) (.refl _)
end Go.V
/- slices.SortStableFunc for short lists of numbers. -/
set_option linter.unusedVariables false
set_option linter.unusedSimpArgs false
namespace Go.V
open Go.RowKit Go.Proofs
attribute [local irreducible] wp seqK lexK opK callK upd sto Good GoodR

def cmpI (a b : Int) : Int := if a < b then -1 else if b < a then 1 else 0

theorem isnan_good (x : Int) : Good Try.prog 86 [.int .i64 x] (.bool false) := by
  refine v_enter ttok mixed Try.func86 (by kernel_rfl) rfl Try.ntmps86 Try.results86 (by simp) ?_; rw [fresh_sto]; simp only [argEnv, List.range, List.range.loop, List.length_cons, List.length_nil, List.zip_cons_cons, List.zip_nil_left]
  (repeat (first | refine Stp.go ?_ | refine v_region ?_ | refine v_regionD ?_ | refine v_blocky (by decide) ?_ | ((first | refine v_o rfl ?_ ?_ | refine v_oD rfl ?_ ?_); (focus (simp only [ite_bool, go_sem]; done)); simp only [Env.put]) | ((first | refine v_u rfl fun K hK => ?_ | refine v_g rfl fun K hK => ?_ | refine v_uD rfl fun K hK => ?_ | refine v_gD rfl fun K hK => ?_); simp only [ite_bool, go_sem]) | (fail) | refine v_end ?_ | refine v_endD (by kernel_rfl) ?_ | (refine hK _ _ ?_; clear hK K) | refine ⟨by (first | trivial | assumption | omega | (intros; first | assumption | omega)), ?_⟩ | (apply v_condb; (focus (simp only [ite_bool, go_sem]; first | exact pvt | exact pvf)); simp only [cond_true, cond_false]) | fail))
  (first | refine v_fin_n ?_ | refine v_fin_r ?_); simp only [ resK, one, PV.snap, go_sem]
  refine wk_bool ?_
  simp
theorem compare_good (x y : Int) : Good Try.prog 68 [.int .i64 x, .int .i64 y] (.int .i64 (cmpI x y)) := by
  refine v_enter ttok mixed Try.func68 (by kernel_rfl) rfl Try.ntmps68 Try.results68 (by simp) ?_; rw [fresh_sto]; simp only [argEnv, List.range, List.range.loop, List.length_cons, List.length_nil, List.zip_cons_cons, List.zip_nil_left]
  (repeat (first | refine Stp.go ?_ | refine v_region ?_ | refine v_regionD ?_ | refine v_blocky (by decide) ?_ | ((first | refine v_o rfl ?_ ?_ | refine v_oD rfl ?_ ?_); (focus (simp only [ite_bool, go_sem]; done)); simp only [Env.put]) | ((first | refine v_u rfl fun K hK => ?_ | refine v_g rfl fun K hK => ?_ | refine v_uD rfl fun K hK => ?_ | refine v_gD rfl fun K hK => ?_); simp only [ite_bool, go_sem]) | ((refine callK_pure (fun hc => isnan_good _) rfl ?_; simp only [upds, eq_self, true_or, true_and])) | refine v_end ?_ | refine v_endD (by kernel_rfl) ?_ | (refine hK _ _ ?_; clear hK K) | refine ⟨by (first | trivial | assumption | omega | (intros; first | assumption | omega)), ?_⟩ | (apply v_condb; (focus (simp only [ite_bool, go_sem]; first | exact pvt | exact pvf)); simp only [cond_true, cond_false]) | fail))
  refine v_cond rfl (fun hx => ?_) (fun hx => ?_)
  · have h : x < y := by simpa using hx
    (repeat (first | refine Stp.go ?_ | refine v_region ?_ | refine v_regionD ?_ | refine v_blocky (by decide) ?_ | ((first | refine v_o rfl ?_ ?_ | refine v_oD rfl ?_ ?_); (focus (simp only [ite_bool, go_sem]; done)); simp only [Env.put]) | ((first | refine v_u rfl fun K hK => ?_ | refine v_g rfl fun K hK => ?_ | refine v_uD rfl fun K hK => ?_ | refine v_gD rfl fun K hK => ?_); simp only [ite_bool, go_sem]) | (fail) | refine v_end ?_ | refine v_endD (by kernel_rfl) ?_ | (refine hK _ _ ?_; clear hK K) | refine ⟨by (first | trivial | assumption | omega | (intros; first | assumption | omega)), ?_⟩ | (apply v_condb; (focus (simp only [ite_bool, go_sem]; first | exact pvt | exact pvf)); simp only [cond_true, cond_false]) | fail))
    (first | refine v_fin_n ?_ | refine v_fin_r ?_); simp only [ resK, one, PV.snap, go_sem]
    refine wk_eq ?_
    simp [cmpI, h]
  · have h : ¬ x < y := by simpa using hx
    clear hx
    (repeat (first | refine Stp.go ?_ | refine v_region ?_ | refine v_regionD ?_ | refine v_blocky (by decide) ?_ | ((first | refine v_o rfl ?_ ?_ | refine v_oD rfl ?_ ?_); (focus (simp only [ite_bool, go_sem]; done)); simp only [Env.put]) | ((first | refine v_u rfl fun K hK => ?_ | refine v_g rfl fun K hK => ?_ | refine v_uD rfl fun K hK => ?_ | refine v_gD rfl fun K hK => ?_); simp only [ite_bool, go_sem]) | (fail) | refine v_end ?_ | refine v_endD (by kernel_rfl) ?_ | (refine hK _ _ ?_; clear hK K) | refine ⟨by (first | trivial | assumption | omega | (intros; first | assumption | omega)), ?_⟩ | (apply v_condb; (focus (simp only [ite_bool, go_sem]; first | exact pvt | exact pvf)); simp only [cond_true, cond_false]) | fail))
    refine v_cond rfl (fun hx => ?_) (fun hx => ?_)
    · have h' : y < x := by simpa using hx
      (repeat (first | refine Stp.go ?_ | refine v_region ?_ | refine v_regionD ?_ | refine v_blocky (by decide) ?_ | ((first | refine v_o rfl ?_ ?_ | refine v_oD rfl ?_ ?_); (focus (simp only [ite_bool, go_sem]; done)); simp only [Env.put]) | ((first | refine v_u rfl fun K hK => ?_ | refine v_g rfl fun K hK => ?_ | refine v_uD rfl fun K hK => ?_ | refine v_gD rfl fun K hK => ?_); simp only [ite_bool, go_sem]) | (fail) | refine v_end ?_ | refine v_endD (by kernel_rfl) ?_ | (refine hK _ _ ?_; clear hK K) | refine ⟨by (first | trivial | assumption | omega | (intros; first | assumption | omega)), ?_⟩ | (apply v_condb; (focus (simp only [ite_bool, go_sem]; first | exact pvt | exact pvf)); simp only [cond_true, cond_false]) | fail))
      (first | refine v_fin_n ?_ | refine v_fin_r ?_); simp only [ resK, one, PV.snap, go_sem]
      refine wk_eq ?_
      simp [cmpI, h, h']
    · have h' : ¬ y < x := by simpa using hx
      (repeat (first | refine Stp.go ?_ | refine v_region ?_ | refine v_regionD ?_ | refine v_blocky (by decide) ?_ | ((first | refine v_o rfl ?_ ?_ | refine v_oD rfl ?_ ?_); (focus (simp only [ite_bool, go_sem]; done)); simp only [Env.put]) | ((first | refine v_u rfl fun K hK => ?_ | refine v_g rfl fun K hK => ?_ | refine v_uD rfl fun K hK => ?_ | refine v_gD rfl fun K hK => ?_); simp only [ite_bool, go_sem]) | (fail) | refine v_end ?_ | refine v_endD (by kernel_rfl) ?_ | (refine hK _ _ ?_; clear hK K) | refine ⟨by (first | trivial | assumption | omega | (intros; first | assumption | omega)), ?_⟩ | (apply v_condb; (focus (simp only [ite_bool, go_sem]; first | exact pvt | exact pvf)); simp only [cond_true, cond_false]) | fail))
      (first | refine v_fin_n ?_ | refine v_fin_r ?_); simp only [ resK, one, PV.snap, go_sem]
      refine wk_eq ?_
      simp [cmpI, h, h']

theorem ordcmp_good (t : Topo) (down : List Bool) (d : Int) (dist : List Int) (a b : Nat) (ha : a < dist.length) (hb : b < dist.length) :
    Good Try.prog 67 [.int .i64 a, .int .i64 b, .vptr (pvG t down d dist).cells 0] (.int .i64 (cmpI (dist.getD b (-1)) (dist.getD a (-1)))) := by
  refine v_enter ttok mixed Try.func67 (by kernel_rfl) rfl Try.ntmps67 Try.results67 (by simp) ?_; rw [fresh_sto]; simp only [argEnv, List.range, List.range.loop, List.length_cons, List.length_nil, List.zip_cons_cons, List.zip_nil_left]
  have x1 : (a : Int) < dist.length := by omega
  have x2 : (b : Int) < dist.length := by omega
  have x3 : (0 : Int) ≤ a := by omega
  have x4 : (0 : Int) ≤ b := by omega
  have e1 := ints_get' ha
  have e2 := ints_get' hb
  (repeat (first | refine Stp.go ?_ | refine v_region ?_ | refine v_regionD ?_ | refine v_blocky (by decide) ?_ | ((first | refine v_o rfl ?_ ?_ | refine v_oD rfl ?_ ?_); (focus (simp only [pvG, ints_length, x1, x2, x3, x4, e1, e2, go_sem]; done)); simp only [Env.put]) | ((first | refine v_u rfl fun K hK => ?_ | refine v_g rfl fun K hK => ?_ | refine v_uD rfl fun K hK => ?_ | refine v_gD rfl fun K hK => ?_); simp only [pvG, ints_length, x1, x2, x3, x4, e1, e2, go_sem]) | ((refine callK_pure (fun hc => compare_good _ _) rfl ?_; simp only [upds, eq_self, true_or, true_and])) | refine v_end ?_ | refine v_endD (by kernel_rfl) ?_ | (refine hK _ _ ?_; clear hK K) | refine ⟨by (first | trivial | assumption | omega | (intros; first | assumption | omega)), ?_⟩ | (apply v_condb; (focus (simp only [pvG, ints_length, x1, x2, x3, x4, e1, e2, go_sem]; first | exact pvt | exact pvf)); simp only [cond_true, cond_false]) | fail))
  (first | refine v_fin_n ?_ | refine v_fin_r ?_); simp only [ resK, one, PV.snap, go_sem]
  exact Wk.refl _

/-- The list while an element moves to its place. -/
def insJ (pre : List Int) (x : Int) (rest : List Int) (j : Nat) : List Int := pre.take j ++ x :: (pre.drop j ++ rest)
theorem insJ_length (pre : List Int) (x : Int) (rest : List Int) {j : Nat} (h : j ≤ pre.length) : (insJ pre x rest j).length = pre.length + 1 + rest.length := by simp [insJ]; omega
theorem insJ_at (pre : List Int) (x : Int) (rest : List Int) {j : Nat} (h : j ≤ pre.length) : (insJ pre x rest j).getD j 0 = x := by
  unfold insJ
  have : (pre.take j).length = j := by simp; omega
  simp only [List.getD_eq_getElem?_getD]
  rw [List.getElem?_append_right (by omega), this]; simp
theorem insJ_before (pre : List Int) (x : Int) (rest : List Int) {j : Nat} (h : j + 1 ≤ pre.length) : (insJ pre x rest (j + 1)).getD j 0 = pre.getD j 0 := by
  unfold insJ
  simp only [List.getD_eq_getElem?_getD]
  rw [List.getElem?_append_left (by simp; omega), List.getElem?_take_of_lt (by omega)]
theorem insJ_swap (pre : List Int) (x : Int) (rest : List Int) {j : Nat} (h : j + 1 ≤ pre.length) : ((insJ pre x rest (j + 1)).set (j + 1) (pre.getD j 0)).set j x = insJ pre x rest j := by
  unfold insJ
  have hj : j < pre.length := by omega
  have e : pre.getD j 0 = pre[j] := by simp [List.getD, hj]
  have hl : (pre.take (j + 1)).length = j + 1 := by simp; omega
  rw [List.set_append_right _ _ (by omega), hl, Nat.sub_self, List.set_cons_zero, List.take_succ_eq_append_getElem hj, List.append_assoc, List.set_append_right _ _ (by simp; omega), e]
  have h2 : (pre.take j).length = j := by simp; omega
  rw [h2, Nat.sub_self, List.drop_eq_getElem_cons hj]
  rfl
theorem insJ_insAt (lt : Int → Int → Bool) (pre : List Int) (x : Int) (rest : List Int) (j : Nat) (h : j = 0 ∨ ∃ i, j = i + 1 ∧ lt x (pre.getD i 0) = false) : insJ pre x rest j = SP.insAt lt pre x j ++ rest := by
  rcases h with rfl | ⟨i, rfl, h⟩
  · simp [insJ, SP.insAt]
  · unfold SP.insAt insJ; rw [h]; simp

set_option maxHeartbeats 2000000 in
theorem insort_good (f : FuncId) (Tg sg : Nat) (p : PV) (cmp : Int → Int → Int) (data : List Int) (hL : data.length ≤ 1000000) (hsn : ∀ g : Store, p.cells.map (PV.snap g 5) = p.cells) (hpc : p.cells.length = sg) (hrf : PV.refs p = []) 
    (hcmp : ∀ x ∈ data, ∀ y ∈ data, Good Try.prog f [.int .i64 x, .int .i64 y, .vptr p.cells 0] (.int .i64 (cmp x y))) :
    GoodR Try.prog 101 [.sref 1 1 0 data.length false, .int .i64 0, .int .i64 data.length, .fn f [] [.ptr 2 sg 0 0]] (sto [(1, .row 3 1 (ints data)), (2, .row Tg sg [p])])
      fun r g => r = .tup [] ∧ g = sto [(1, .row 3 1 (ints (SP.isort (fun x y => decide (cmp x y < 0)) data))), (2, .row Tg sg [p])] := by
  refine v_enterR ttok mixed Try.func101 (by kernel_rfl) rfl Try.ntmps101 Try.results101 (by simp) ?_; simp only [argEnv, List.range, List.range.loop, List.length_cons, List.length_nil, List.zip_cons_cons, List.zip_nil_left]
  have hren : ∀ f, PV.ren f p = p := fun f => PV.ren_none f p hrf
  generalize hlt : (fun x y => decide (cmp x y < 0)) = lt
  have a1 : IntKind.i64.wrap (1 : Int) = ((1 : Nat) : Int) := by decide +kernel
  (repeat (first | refine Stp.go ?_ | refine v_region ?_ | refine v_regionD ?_ | refine v_blocky (by decide) ?_ | ((first | refine v_o rfl ?_ ?_ | refine v_oD rfl ?_ ?_); (focus (simp only [a1, go_sem]; done)); simp only [Env.put]) | ((first | refine v_u rfl fun K hK => ?_ | refine v_g rfl fun K hK => ?_ | refine v_uD rfl fun K hK => ?_ | refine v_gD rfl fun K hK => ?_); simp only [a1, go_sem]) | (fail) | refine v_end ?_ | refine v_endD (by kernel_rfl) ?_ | (refine hK _ _ ?_; clear hK K) | refine ⟨by (first | trivial | assumption | omega | (intros; first | assumption | omega)), ?_⟩ | (apply v_condb; (focus (simp only [a1, go_sem]; first | exact pvt | exact pvf)); simp only [cond_true, cond_false]) | fail))
  refine v_loop [0, 1, 2, 3, 8] (fun i : Nat => 1 ≤ i ∧ (i ≤ data.length ∨ i = 1)) (fun i => data.length - i) (fun i => [.sref 1 1 0 data.length false, .int .i64 0, .int .i64 data.length, .fn f [] [.ptr 2 sg 0 0], .int .i64 i])
    (fun i => [(1, .row 3 1 (ints (SP.isort lt (data.take i) ++ data.drop i))), (2, .row Tg sg [p])]) 1 ⟨Nat.le_refl _, .inr rfl⟩ ?_ ?_
  · have e : SP.isort lt (data.take 1) ++ data.drop 1 = data := by
      cases data with
      | nil => rfl
      | cons x l => simp [SP.isort, SP.insAt]
    rw [List.drop_one] at e
    exact (fits_sto _ id (by simp [Env.get, PV.renL, PV.ren , e, hren, hrf, renL_ints, refsL_ints]) (by simp [PV.refsL, PV.refs , e, hren, hrf, renL_ints, refsL_ints]) (by simp [SC.live, SC.ren, SC.refs, PV.renL, PV.ren, PV.refsL, PV.refs, sto_cons, sto_nil , e, hren, hrf, renL_ints, refsL_ints]) (by simp ))
  · rintro i ⟨h1, h2⟩
    simp only [List.zip_cons_cons, List.zip_nil_left]
    by_cases hc : i < data.length
    · have w1 : (i : Int) < data.length := by omega
      have w2 : IntKind.i64.wrap ((i : Int) + 1) = ((i + 1 : Nat) : Int) := by rw [wrap_i64 (by omega) (by omega)]; omega
      have hpm := SP.isort_perm lt _ (data.take i) rfl
      have hpl : (SP.isort lt (data.take i)).length = i := by rw [hpm.length_eq]; simp; omega
      have hx : data[i] = data.getD i 0 := by simp [List.getD, hc]
      have hxm : data.getD i 0 ∈ data := by rw [← hx]; exact List.getElem_mem hc
      have hpre : ∀ y ∈ SP.isort lt (data.take i), y ∈ data := fun y hy => List.mem_of_mem_take (hpm.mem_iff.1 hy)
      have hnext : SP.isort lt (data.take (i + 1)) = SP.insAt lt (SP.isort lt (data.take i)) (data.getD i 0) i := by
        rw [List.take_succ_eq_append_getElem hc, SP.isort_snoc, hpl, hx]
      have hdrop : data.drop i = data.getD i 0 :: data.drop (i + 1) := by rw [List.drop_eq_getElem_cons hc, hx]
      have hrl : (data.drop (i + 1)).length = data.length - (i + 1) := by simp
      rw [hdrop]
      generalize data.getD i 0 = x at *
      generalize hpre0 : SP.isort lt (data.take i) = pre at *
      generalize hrest : data.drop (i + 1) = rest at *
      have e0 : pre ++ x :: rest = insJ pre x rest i := by
        unfold insJ; rw [List.take_of_length_le (by omega), List.drop_of_length_le (by omega)]; rfl
      rw [e0]
      (repeat (first | refine Stp.go ?_ | refine v_region ?_ | refine v_regionD ?_ | refine v_blocky (by decide) ?_ | ((first | refine v_o rfl ?_ ?_ | refine v_oD rfl ?_ ?_); (focus (simp only [w1, w2, go_sem]; done)); simp only [Env.put]) | ((first | refine v_u rfl fun K hK => ?_ | refine v_g rfl fun K hK => ?_ | refine v_uD rfl fun K hK => ?_ | refine v_gD rfl fun K hK => ?_); simp only [w1, w2, go_sem]) | (fail) | refine v_end ?_ | refine v_endD (by kernel_rfl) ?_ | (refine hK _ _ ?_; clear hK K) | refine ⟨by (first | trivial | assumption | omega | (intros; first | assumption | omega)), ?_⟩ | (apply v_condb; (focus (simp only [w1, w2, go_sem]; first | exact pvt | exact pvf)); simp only [cond_true, cond_false]) | fail))
      refine v_loop [0, 1, 2, 3, 8, 9] (fun j : Nat => j ≤ i ∧ SP.insAt lt pre x j = SP.insAt lt pre x i) (fun j => j) (fun j => [.sref 1 1 0 data.length false, .int .i64 0, .int .i64 data.length, .fn f [] [.ptr 2 sg 0 0], .int .i64 i, .int .i64 j])
        (fun j => [(1, .row 3 1 (ints (insJ pre x rest j))), (2, .row Tg sg [p])]) i ⟨Nat.le_refl _, rfl⟩ ?_ ?_
      · exact (fits_sto _ id (by simp [Env.get, PV.renL, PV.ren , hren, hrf, renL_ints, refsL_ints]) (by simp [PV.refsL, PV.refs , hren, hrf, renL_ints, refsL_ints]) (by simp [SC.live, SC.ren, SC.refs, PV.renL, PV.ren, PV.refsL, PV.refs, sto_cons, sto_nil , hren, hrf, renL_ints, refsL_ints]) (by simp ))
      · rintro j ⟨hj, hins⟩
        simp only [List.zip_cons_cons, List.zip_nil_left]
        have hlen := insJ_length pre x rest (j := j) (by omega)
        have hat := insJ_at pre x rest (j := j) (by omega)
        cases j with
        | zero =>
          have v1 : ¬ (0 : Int) < ((0 : Nat) : Int) := by omega
          (repeat (first | refine Stp.go ?_ | refine v_region ?_ | refine v_regionD ?_ | refine v_blocky (by decide) ?_ | ((first | refine v_o rfl ?_ ?_ | refine v_oD rfl ?_ ?_); (focus (simp only [v1, w2, ite_bool, go_sem]; done)); simp only [Env.put]) | ((first | refine v_u rfl fun K hK => ?_ | refine v_g rfl fun K hK => ?_ | refine v_uD rfl fun K hK => ?_ | refine v_gD rfl fun K hK => ?_); simp only [v1, w2, ite_bool, go_sem]) | (refine v_loopx ?_) | refine v_end ?_ | refine v_endD (by kernel_rfl) ?_ | (refine hK _ _ ?_; clear hK K) | refine ⟨by (first | trivial | assumption | omega | (intros; first | assumption | omega)), ?_⟩ | (apply v_condb; (focus (simp only [v1, w2, ite_bool, go_sem]; first | exact pvt | exact pvf)); simp only [cond_true, cond_false]) | fail))
          have e := insJ_insAt lt pre x rest 0 (.inl rfl)
          refine v_round (i + 1) ⟨by omega, .inl (by omega)⟩ (by omega) (fits_sto _ id (by simp [Env.get, PV.renL, PV.ren , hren, hrf, renL_ints, refsL_ints, e, hins, hnext, hrest]) (by simp [PV.refsL, PV.refs , hren, hrf, renL_ints, refsL_ints, e, hins, hnext, hrest]) (by simp [SC.live, SC.ren, SC.refs, PV.renL, PV.ren, PV.refsL, PV.refs, sto_cons, sto_nil , hren, hrf, renL_ints, refsL_ints, e, hins, hnext, hrest]) (by simp ))
        | succ j =>
          have v1 : (0 : Int) < ((j + 1 : Nat) : Int) := by omega
          have v2 : ((j + 1 : Nat) : Int) < data.length := by omega
          have v3 : (0 : Int) ≤ ((j + 1 : Nat) : Int) := by omega
          have v4 : IntKind.i64.wrap (((j + 1 : Nat) : Int) - 1) = (j : Int) := by rw [wrap_i64 (by omega) (by omega)]; omega
          have v5 : (j : Int) < data.length := by omega
          have v6 : (0 : Int) ≤ (j : Int) := by omega
          have v7 : j + 1 < (insJ pre x rest (j + 1)).length := by omega
          have v8 : j < (insJ pre x rest (j + 1)).length := by omega
          have hbef := insJ_before pre x rest (j := j) (by omega)
          have hswap := insJ_swap pre x rest (j := j) (by omega)
          have e1 := ints_get v7
          have e2 := ints_get v8
          rw [hat] at e1
          rw [hbef] at e2
          have hym : pre.getD j 0 ∈ data := hpre _ (by simp [List.getD]; rw [List.getElem?_eq_getElem (by omega)]; exact List.getElem_mem _)
          have hcall := hcmp x hxm _ hym
          have hdec : lt x (pre.getD j 0) = decide (cmp x (pre.getD j 0) < 0) := by rw [← hlt]
          have hstop := fun h => insJ_insAt lt pre x rest (j + 1) (.inr ⟨j, rfl, h⟩)
          have hgo : lt x (pre.getD j 0) = true → SP.insAt lt pre x j = SP.insAt lt pre x (j + 1) := fun h => by
            conv => rhs; unfold SP.insAt
            rw [if_pos h]
          generalize pre.getD j 0 = y at *
          have v9 : (insJ pre x rest (j + 1)).length = data.length := by omega
          have e3 : (ints ((insJ pre x rest (j + 1)).set (j + 1) y)).getD j .undef = .int .i64 y := by
            rw [ints_get (by simpa using v8), Heap.getD_set _ _ _ _ _ v7, if_neg (by omega), hbef]
          (repeat (first | refine Stp.go ?_ | refine v_region ?_ | refine v_regionD ?_ | refine v_blocky (by decide) ?_ | ((first | refine v_o rfl ?_ ?_ | refine v_oD rfl ?_ ?_); (focus (simp only [v1, v2, v3, v4, v5, v6, v7, v8, e1, e2, ite_bool, ints_length, go_sem]; done)); simp only [Env.put]) | ((first | refine v_u rfl fun K hK => ?_ | refine v_g rfl fun K hK => ?_ | refine v_uD rfl fun K hK => ?_ | refine v_gD rfl fun K hK => ?_); simp only [v1, v2, v3, v4, v5, v6, v7, v8, e1, e2, ite_bool, ints_length, go_sem]) | ((refine callK_lent (fun hc => hcall) (by simp [PV.snap, sto_cons, hsn]) rfl ?_; simp only [upds, eq_self, true_or, true_and])) | refine v_end ?_ | refine v_endD (by kernel_rfl) ?_ | (refine hK _ _ ?_; clear hK K) | refine ⟨by (first | trivial | assumption | omega | (intros; first | assumption | omega)), ?_⟩ | (apply v_condb; (focus (simp only [v1, v2, v3, v4, v5, v6, v7, v8, e1, e2, ite_bool, ints_length, go_sem]; first | exact pvt | exact pvf)); simp only [cond_true, cond_false]) | fail))
          refine v_cond rfl (fun hx => ?_) (fun hx => ?_)
          · have hc2 : lt x y = true := by rw [hdec]; simpa using hx
            clear hx
            (repeat (first | refine Stp.go ?_ | refine v_region ?_ | refine v_regionD ?_ | refine v_blocky (by decide) ?_ | ((first | refine v_o rfl ?_ ?_ | refine v_oD rfl ?_ ?_); (focus (simp only [v1, v2, v3, v4, v5, v6, v7, v8, v9, e1, e2, e3, ite_bool, ints_length, ints_set, List.length_set, hswap, go_sem]; done)); simp only [Env.put]) | ((first | refine v_u rfl fun K hK => ?_ | refine v_g rfl fun K hK => ?_ | refine v_uD rfl fun K hK => ?_ | refine v_gD rfl fun K hK => ?_); simp only [v1, v2, v3, v4, v5, v6, v7, v8, v9, e1, e2, e3, ite_bool, ints_length, ints_set, List.length_set, hswap, go_sem]) | (fail) | refine v_end ?_ | refine v_endD (by kernel_rfl) ?_ | (refine hK _ _ ?_; clear hK K) | refine ⟨by (first | trivial | assumption | omega | (intros; first | assumption | omega)), ?_⟩ | (apply v_condb; (focus (simp only [v1, v2, v3, v4, v5, v6, v7, v8, v9, e1, e2, e3, ite_bool, ints_length, ints_set, List.length_set, hswap, go_sem]; first | exact pvt | exact pvf)); simp only [cond_true, cond_false]) | fail))
            refine v_round j ⟨by omega, by rw [hgo hc2, hins]⟩ (by omega) (fits_sto _ id (by simp [Env.get, PV.renL, PV.ren , hren, hrf, renL_ints, refsL_ints, hswap]) (by simp [PV.refsL, PV.refs , hren, hrf, renL_ints, refsL_ints, hswap]) (by simp [SC.live, SC.ren, SC.refs, PV.renL, PV.ren, PV.refsL, PV.refs, sto_cons, sto_nil , hren, hrf, renL_ints, refsL_ints, hswap]) (by simp ))
          · have hc2 : lt x y = false := by rw [hdec]; simpa using hx
            clear hx
            have e := hstop hc2
            (repeat (first | refine Stp.go ?_ | refine v_region ?_ | refine v_regionD ?_ | refine v_blocky (by decide) ?_ | ((first | refine v_o rfl ?_ ?_ | refine v_oD rfl ?_ ?_); (focus (simp only [w2, go_sem]; done)); simp only [Env.put]) | ((first | refine v_u rfl fun K hK => ?_ | refine v_g rfl fun K hK => ?_ | refine v_uD rfl fun K hK => ?_ | refine v_gD rfl fun K hK => ?_); simp only [w2, go_sem]) | (refine v_loopx ?_) | refine v_end ?_ | refine v_endD (by kernel_rfl) ?_ | (refine hK _ _ ?_; clear hK K) | refine ⟨by (first | trivial | assumption | omega | (intros; first | assumption | omega)), ?_⟩ | (apply v_condb; (focus (simp only [w2, go_sem]; first | exact pvt | exact pvf)); simp only [cond_true, cond_false]) | fail))
            refine v_round (i + 1) ⟨by omega, .inl (by omega)⟩ (by omega) (fits_sto _ id (by simp [Env.get, PV.renL, PV.ren , hren, hrf, renL_ints, refsL_ints, e, hins, hnext, hrest]) (by simp [PV.refsL, PV.refs , hren, hrf, renL_ints, refsL_ints, e, hins, hnext, hrest]) (by simp [SC.live, SC.ren, SC.refs, PV.renL, PV.ren, PV.refsL, PV.refs, sto_cons, sto_nil , hren, hrf, renL_ints, refsL_ints, e, hins, hnext, hrest]) (by simp ))
    · have w1 : ¬ (i : Int) < data.length := by omega
      have e : SP.isort lt (data.take i) ++ data.drop i = SP.isort lt data := by rw [List.take_of_length_le (by omega), List.drop_of_length_le (by omega), List.append_nil]
      rw [e]
      (repeat (first | refine Stp.go ?_ | refine v_region ?_ | refine v_regionD ?_ | refine v_blocky (by decide) ?_ | ((first | refine v_o rfl ?_ ?_ | refine v_oD rfl ?_ ?_); (focus (simp only [w1, go_sem]; done)); simp only [Env.put]) | ((first | refine v_u rfl fun K hK => ?_ | refine v_g rfl fun K hK => ?_ | refine v_uD rfl fun K hK => ?_ | refine v_gD rfl fun K hK => ?_); simp only [w1, go_sem]) | (refine v_loopx ?_) | refine v_end ?_ | refine v_endD (by kernel_rfl) ?_ | (refine hK _ _ ?_; clear hK K) | refine ⟨by (first | trivial | assumption | omega | (intros; first | assumption | omega)), ?_⟩ | (apply v_condb; (focus (simp only [w1, go_sem]; first | exact pvt | exact pvf)); simp only [cond_true, cond_false]) | fail))
      (first | refine v_finR_n ?_ | refine v_finR_r ?_); simp only [ resK, go_sem]
      refine finR_sto (id) (.tup []) ([(1, .row 3 1 (ints (SP.isort lt data))), (2, .row Tg sg [p])]) (⟨rfl, rfl⟩) (by simp [one, PV.ren, PV.renL , hren, hrf, renL_ints, refsL_ints]) (by simp [PV.refs, PV.refsL , hren, hrf, renL_ints, refsL_ints]) (by simp [SC.live, SC.ren, SC.refs, PV.renL, PV.ren, PV.refsL, PV.refs, sto_cons, sto_nil, renL_ints, refsL_ints, renL_nats, refsL_nats, List.length_set , hren, hrf, renL_ints, refsL_ints]) (by simp )
end Go.V
