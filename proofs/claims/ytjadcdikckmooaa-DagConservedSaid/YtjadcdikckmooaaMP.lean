import Derived.Test.YtjadcdikckmooaaMG
import Derived.Test.YtjadcdikckmooaaMO
/- A part of a proof, with no condition of its own. Merged texts: F0 F1. -/
/- Layer 12: the shares: the plain law. -/
set_option linter.unusedVariables false
set_option linter.unusedSimpArgs false
namespace Go.V
open Go.RowKit Go.Proofs

/-- A rational number in cells, or the zero value. -/
def os : Option Rat → Bool
  | none => false
  | some q => decide (q.num < 0)
def on : Option Rat → PV
  | none => .nilS
  | some q => nl q.num.natAbs
def ol : Option Rat → PV
  | none => .nilS
  | some q => nl (q.den - 1)
def pvO (o : Option Rat) : PV := .agg [.bool (os o), on o, ol o]
def ratO (o : Option Rat) : Rat := o.getD 0
theorem pvO_some (q : Rat) : pvO (some q) = pvQ q := rfl
theorem refs_on (o : Option Rat) : PV.refs (on o) = [] := by cases o <;> simp [on, PV.refs, refs_nl]
theorem refs_ol (o : Option Rat) : PV.refs (ol o) = [] := by cases o <;> simp [ol, PV.refs, refs_nl]
theorem ren_on (f : Nat → Nat) (o : Option Rat) : PV.ren f (on o) = on o := PV.ren_none f _ (refs_on o)
theorem ren_ol (f : Nat → Nat) (o : Option Rat) : PV.ren f (ol o) = ol o := PV.ren_none f _ (refs_ol o)
theorem snap_on (g : Store) (d : Nat) (o : Option Rat) : PV.snap g (d + 1) (on o) = on o := by cases o <;> rfl
theorem snap_ol (g : Store) (d : Nat) (o : Option Rat) : PV.snap g (d + 1) (ol o) = ol o := by cases o <;> rfl
theorem storable_on (o : Option Rat) : PV.storable (on o) = true := by cases o <;> rfl
theorem refs_pvO (o : Option Rat) : PV.refs (pvO o) = [] := by simp [pvO, PV.refs, PV.refsL, refs_on, refs_ol]
theorem wk_on (o : Option Rat) : Wk (pvO o) (pvQ (ratO o)) := by
  cases o with
  | none => exact wk_q0
  | some q => exact .refl _
def rats (l : List (Option Rat)) : List PV := l.map pvO
theorem rats_length (l : List (Option Rat)) : (rats l).length = l.length := List.length_map ..
theorem rats_set (l : List (Option Rat)) (j : Nat) (q : Option Rat) : (rats l).set j (.agg [.bool (os q), on q, ol q]) = rats (l.set j q) := by simp [rats, pvO, List.map_set]
theorem rats_get {l : List (Option Rat)} {j : Nat} (h : j < l.length) : (rats l).getD j .undef = .agg [.bool (os (l.getD j none)), on (l.getD j none), ol (l.getD j none)] := by
  simp [rats, List.getD, h, pvO]
theorem refsL_rats : ∀ (l : List (Option Rat)), PV.refsL (rats l) = []
  | [] => rfl
  | o :: l => by
    have := refsL_rats l
    simp only [rats, List.map_cons, PV.refsL, refs_pvO, List.nil_append] at this ⊢
    exact this
theorem renL_rats (f : Nat → Nat) (l : List (Option Rat)) : PV.renL f (rats l) = rats l := PV.renL_none f _ (refsL_rats l)
theorem snap_rats (g : Store) (d : Nat) (l : List (Option Rat)) : (rats l).map (PV.snap g (d + 2)) = rats l := by
  simp only [rats, List.map_map]
  refine List.map_congr_left fun o _ => ?_
  simp only [Function.comp, pvO, PV.snap, List.map_cons, List.map_nil, snap_on, snap_ol]
theorem rats_replicate (n : Nat) : List.replicate n (PV.agg [.bool false, .nilS, .nilS]) = rats (List.replicate n none) := by simp [rats, pvO, os, on, ol]

/-- The amounts of the nodes. -/
def amFind : List (Int × Rat) → Int → Option Rat
  | [], _ => none
  | (m, q) :: r, n => if m = n then some q else amFind r n
def amPut : List (Int × Rat) → Int → Rat → List (Int × Rat)
  | [], n, q => [(n, q)]
  | (m, x) :: r, n, q => if m = n then (n, q) :: r else (m, x) :: amPut r n q
def pvAm (l : List (Int × Rat)) : List (PV × PV) := l.map fun x => (.int .i64 x.1, pvQ x.2)
theorem mapFind_am : ∀ (l : List (Int × Rat)) (n : Int), mapFind (pvAm l) n = (amFind l n).map pvQ
  | [], n => rfl
  | (m, q) :: l, n => by
    simp only [pvAm, List.map_cons, mapFind, amFind]
    split
    · rfl
    · exact mapFind_am l n
theorem mapPut_am : ∀ (l : List (Int × Rat)) (n : Int) (q : Rat), mapPut (pvAm l) .i64 n (.agg [.bool (os (some q)), on (some q), ol (some q)]) = pvAm (amPut l n q)
  | [], n, q => rfl
  | (m, x) :: l, n, q => by
    simp only [pvAm, List.map_cons, mapPut, amPut]
    split
    · rfl
    · simp only [List.map_cons]
      congr 1
      exact mapPut_am l n q
theorem intKeys_am (l : List (Int × Rat)) : IntKeys .i64 (pvAm l) := by
  intro e he
  obtain ⟨x, _, rfl⟩ := List.mem_map.1 he
  exact ⟨_, rfl⟩
theorem found_am (ei : TI) (l : List (Int × Rat)) (n : Int) (h : elemOf ei ei.zero = .agg [.bool false, .nilS, .nilS]) : found ei false (mapFind (pvAm l) n) = .agg [.bool (os (amFind l n)), on (amFind l n), ol (amFind l n)] := by
  rw [mapFind_am]
  cases amFind l n with
  | none => simp [found, h, os, on, ol]
  | some q => rfl
theorem amFind_put : ∀ (l : List (Int × Rat)) (n m : Int) (q : Rat), amFind (amPut l n q) m = if n = m then some q else amFind l m
  | [], n, m, q => rfl
  | (k, x) :: l, n, m, q => by
    simp only [amPut]
    by_cases h : k = n
    · subst h
      rw [if_pos rfl]
      simp only [amFind]
      split <;> simp_all
    · rw [if_neg h]
      simp only [amFind, amFind_put l n m q]
      by_cases h1 : k = m
      · subst h1; simp [Ne.symm h]
      · simp [h1]

/-- Shares of the arcs, amounts of the nodes. -/
structure ShS where
  sh : List (Option Rat)
  am : List (Int × Rat)
def ShS.at (s : ShS) (n : Int) : Rat := ratO (amFind s.am n)
/-- One arc: c is the number of a node's next arcs. -/
def shStep (t : Topo) (c : Nat) (n : Int) (s : ShS) (a : Int) : ShS :=
  ⟨s.sh.set a.toNat (some (s.at n / ((c : Int) : Rat))), amPut s.am (t.head a) (s.at (t.head a) + s.at n / ((c : Int) : Rat))⟩
def shNode (t : Topo) (down : List Bool) (dist : List Int) (d : Int) (s : ShS) (n : Int) : ShS := (nextL t down dist n d).foldl (shStep t (nextL t down dist n d).length n) s
def sh0 (t : Topo) (s : Int) : ShS := ⟨List.replicate (2 * t.ls.length) none, [(s, 1)]⟩
def shL (t : Topo) (down : List Bool) (dist : List Int) (s d : Int) (l : List Int) : ShS := l.foldl (shNode t down dist d) (sh0 t s)
/-- No number is too large at a step. -/
def stepOk (t : Topo) (c : Nat) (n : Int) (s : ShS) (a : Int) : Prop :=
  Rt.ok (s.at n) ∧ (s.at n).den * c < 4294967296 ∧ Rt.ok (s.at (t.head a)) ∧ Rt.ok (s.at n / ((c : Int) : Rat)) ∧ (s.at (t.head a)).den * (s.at n / ((c : Int) : Rat)).den < 4294967296
def ShOk (t : Topo) (down : List Bool) (dist : List Int) (s d : Int) (ord : List Int) : Prop :=
  ∀ i k, i < ord.length → k < (nextL t down dist (ord.getD i 0) d).length →
    stepOk t (nextL t down dist (ord.getD i 0) d).length (ord.getD i 0)
      (((nextL t down dist (ord.getD i 0) d).take k).foldl (shStep t (nextL t down dist (ord.getD i 0) d).length (ord.getD i 0)) (shL t down dist s d (ord.take i)))
      ((nextL t down dist (ord.getD i 0) d).getD k 0)
theorem foldl_sh_len (t : Topo) (c : Nat) (n : Int) : ∀ (l : List Int) (s : ShS), (l.foldl (shStep t c n) s).sh.length = s.sh.length
  | [], s => rfl
  | a :: l, s => by rw [List.foldl_cons, foldl_sh_len t c n l]; simp [shStep]
theorem shL_len (t : Topo) (down : List Bool) (dist : List Int) (s d : Int) (l : List Int) : (shL t down dist s d l).sh.length = 2 * t.ls.length := by
  have : ∀ (l : List Int) (x : ShS), (l.foldl (shNode t down dist d) x).sh.length = x.sh.length := by
    intro l
    induction l with
    | nil => intro x; rfl
    | cons a l ih => intro x; rw [List.foldl_cons, ih]; exact foldl_sh_len ..
  unfold shL
  rw [this]; simp [sh0]

/-- What Share returns. -/
noncomputable def shareR (t : Topo) (down : List Bool) (s d : Int) : PV :=
  if distE t down d = 0 then if 0 ≤ s ∧ s < t.n then if 0 ≤ (distL t down d false).getD s.toNat (-1) then .tup [.slc 3 (rats (shL t down (distL t down d false) s d (orderL (distL t down d false))).sh), .int .i64 0]
    else .tup [.slc 3 [], .int .i64 11] else .tup [.slc 3 [], .int .i64 2] else .tup [.slc 3 [], .int .i64 (distE t down d)]

attribute [local irreducible] Good GoodR
theorem good_ops (o1 o2 : Option Rat) (x y : PV) {k : FuncId} {r : PV} (h : Good Try.prog k [pvQ (ratO o1), pvQ (ratO o2)] r) : Good Try.prog k [.agg [.bool (os o1), on o1, ol o1], .agg [.bool (os o2), on o2, ol o2]] r :=
  Good.pre h rfl fun j p q hp hq => by
    match j with
    | 0 => simp at hp hq; subst hp hq; exact wk_on o1
    | 1 => simp at hp hq; subst hp hq; exact wk_on o2
    | j + 2 => simp at hp
end Go.V
/- Layer 12: the shares, as the program finds them. -/
set_option linter.unusedVariables false
set_option linter.unusedSimpArgs false
namespace Go.V
open Go.RowKit Go.Proofs
attribute [local irreducible] wp seqK lexK opK callK upd sto Good GoodR

theorem div_nat (o : Option Rat) (c : Nat) (hc : c ≠ 0) (hc2 : c < 4294967296) (h1 : Rt.ok (ratO o)) (h2 : (ratO o).den * c < 4294967296) :
    Good Try.prog 47 [.agg [.bool (os o), on o, ol o], .agg [.bool (os (some ((c : Int) : Rat))), on (some ((c : Int) : Rat)), ol (some ((c : Int) : Rat))]]
      (.tup [.agg [.bool (os (some (ratO o / ((c : Int) : Rat)))), on (some (ratO o / ((c : Int) : Rat))), ol (some (ratO o / ((c : Int) : Rat)))], .int .i64 0]) := by
  have hp := (ratO o).den_pos
  have hd : (ratO o).den < 4294967296 := Nat.lt_of_le_of_lt (Nat.le_mul_of_pos_right _ (Nat.pos_of_ne_zero hc)) h2
  have en : (((c : Int) : Rat)).num = c := Rat.num_intCast _
  have ed : (((c : Int) : Rat)).den = 1 := Rat.den_intCast _
  have hne : ((c : Int) : Rat) ≠ 0 := fun e => by
    have := congrArg Rat.num e
    rw [en] at this
    simp at this; exact hc this
  have h := rdiv_good (ratO o) ((c : Int) : Rat) h1 (by rw [ed]; decide) (by rw [en, Int.natAbs_natCast]; exact h2) hd (by rw [en, Int.natAbs_natCast]; exact hc2)
  unfold rdivR at h
  rw [if_neg hne] at h
  exact good_ops o (some ((c : Int) : Rat)) .undef .undef h
theorem add_rat (o : Option Rat) (q : Rat) (h1 : Rt.ok (ratO o)) (h2 : Rt.ok q) (h3 : (ratO o).den * q.den < 4294967296) :
    Good Try.prog 29 [.agg [.bool (os o), on o, ol o], .agg [.bool (os (some q)), on (some q), ol (some q)]] (.agg [.bool (os (some (ratO o + q))), on (some (ratO o + q)), ol (some (ratO o + q))]) :=
  good_ops o (some q) .undef .undef (radd_good (ratO o) q h1 h2 h3)
theorem int_rat (c : Nat) (hc : c < 4294967296) : Good Try.prog 28 [.int .i64 (c : Int)] (.agg [.bool (os (some ((c : Int) : Rat))), on (some ((c : Int) : Rat)), ol (some ((c : Int) : Rat))]) := rint_good (c : Int) (by omega) (by omega)

theorem ren_am (f : Nat → Nat) (l : List (Int × Rat)) : (pvAm l).map (fun e => (PV.ren f e.1, PV.ren f e.2)) = pvAm l := by
  simp only [pvAm, List.map_map]
  refine List.map_congr_left fun x _ => ?_
  simp only [Function.comp, PV.ren, ren_pvQ]
theorem refsL_nil_of : ∀ (l : List PV), (∀ p ∈ l, p.refs = []) → PV.refsL l = []
  | [], _ => rfl
  | p :: l, h => by
    have ih := refsL_nil_of l fun q hq => h q (by simp [hq])
    have h0 := h p (by simp)
    simp only [PV.refsL, h0, ih, List.nil_append]
theorem refs_am1 (l : List (Int × Rat)) : PV.refsL ((pvAm l).map fun x => x.1) = [] := refsL_nil_of _ fun p hp => by
  simp only [pvAm, List.map_map, List.mem_map, Function.comp] at hp
  obtain ⟨x, _, rfl⟩ := hp; rfl
theorem refs_am2 (l : List (Int × Rat)) : PV.refsL ((pvAm l).map fun x => x.2) = [] := refsL_nil_of _ fun p hp => by
  simp only [pvAm, List.map_map, List.mem_map, Function.comp] at hp
  obtain ⟨x, _, rfl⟩ := hp; exact refs_pvQ _
theorem am_one (n : Int) (q : Rat) : [(PV.int .i64 n, PV.agg [.bool (os (some q)), on (some q), ol (some q)])] = pvAm [(n, q)] := rfl
attribute [local irreducible] pvAm rats

def shJ (t : Topo) (c : Nat) (n : Int) (l : List Int) (k : Nat) (s : ShS) : ShS := (l.take k).foldl (shStep t c n) s

set_option maxHeartbeats 8000000 in
theorem share_good (t : Topo) (down : List Bool) (s d : Int) (h20 : t.n < 20) (hok : distE t down d = 0 → 0 ≤ s → s < t.n → ShOk t down (distL t down d false) s d (orderL (distL t down d false))) :
    Good Try.prog 26 [pvT t, .slc 1 (bools down), .int .i64 s, .int .i64 d] (shareR t down s d) := by
  have hs := towards_good t down s d
  refine v_enter ttok mixed Try.func26 (by kernel_rfl) rfl Try.ntmps26 Try.results26 (by simp) ?_; rw [fresh_sto]; simp only [argEnv, List.range, List.range.loop, List.length_cons, List.length_nil, List.zip_cons_cons, List.zip_nil_left]
  unfold shareR
  unfold towR at hs
  rcases distR_cases t down d false with ⟨h1, h2, h3, h4, h5⟩ | ⟨e, h1, h2, h5⟩
  · rw [if_pos h4] at hs ⊢
    have ht := maskOk_ok h1
    have hml := maskOk_len h1
    obtain ⟨hn1, hn2, hn3, hn4⟩ := Topo.frame_n (Topo.ok_frame ht)
    have hI := distL_is ht down h2 h3 false
    have hD := isDist_ok ht hI
    have hDl := hD.1
    have hok := hok h4
    generalize distL t down d false = dist at *
    by_cases c1 : 0 ≤ s ∧ s < t.n
    · rw [if_pos c1] at hs ⊢
      have hok := hok c1.1 c1.2
      obtain ⟨sn, rfl⟩ : ∃ m : Nat, s = m := ⟨s.toNat, by omega⟩
      simp only [Int.toNat_natCast]
      have y1 : (sn : Int) < dist.length := by omega
      have y2 : (0 : Int) ≤ sn := by omega
      have y3 : (ints dist).getD sn .undef = .int .i64 (dist.getD sn (-1)) := ints_get' (by omega)
      by_cases c3 : dist.getD sn (-1) < 0
      · rw [if_neg (by omega)]
        generalize dist.getD sn (-1) = x at *
        (repeat (first | refine Stp.go ?_ | refine v_region ?_ | refine v_regionD ?_ | refine v_blocky (by decide) ?_ | ((first | refine v_o rfl ?_ ?_ | refine v_oD rfl ?_ ?_); (focus (simp only [pvT, pvG, ite_bool, c3, ints_length, y1, y2, y3, go_sem]; done)); simp only [Env.put]) | ((first | refine v_u rfl fun K hK => ?_ | refine v_g rfl fun K hK => ?_ | refine v_uD rfl fun K hK => ?_ | refine v_gD rfl fun K hK => ?_); simp only [pvT, pvG, ite_bool, c3, ints_length, y1, y2, y3, go_sem]) | ((refine callK_pure (fun hc => hs) rfl ?_; simp only [upds, eq_self, true_or, true_and])) | refine v_end ?_ | refine v_endD (by kernel_rfl) ?_ | (refine hK _ _ ?_; clear hK K) | refine ⟨by (first | trivial | assumption | omega | (intros; first | assumption | omega)), ?_⟩ | (apply v_condb; (focus (simp only [pvT, pvG, ite_bool, c3, ints_length, y1, y2, y3, go_sem]; first | exact pvt | exact pvf)); simp only [cond_true, cond_false]) | fail))
        (first | refine v_fin_n ?_ | refine v_fin_r ?_); simp only [ resK, one, PV.snap, go_sem]
        exact Wk.two (Wk.nil 3) (.refl _)
      · rw [if_pos (by omega)]
        have hgo := gorder_good t down d dist (by omega) (reach_ne hI (by omega))
        have homem : ∀ k, k < (orderL dist).length → ∃ i : Nat, (orderL dist).getD k 0 = i ∧ i < dist.length := fun k hk => by
          obtain ⟨i, e1, e2, _⟩ := orderL_mem.1 (show (orderL dist).getD k 0 ∈ orderL dist by simp [List.getD, hk])
          exact ⟨i, e1, e2⟩
        have hol := orderL_length dist
        unfold ShOk at hok
        generalize orderL dist = ord at *
        obtain ⟨N, hN⟩ : ∃ N : Nat, t.n = N := ⟨t.n.toNat, by omega⟩
        have hone : Good Try.prog 28 [.int .i64 1] (.agg [.bool (os (some (1 : Rat))), on (some (1 : Rat)), ol (some (1 : Rat))]) := int_rat 1 (by decide)
        have k0 : IntKeys .i64 [] := fun e he => by cases he
        obtain ⟨M, hM⟩ : ∃ M : Nat, 2 * t.ls.length = M := ⟨_, rfl⟩
        have v2 : IntKind.i64.wrap (2 * (t.ls.length : Int)) = 2 * (t.ls.length : Int) := wrap_i64 (by omega) (by omega)
        have v3 : (0 : Int) ≤ 2 * (t.ls.length : Int) := by omega
        have v4 : (2 * (t.ls.length : Int)).toNat * 56 ≤ 140737488355328 := by omega
        have v5 : 2 * (t.ls.length : Int) ≤ 140737488355328 := by omega
        have v6 : (2 * (t.ls.length : Int)).toNat = M := by omega
        have hcx : ¬ dist.getD sn (-1) < 0 := c3
        generalize hdx : dist.getD sn (-1) = dx at *
        (repeat (first | refine Stp.go ?_ | refine v_region ?_ | refine v_regionD ?_ | refine v_blocky (by decide) ?_ | ((first | refine v_o rfl ?_ ?_ | refine v_oD rfl ?_ ?_); (focus (simp only [pvT, pvG, ite_bool, hcx, ints_length, y1, y2, y3, v2, v3, v4, v5, v6, List.length_map, rats_replicate, go_sem]; done)); simp only [Env.put]) | ((first | refine v_u rfl fun K hK => ?_ | refine v_g rfl fun K hK => ?_ | refine v_uD rfl fun K hK => ?_ | refine v_gD rfl fun K hK => ?_); simp only [pvT, pvG, ite_bool, hcx, ints_length, y1, y2, y3, v2, v3, v4, v5, v6, List.length_map, rats_replicate, go_sem]) | (first | (refine callK_pure (fun hc => hs) rfl ?_; simp only [upds, eq_self, true_or, true_and]) | (refine callK_pure (fun hc => hgo) rfl ?_; simp only [upds, eq_self, true_or, true_and]) | (refine callK_pure (fun hc => hone) rfl ?_; simp only [upds, eq_self, true_or, true_and])) | refine v_end ?_ | refine v_endD (by kernel_rfl) ?_ | (refine hK _ _ ?_; clear hK K) | refine ⟨by (first | trivial | assumption | omega | (intros; first | assumption | omega)), ?_⟩ | (apply v_condb; (focus (simp only [pvT, pvG, ite_bool, hcx, ints_length, y1, y2, y3, v2, v3, v4, v5, v6, List.length_map, rats_replicate, go_sem]; first | exact pvt | exact pvf)); simp only [cond_true, cond_false]) | fail))
        have e0 : shL t down dist sn d [] = ⟨List.replicate M none, [((sn : Int), (1 : Rat))]⟩ := by rw [← hM]; rfl
        refine v_loop [4, 10, 12, 13, 49, 50, 51] (fun k : Nat => k ≤ ord.length) (fun k => ord.length - k)
          (fun k => [.ptr 102 3 0 0, .ptr 103 6 0 0, .sref 101 3 0 M false, .mref 104, .slc 1 (ints ord), .int .i64 ord.length, .int .i64 k])
          (fun k => [(102, .row 25 3 [pvT t]), (103, .row 67 6 [pvG t down d dist]), (101, .row 51 3 (rats (shL t down dist sn d (ord.take k)).sh)), (104, .omap 77 (pvAm (shL t down dist sn d (ord.take k)).am))]) 0 (Nat.zero_le _) ?_ ?_
        · exact (fits_sto _ (fun x => if x = 102 then 1000 else if x = 103 then 2008 else if x = 101 then 7004 else if x = 104 then 8000 else x) (by simp [Env.get, PV.renL, PV.ren , pvT, pvG, e0, renL_rats, refsL_rats, am_one, ren_am, refs_am1, refs_am2]) (by simp [PV.refsL, PV.refs , pvT, pvG, e0, renL_rats, refsL_rats, am_one, ren_am, refs_am1, refs_am2]) (by simp [SC.live, SC.ren, SC.refs, PV.renL, PV.ren, PV.refsL, PV.refs, sto_cons, sto_nil , pvT, pvG, e0, renL_rats, refsL_rats, am_one, ren_am, refs_am1, refs_am2]) (by simp []))
        · intro k hk
          simp only [List.zip_cons_cons, List.zip_nil_left]
          by_cases hc : k < ord.length
          · have hk1 := foldl_take (shNode t down dist d) ord k (sh0 t sn) 0 hc
            have hsl := shL_len t down dist sn d (ord.take k)
            obtain ⟨xn, hx, hxl⟩ := homem k hc
            have hokk := hok k
            rw [hx] at hk1 hokk
            have hgn := gnext_good t down dist xn d ht hml hD (by omega) (by omega)
            have hmem : ∀ j, j < (nextL t down dist xn d).length → t.arc ((nextL t down dist xn d).getD j 0) := fun j hj => (nextL_arc ht (down := down) (dist := dist) (n := xn) (d := d) (by simp [List.getD, hj])).1
            have hll := nextL_len ht down dist xn d
            change shL t down dist sn d (ord.take (k + 1)) = shNode t down dist d (shL t down dist sn d (ord.take k)) xn at hk1
            unfold shNode at hk1
            generalize nextL t down dist xn d = l at *
            generalize shL t down dist sn d (ord.take k) = S0 at *
            have z1 : (k : Int) < ord.length := by omega
            have z2 : (0 : Int) ≤ k := by omega
            have z3 : IntKind.i64.wrap ((k : Int) + 1) = ((k + 1 : Nat) : Int) := by rw [wrap_i64 (by omega) (by omega)]; omega
            have z4 : (ints ord).getD k .undef = .int .i64 xn := by rw [ints_get hc, hx]
            (repeat (first | refine Stp.go ?_ | refine v_region ?_ | refine v_regionD ?_ | refine v_blocky (by decide) ?_ | ((first | refine v_o rfl ?_ ?_ | refine v_oD rfl ?_ ?_); (focus (simp only [pvT, pvG, ite_bool, ints_length, z1, z2, z4, go_sem]; done)); simp only [Env.put]) | ((first | refine v_u rfl fun K hK => ?_ | refine v_g rfl fun K hK => ?_ | refine v_uD rfl fun K hK => ?_ | refine v_gD rfl fun K hK => ?_); simp only [pvT, pvG, ite_bool, ints_length, z1, z2, z4, go_sem]) | ((refine callK_pure (fun hc => hgn) rfl ?_; simp only [upds, eq_self, true_or, true_and])) | refine v_end ?_ | refine v_endD (by kernel_rfl) ?_ | (refine hK _ _ ?_; clear hK K) | refine ⟨by (first | trivial | assumption | omega | (intros; first | assumption | omega)), ?_⟩ | (apply v_condb; (focus (simp only [pvT, pvG, ite_bool, ints_length, z1, z2, z4, go_sem]; first | exact pvt | exact pvf)); simp only [cond_true, cond_false]) | fail))
            refine v_loop [4, 10, 12, 13, 15, 16, 49, 50, 51, 58, 59, 60] (fun j : Nat => j ≤ l.length) (fun j => l.length - j)
              (fun j => [.ptr 102 3 0 0, .ptr 103 6 0 0, .sref 101 3 0 M false, .mref 104, .int .i64 xn, .slc 1 (ints l), .slc 1 (ints ord), .int .i64 ord.length, .int .i64 k, .slc 1 (ints l), .int .i64 l.length, .int .i64 j])
              (fun j => [(102, .row 25 3 [pvT t]), (103, .row 67 6 [pvG t down d dist]), (101, .row 51 3 (rats (shJ t l.length xn l j S0).sh)), (104, .omap 77 (pvAm (shJ t l.length xn l j S0).am))]) 0 (Nat.zero_le _) ?_ ?_
            · exact (fits_sto _ id (by simp [Env.get, PV.renL, PV.ren , pvT, pvG, shJ, renL_rats, refsL_rats, renL_ints, refsL_ints, ren_am, refs_am1, refs_am2]) (by simp [PV.refsL, PV.refs , pvT, pvG, shJ, renL_rats, refsL_rats, renL_ints, refsL_ints, ren_am, refs_am1, refs_am2]) (by simp [SC.live, SC.ren, SC.refs, PV.renL, PV.ren, PV.refsL, PV.refs, sto_cons, sto_nil , pvT, pvG, shJ, renL_rats, refsL_rats, renL_ints, refsL_ints, ren_am, refs_am1, refs_am2]) (by simp []))
            · intro j hj
              simp only [List.zip_cons_cons, List.zip_nil_left]
              by_cases hcj : j < l.length
              · have hsucc := foldl_take (shStep t l.length xn) l j S0 0 hcj
                have hst := hokk j hc hcj
                have ha := hmem j hcj
                have hA := ints_get hcj
                have hlen := foldl_sh_len t l.length xn (l.take j) S0
                change shJ t l.length xn l (j + 1) S0 = shStep t l.length xn (shJ t l.length xn l j S0) (l.getD j 0) at hsucc
                change stepOk t l.length xn (shJ t l.length xn l j S0) (l.getD j 0) at hst
                change (shJ t l.length xn l j S0).sh.length = S0.sh.length at hlen
                generalize l.getD j 0 = a at *
                generalize shJ t l.length xn l j S0 = S1 at *
                obtain ⟨sh, am⟩ := S1
                have hhd := head_good t a ht ha
                have hhi := t.head_in ht ha
                obtain ⟨an, rfl⟩ : ∃ m : Nat, a = m := ⟨a.toNat, by have := ha.1; omega⟩
                obtain ⟨hn, hhn⟩ : ∃ m : Nat, t.head an = m := ⟨(t.head an).toNat, by omega⟩
                unfold stepOk ShS.at at hst
                unfold shStep ShS.at at hsucc
                rw [hhn] at hhd hhi hst hsucc
                simp only [Int.toNat_natCast] at hsucc hst hlen
                obtain ⟨q1, q2, q3, q4, q5⟩ := hst
                have hdiv := div_nat (amFind am xn) l.length (by omega) (by omega) q1 q2
                have hadd := add_rat (amFind am hn) _ q3 q4 q5
                have hint := int_rat l.length (by omega)
                have hput := mapPut_am am hn (ratO (amFind am hn) + ratO (amFind am xn) / (((l.length : Nat) : Int) : Rat))
                clear q1 q2 q3 q4 q5 hok hokk
                have kA := intKeys_am am
                have hfx := mapFind_am am xn
                have hfh := mapFind_am am hn
                have u0 : an < sh.length := by have := ha.2; omega
                have u1 : (an : Int) < M := by have := ha.2; omega
                have u2 : (0 : Int) ≤ an := by omega
                have u3 : an < (rats sh).length := by rw [rats_length]; exact u0
                have u4 := rats_get u0
                have u5 := rats_set sh an (some (ratO (amFind am xn) / (((l.length : Nat) : Int) : Rat)))
                generalize sh.getD an none = so at *
                generalize ratO (amFind am hn) + ratO (amFind am xn) / (((l.length : Nat) : Int) : Rat) = nw at *
                generalize ratO (amFind am xn) / (((l.length : Nat) : Int) : Rat) = pt at *
                generalize (((l.length : Nat) : Int) : Rat) = cr at *
                have w1 : (j : Int) < l.length := by omega
                have w2 : (0 : Int) ≤ j := by omega
                have w3 : IntKind.i64.wrap ((j : Int) + 1) = ((j + 1 : Nat) : Int) := by rw [wrap_i64 (by omega) (by omega)]; omega
                generalize amFind am hn = oh at *
                generalize amFind am xn = ox at *
                have r1 : PV.refsL [PV.agg [.bool (os ox), on ox, ol ox], PV.agg [.bool (os (some cr)), on (some cr), ol (some cr)]] = [] := by simp [PV.refsL, PV.refs, refs_on, refs_ol]
                have r2 : PV.refsL [PV.agg [.bool (os oh), on oh, ol oh], PV.agg [.bool (os (some pt)), on (some pt), ol (some pt)]] = [] := by simp [PV.refsL, PV.refs, refs_on, refs_ol]
                cases ox with
                | none =>
                  rw [Option.map_none] at hfx
                  cases oh with
                  | none => 
                    rw [Option.map_none] at hfh
                    (repeat (first | refine Stp.go ?_ | refine v_region ?_ | refine v_regionD ?_ | refine v_blocky (by decide) ?_ | ((first | refine v_o rfl ?_ ?_ | refine v_oD rfl ?_ ?_); (focus (simp only [pvT, pvG, ite_bool, ints_length, hA, w1, w2, w3, u1, u2, u3, u4, u5, hfx, hfh, hput, rats_length, go_sem]; done)); simp only [Env.put]) | ((first | refine v_u rfl fun K hK => ?_ | refine v_g rfl fun K hK => ?_ | refine v_uD rfl fun K hK => ?_ | refine v_gD rfl fun K hK => ?_); simp only [pvT, pvG, ite_bool, ints_length, hA, w1, w2, w3, u1, u2, u3, u4, u5, hfx, hfh, hput, rats_length, go_sem]) | (first | (refine callK_pure (fun hc => hdiv) r1 ?_; simp only [upds, eq_self, true_or, true_and]) | (refine callK_pure (fun hc => hint) rfl ?_; simp only [upds, eq_self, true_or, true_and]) | (refine callK_pure (fun hc => hhd) rfl ?_; simp only [upds, eq_self, true_or, true_and]) | (refine callK_pure (fun hc => hadd) r2 ?_; simp only [upds, eq_self, true_or, true_and])) | refine v_end ?_ | refine v_endD (by kernel_rfl) ?_ | (refine hK _ _ ?_; clear hK K) | refine ⟨by (first | trivial | assumption | omega | (intros; first | assumption | omega)), ?_⟩ | (apply v_condb; (focus (simp only [pvT, pvG, ite_bool, ints_length, hA, w1, w2, w3, u1, u2, u3, u4, u5, hfx, hfh, hput, rats_length, go_sem]; first | exact pvt | exact pvf)); simp only [cond_true, cond_false]) | fail))
                    refine v_round (j + 1) hcj (by omega) (fits_sto _ id (by simp [Env.get, PV.renL, PV.ren , pvT, pvG, hsucc, renL_rats, refsL_rats, renL_ints, refsL_ints, ren_am, refs_am1, refs_am2]) (by simp [PV.refsL, PV.refs , pvT, pvG, hsucc, renL_rats, refsL_rats, renL_ints, refsL_ints, ren_am, refs_am1, refs_am2]) (by simp [SC.live, SC.ren, SC.refs, PV.renL, PV.ren, PV.refsL, PV.refs, sto_cons, sto_nil , pvT, pvG, hsucc, renL_rats, refsL_rats, renL_ints, refsL_ints, ren_am, refs_am1, refs_am2]) (by simp []))
                  | some oh =>
                    rw [Option.map_some, ← pvO_some, pvO] at hfh
                    (repeat (first | refine Stp.go ?_ | refine v_region ?_ | refine v_regionD ?_ | refine v_blocky (by decide) ?_ | ((first | refine v_o rfl ?_ ?_ | refine v_oD rfl ?_ ?_); (focus (simp only [pvT, pvG, ite_bool, ints_length, hA, w1, w2, w3, u1, u2, u3, u4, u5, hfx, hfh, hput, rats_length, go_sem]; done)); simp only [Env.put]) | ((first | refine v_u rfl fun K hK => ?_ | refine v_g rfl fun K hK => ?_ | refine v_uD rfl fun K hK => ?_ | refine v_gD rfl fun K hK => ?_); simp only [pvT, pvG, ite_bool, ints_length, hA, w1, w2, w3, u1, u2, u3, u4, u5, hfx, hfh, hput, rats_length, go_sem]) | (first | (refine callK_pure (fun hc => hdiv) r1 ?_; simp only [upds, eq_self, true_or, true_and]) | (refine callK_pure (fun hc => hint) rfl ?_; simp only [upds, eq_self, true_or, true_and]) | (refine callK_pure (fun hc => hhd) rfl ?_; simp only [upds, eq_self, true_or, true_and]) | (refine callK_pure (fun hc => hadd) r2 ?_; simp only [upds, eq_self, true_or, true_and])) | refine v_end ?_ | refine v_endD (by kernel_rfl) ?_ | (refine hK _ _ ?_; clear hK K) | refine ⟨by (first | trivial | assumption | omega | (intros; first | assumption | omega)), ?_⟩ | (apply v_condb; (focus (simp only [pvT, pvG, ite_bool, ints_length, hA, w1, w2, w3, u1, u2, u3, u4, u5, hfx, hfh, hput, rats_length, go_sem]; first | exact pvt | exact pvf)); simp only [cond_true, cond_false]) | fail))
                    refine v_round (j + 1) hcj (by omega) (fits_sto _ id (by simp [Env.get, PV.renL, PV.ren , pvT, pvG, hsucc, renL_rats, refsL_rats, renL_ints, refsL_ints, ren_am, refs_am1, refs_am2]) (by simp [PV.refsL, PV.refs , pvT, pvG, hsucc, renL_rats, refsL_rats, renL_ints, refsL_ints, ren_am, refs_am1, refs_am2]) (by simp [SC.live, SC.ren, SC.refs, PV.renL, PV.ren, PV.refsL, PV.refs, sto_cons, sto_nil , pvT, pvG, hsucc, renL_rats, refsL_rats, renL_ints, refsL_ints, ren_am, refs_am1, refs_am2]) (by simp []))
                | some ox =>
                  rw [Option.map_some, ← pvO_some, pvO] at hfx
                  cases oh with
                  | none => 
                    rw [Option.map_none] at hfh
                    (repeat (first | refine Stp.go ?_ | refine v_region ?_ | refine v_regionD ?_ | refine v_blocky (by decide) ?_ | ((first | refine v_o rfl ?_ ?_ | refine v_oD rfl ?_ ?_); (focus (simp only [pvT, pvG, ite_bool, ints_length, hA, w1, w2, w3, u1, u2, u3, u4, u5, hfx, hfh, hput, rats_length, go_sem]; done)); simp only [Env.put]) | ((first | refine v_u rfl fun K hK => ?_ | refine v_g rfl fun K hK => ?_ | refine v_uD rfl fun K hK => ?_ | refine v_gD rfl fun K hK => ?_); simp only [pvT, pvG, ite_bool, ints_length, hA, w1, w2, w3, u1, u2, u3, u4, u5, hfx, hfh, hput, rats_length, go_sem]) | (first | (refine callK_pure (fun hc => hdiv) r1 ?_; simp only [upds, eq_self, true_or, true_and]) | (refine callK_pure (fun hc => hint) rfl ?_; simp only [upds, eq_self, true_or, true_and]) | (refine callK_pure (fun hc => hhd) rfl ?_; simp only [upds, eq_self, true_or, true_and]) | (refine callK_pure (fun hc => hadd) r2 ?_; simp only [upds, eq_self, true_or, true_and])) | refine v_end ?_ | refine v_endD (by kernel_rfl) ?_ | (refine hK _ _ ?_; clear hK K) | refine ⟨by (first | trivial | assumption | omega | (intros; first | assumption | omega)), ?_⟩ | (apply v_condb; (focus (simp only [pvT, pvG, ite_bool, ints_length, hA, w1, w2, w3, u1, u2, u3, u4, u5, hfx, hfh, hput, rats_length, go_sem]; first | exact pvt | exact pvf)); simp only [cond_true, cond_false]) | fail))
                    refine v_round (j + 1) hcj (by omega) (fits_sto _ id (by simp [Env.get, PV.renL, PV.ren , pvT, pvG, hsucc, renL_rats, refsL_rats, renL_ints, refsL_ints, ren_am, refs_am1, refs_am2]) (by simp [PV.refsL, PV.refs , pvT, pvG, hsucc, renL_rats, refsL_rats, renL_ints, refsL_ints, ren_am, refs_am1, refs_am2]) (by simp [SC.live, SC.ren, SC.refs, PV.renL, PV.ren, PV.refsL, PV.refs, sto_cons, sto_nil , pvT, pvG, hsucc, renL_rats, refsL_rats, renL_ints, refsL_ints, ren_am, refs_am1, refs_am2]) (by simp []))
                  | some oh =>
                    rw [Option.map_some, ← pvO_some, pvO] at hfh
                    (repeat (first | refine Stp.go ?_ | refine v_region ?_ | refine v_regionD ?_ | refine v_blocky (by decide) ?_ | ((first | refine v_o rfl ?_ ?_ | refine v_oD rfl ?_ ?_); (focus (simp only [pvT, pvG, ite_bool, ints_length, hA, w1, w2, w3, u1, u2, u3, u4, u5, hfx, hfh, hput, rats_length, go_sem]; done)); simp only [Env.put]) | ((first | refine v_u rfl fun K hK => ?_ | refine v_g rfl fun K hK => ?_ | refine v_uD rfl fun K hK => ?_ | refine v_gD rfl fun K hK => ?_); simp only [pvT, pvG, ite_bool, ints_length, hA, w1, w2, w3, u1, u2, u3, u4, u5, hfx, hfh, hput, rats_length, go_sem]) | (first | (refine callK_pure (fun hc => hdiv) r1 ?_; simp only [upds, eq_self, true_or, true_and]) | (refine callK_pure (fun hc => hint) rfl ?_; simp only [upds, eq_self, true_or, true_and]) | (refine callK_pure (fun hc => hhd) rfl ?_; simp only [upds, eq_self, true_or, true_and]) | (refine callK_pure (fun hc => hadd) r2 ?_; simp only [upds, eq_self, true_or, true_and])) | refine v_end ?_ | refine v_endD (by kernel_rfl) ?_ | (refine hK _ _ ?_; clear hK K) | refine ⟨by (first | trivial | assumption | omega | (intros; first | assumption | omega)), ?_⟩ | (apply v_condb; (focus (simp only [pvT, pvG, ite_bool, ints_length, hA, w1, w2, w3, u1, u2, u3, u4, u5, hfx, hfh, hput, rats_length, go_sem]; first | exact pvt | exact pvf)); simp only [cond_true, cond_false]) | fail))
                    refine v_round (j + 1) hcj (by omega) (fits_sto _ id (by simp [Env.get, PV.renL, PV.ren , pvT, pvG, hsucc, renL_rats, refsL_rats, renL_ints, refsL_ints, ren_am, refs_am1, refs_am2]) (by simp [PV.refsL, PV.refs , pvT, pvG, hsucc, renL_rats, refsL_rats, renL_ints, refsL_ints, ren_am, refs_am1, refs_am2]) (by simp [SC.live, SC.ren, SC.refs, PV.renL, PV.ren, PV.refsL, PV.refs, sto_cons, sto_nil , pvT, pvG, hsucc, renL_rats, refsL_rats, renL_ints, refsL_ints, ren_am, refs_am1, refs_am2]) (by simp []))
              · have w1 : ¬ (j : Int) < l.length := by omega
                have hend : shJ t l.length xn l j S0 = l.foldl (shStep t l.length xn) S0 := by unfold shJ; rw [List.take_of_length_le (by omega)]
                rw [← hk1] at hend
                (repeat (first | refine Stp.go ?_ | refine v_region ?_ | refine v_regionD ?_ | refine v_blocky (by decide) ?_ | ((first | refine v_o rfl ?_ ?_ | refine v_oD rfl ?_ ?_); (focus (simp only [pvT, pvG, ite_bool, ints_length, w1, z3, go_sem]; done)); simp only [Env.put]) | ((first | refine v_u rfl fun K hK => ?_ | refine v_g rfl fun K hK => ?_ | refine v_uD rfl fun K hK => ?_ | refine v_gD rfl fun K hK => ?_); simp only [pvT, pvG, ite_bool, ints_length, w1, z3, go_sem]) | (refine v_loopx ?_) | refine v_end ?_ | refine v_endD (by kernel_rfl) ?_ | (refine hK _ _ ?_; clear hK K) | refine ⟨by (first | trivial | assumption | omega | (intros; first | assumption | omega)), ?_⟩ | (apply v_condb; (focus (simp only [pvT, pvG, ite_bool, ints_length, w1, z3, go_sem]; first | exact pvt | exact pvf)); simp only [cond_true, cond_false]) | fail))
                refine v_round (k + 1) hc (by omega) (fits_sto _ id (by simp [Env.get, PV.renL, PV.ren , pvT, pvG, hend, renL_rats, refsL_rats, renL_ints, refsL_ints, ren_am, refs_am1, refs_am2]) (by simp [PV.refsL, PV.refs , pvT, pvG, hend, renL_rats, refsL_rats, renL_ints, refsL_ints, ren_am, refs_am1, refs_am2]) (by simp [SC.live, SC.ren, SC.refs, PV.renL, PV.ren, PV.refsL, PV.refs, sto_cons, sto_nil , pvT, pvG, hend, renL_rats, refsL_rats, renL_ints, refsL_ints, ren_am, refs_am1, refs_am2]) (by simp []))
          · have z1 : ¬ (k : Int) < ord.length := by omega
            have hsl := shL_len t down dist sn d (ord.take k)
            rw [List.take_of_length_le (by omega)] at hsl ⊢
            generalize shL t down dist sn d ord = S0 at *
            (repeat (first | refine Stp.go ?_ | refine v_region ?_ | refine v_regionD ?_ | refine v_blocky (by decide) ?_ | ((first | refine v_o rfl ?_ ?_ | refine v_oD rfl ?_ ?_); (focus (simp only [pvT, pvG, ite_bool, ints_length, z1, go_sem]; done)); simp only [Env.put]) | ((first | refine v_u rfl fun K hK => ?_ | refine v_g rfl fun K hK => ?_ | refine v_uD rfl fun K hK => ?_ | refine v_gD rfl fun K hK => ?_); simp only [pvT, pvG, ite_bool, ints_length, z1, go_sem]) | (refine v_loopx ?_) | refine v_end ?_ | refine v_endD (by kernel_rfl) ?_ | (refine hK _ _ ?_; clear hK K) | refine ⟨by (first | trivial | assumption | omega | (intros; first | assumption | omega)), ?_⟩ | (apply v_condb; (focus (simp only [pvT, pvG, ite_bool, ints_length, z1, go_sem]; first | exact pvt | exact pvf)); simp only [cond_true, cond_false]) | fail))
            (first | refine v_fin_n ?_ | refine v_fin_r ?_); simp only [ resK, one, PV.snap, go_sem]
            refine Wk.two (wk_eq ?_) (.refl _)
            simp [sto_cons, rats_length, List.take_of_length_le, snap_rats, hsl, hM]
    · rw [if_neg c1] at hs ⊢
      (repeat (first | refine Stp.go ?_ | refine v_region ?_ | refine v_regionD ?_ | refine v_blocky (by decide) ?_ | ((first | refine v_o rfl ?_ ?_ | refine v_oD rfl ?_ ?_); (focus (simp only [pvT, pvG0, ite_bool,  go_sem]; done)); simp only [Env.put]) | ((first | refine v_u rfl fun K hK => ?_ | refine v_g rfl fun K hK => ?_ | refine v_uD rfl fun K hK => ?_ | refine v_gD rfl fun K hK => ?_); simp only [pvT, pvG0, ite_bool,  go_sem]) | ((refine callK_pure (fun hc => hs) rfl ?_; simp only [upds, eq_self, true_or, true_and])) | refine v_end ?_ | refine v_endD (by kernel_rfl) ?_ | (refine hK _ _ ?_; clear hK K) | refine ⟨by (first | trivial | assumption | omega | (intros; first | assumption | omega)), ?_⟩ | (apply v_condb; (focus (simp only [pvT, pvG0, ite_bool,  go_sem]; first | exact pvt | exact pvf)); simp only [cond_true, cond_false]) | fail))
      (first | refine v_fin_n ?_ | refine v_fin_r ?_); simp only [ resK, one, PV.snap, go_sem]
      exact Wk.two (Wk.nil 3) (.refl _)
  · rw [if_neg (by omega), h2] at hs
    rw [if_neg (by omega), h2]
    have c1 : ¬ e = 0 := by omega
    (repeat (first | refine Stp.go ?_ | refine v_region ?_ | refine v_regionD ?_ | refine v_blocky (by decide) ?_ | ((first | refine v_o rfl ?_ ?_ | refine v_oD rfl ?_ ?_); (focus (simp only [pvT, pvG0, ite_bool, c1, go_sem]; done)); simp only [Env.put]) | ((first | refine v_u rfl fun K hK => ?_ | refine v_g rfl fun K hK => ?_ | refine v_uD rfl fun K hK => ?_ | refine v_gD rfl fun K hK => ?_); simp only [pvT, pvG0, ite_bool, c1, go_sem]) | ((refine callK_pure (fun hc => hs) rfl ?_; simp only [upds, eq_self, true_or, true_and])) | refine v_end ?_ | refine v_endD (by kernel_rfl) ?_ | (refine hK _ _ ?_; clear hK K) | refine ⟨by (first | trivial | assumption | omega | (intros; first | assumption | omega)), ?_⟩ | (apply v_condb; (focus (simp only [pvT, pvG0, ite_bool, c1, go_sem]; first | exact pvt | exact pvf)); simp only [cond_true, cond_false]) | fail))
    (first | refine v_fin_n ?_ | refine v_fin_r ?_); simp only [ resK, one, PV.snap, go_sem]
    exact Wk.two (Wk.nil 3) (.refl _)
end Go.V
