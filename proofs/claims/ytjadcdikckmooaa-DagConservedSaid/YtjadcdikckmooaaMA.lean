import Derived.Test.YtjadcdikckmooaaM5
import Derived.Test.YtjadcdikckmooaaMB
/- A part of a proof, with no condition of its own. Merged texts: A0 B1 A1 A2 A3 A4 A5 A6 A7 C1 C2. -/
/- The data of the topologies, as pure values. -/
set_option linter.unusedVariables false
set_option linter.unusedSimpArgs false
namespace Go.V
open Go.RowKit Go.Proofs

structure Lnk where
  a : Int
  b : Int
  c0 : Int
  c1 : Int
  cap : Int
  dl : Int
  gr : Int
  deriving Inhabited, DecidableEq

structure Topo where
  n : Int
  ov : List Bool
  ls : List Lnk
  deriving Inhabited

def pvL (l : Lnk) : PV := .agg [.int .i64 l.a, .int .i64 l.b, .int .i64 l.c0, .int .i64 l.c1, .int .i64 l.cap, .int .i64 l.dl, .int .i64 l.gr]
def pvT (t : Topo) : PV := .agg [.int .i64 t.n, .slc 1 (bools t.ov), .slc 7 (t.ls.map pvL)]

def Lnk.ok (l : Lnk) (n : Int) : Bool :=
  (decide (0 ≤ l.a) && decide (l.a ≤ n - 1)) && (decide (0 ≤ l.b) && decide (l.b ≤ n - 1)) && !decide (l.a = l.b) && (decide (1 ≤ l.c0) && decide (l.c0 ≤ 65535)) && (decide (1 ≤ l.c1) && decide (l.c1 ≤ 65535)) &&
    (decide (0 ≤ l.cap) && decide (l.cap ≤ 1048576)) && (decide (1 ≤ l.dl) && decide (l.dl ≤ 65536)) && (decide (0 ≤ l.gr) && decide (l.gr ≤ 64))

def Topo.frame (t : Topo) : Bool := decide (1 ≤ t.n) && decide (t.n ≤ 64) && (decide (t.ov.length = 0) || decide ((t.ov.length : Int) = t.n)) && decide (t.ls.length ≤ 256)
def Topo.ok (t : Topo) : Bool := t.frame && t.ls.all (·.ok t.n)

theorem links_get {ls : List Lnk} {j : Nat} (h : j < ls.length) : (ls.map pvL).getD j .undef = pvL (ls.getD j default) := by
  simp [List.getD, h]

def Topo.link (t : Topo) (a : Int) : Lnk := t.ls.getD (a / 2).toNat default
def Topo.tail (t : Topo) (a : Int) : Int := if a % 2 = 0 then (t.link a).a else (t.link a).b
def Topo.head (t : Topo) (a : Int) : Int := if a % 2 = 0 then (t.link a).b else (t.link a).a
def Topo.cost (t : Topo) (a : Int) : Int := if a % 2 = 0 then (t.link a).c0 else (t.link a).c1
def Topo.over (t : Topo) (n : Int) : Bool := decide (0 ≤ n) && t.ov.getD n.toNat false
/-- An arc of the topology. -/
def Topo.arc (t : Topo) (a : Int) : Prop := 0 ≤ a ∧ a < 2 * t.ls.length
def upB (down : List Bool) (a : Int) : Bool := decide (down.length = 0) || !down.getD a.toNat false
def maskOk (t : Topo) (down : List Bool) : Bool := t.ok && (decide (down.length = 0) || decide (down.length = 2 * t.ls.length))

theorem Topo.frame_n {t : Topo} (h : t.frame = true) : 1 ≤ t.n ∧ t.n ≤ 64 ∧ (t.ov.length = 0 ∨ (t.ov.length : Int) = t.n) ∧ t.ls.length ≤ 256 := by
  simpa [Topo.frame, and_assoc] using h
theorem Topo.ok_frame {t : Topo} (h : t.ok = true) : t.frame = true := by
  simp only [Topo.ok, Bool.and_eq_true] at h; exact h.1
theorem Topo.ok_link {t : Topo} (h : t.ok = true) {l : Lnk} (hl : l ∈ t.ls) : l.ok t.n = true := by
  simp only [Topo.ok, Bool.and_eq_true, List.all_eq_true] at h; exact h.2 l hl
theorem Topo.arc_lt {t : Topo} {a : Int} (h : t.arc a) : (a / 2).toNat < t.ls.length := by
  obtain ⟨h1, h2⟩ := h; omega
theorem Topo.link_mem {t : Topo} {a : Int} (h : t.arc a) : t.link a ∈ t.ls := by
  have := t.arc_lt h
  simp [Topo.link, List.getD, this]
end Go.V
/- slices.Backward: its contract. -/
set_option linter.unusedVariables false
set_option linter.unusedSimpArgs false
namespace Go.V
open Go.RowKit Go.Proofs
attribute [local irreducible] wp seqK lexK opK callK upd sto Good GoodR

theorem backward_goodR (l : List Int) : GoodR Try.prog 59 [.slc 1 (ints l)] (sto []) fun p g => p = .fn 79 [] [.ptr 101 1 0 0] ∧ g = sto [(101, .row 29 1 [.slc 1 (ints l)])] := by
  refine v_enterR ttok mixed Try.func59 (by kernel_rfl) rfl Try.ntmps59 Try.results59 (by simp) ?_; simp only [argEnv, List.range, List.range.loop, List.length_cons, List.length_nil, List.zip_cons_cons, List.zip_nil_left]
  (repeat (first | refine Stp.go ?_ | refine v_region ?_ | refine v_regionD ?_ | refine v_blocky (by decide) ?_ | ((first | refine v_o rfl ?_ ?_ | refine v_oD rfl ?_ ?_); (focus (simp only [ go_sem]; done)); simp only [Env.put]) | ((first | refine v_u rfl fun K hK => ?_ | refine v_g rfl fun K hK => ?_ | refine v_uD rfl fun K hK => ?_ | refine v_gD rfl fun K hK => ?_); simp only [ go_sem]) | (fail) | refine v_end ?_ | refine v_endD (by kernel_rfl) ?_ | (refine hK _ _ ?_; clear hK K) | refine ⟨by (first | trivial | assumption | omega | (intros; first | assumption | omega)), ?_⟩ | (apply v_condb; (focus (simp only [ go_sem]; first | exact pvt | exact pvf)); simp only [cond_true, cond_false]) | fail))
  (first | refine v_finR_n ?_ | refine v_finR_r ?_); simp only [ resK, go_sem]
  refine finR_sto ((fun x => if x = 101 then 1000 else x)) (.fn 79 [] [.ptr 101 1 0 0]) ([(101, .row 29 1 [.slc 1 (ints l)])]) (⟨rfl, rfl⟩) (by simp [one, PV.ren, PV.renL ]) (by simp [PV.refs, PV.refsL ]) (by simp [SC.live, SC.ren, SC.refs, PV.renL, PV.ren, PV.refsL, PV.refs, sto_cons, sto_nil, renL_ints, refsL_ints, renL_nats, refsL_nats, List.length_set ]) (by simp )
theorem backward_good (l : List Int) : GoodF Try.prog 59 [.slc 1 (ints l)] (fun id => .fn 79 [] [.ptr id 1 0 0]) 29 1 [.slc 1 (ints l)] :=
  goodF_of_R (backward_goodR l) (by simp [PV.refsL, PV.refs]) (fun id => by simp [PV.ren, PV.renL]) (fun id h => by simpa [PV.refs, PV.refsL] using h)
end Go.V
/- Layer 9: which topologies are valid. -/
set_option linter.unusedVariables false
set_option linter.unusedSimpArgs false
namespace Go.V
open Go.RowKit Go.Proofs
attribute [local irreducible] wp seqK lexK opK callK upd sto Good

theorem inside_good (n lo hi : Int) : Good Try.prog 99 [.int .i64 n, .int .i64 lo, .int .i64 hi] (.bool (decide (lo ≤ n) && decide (n ≤ hi))) := by
  refine v_enter ttok mixed Try.func99 (by kernel_rfl) rfl Try.ntmps99 Try.results99 (by simp) ?_; rw [fresh_sto]; simp only [argEnv, List.range, List.range.loop, List.length_cons, List.length_nil, List.zip_cons_cons, List.zip_nil_left]
  (repeat (first | refine Stp.go ?_ | refine v_region ?_ | refine v_regionD ?_ | refine v_blocky (by decide) ?_ | ((first | refine v_o rfl ?_ ?_ | refine v_oD rfl ?_ ?_); (focus (simp only [ go_sem]; done)); simp only [Env.put]) | ((first | refine v_u rfl fun K hK => ?_ | refine v_g rfl fun K hK => ?_ | refine v_uD rfl fun K hK => ?_ | refine v_gD rfl fun K hK => ?_); simp only [ go_sem]) | (fail) | refine v_end ?_ | refine v_endD (by kernel_rfl) ?_ | (refine hK _ _ ?_; clear hK K) | refine ⟨by (first | trivial | assumption | omega | (intros; first | assumption | omega)), ?_⟩ | (apply v_condb; (focus (simp only [ go_sem]; first | exact pvt | exact pvf)); simp only [cond_true, cond_false]) | fail))
  (first | refine v_fin_n ?_ | refine v_fin_r ?_); simp only [ resK, one, PV.snap, go_sem]
  refine wk_bool ?_
  by_cases h : lo ≤ n <;> simp [h]

theorem proper_good (l : Lnk) (n : Int) (hn : 1 ≤ n) (hn' : n ≤ 64) : Good Try.prog 100 [pvL l, .int .i64 n] (.bool (l.ok n)) := by
  refine v_enter ttok mixed Try.func100 (by kernel_rfl) rfl Try.ntmps100 Try.results100 (by simp) ?_; rw [fresh_sto]; simp only [argEnv, List.range, List.range.loop, List.length_cons, List.length_nil, List.zip_cons_cons, List.zip_nil_left]
  have e : IntKind.i64.wrap (n - 1) = n - 1 := wrap_i64 (by omega) (by omega)
  (repeat (first | refine Stp.go ?_ | refine v_region ?_ | refine v_regionD ?_ | refine v_blocky (by decide) ?_ | ((first | refine v_o rfl ?_ ?_ | refine v_oD rfl ?_ ?_); (focus (simp only [pvL, e, ite_bool, go_sem]; done)); simp only [Env.put]) | ((first | refine v_u rfl fun K hK => ?_ | refine v_g rfl fun K hK => ?_ | refine v_uD rfl fun K hK => ?_ | refine v_gD rfl fun K hK => ?_); simp only [pvL, e, ite_bool, go_sem]) | ((refine callK_pure (fun hc => inside_good _ _ _) rfl ?_; simp only [upds, eq_self, true_or, true_and])) | refine v_end ?_ | refine v_endD (by kernel_rfl) ?_ | (refine hK _ _ ?_; clear hK K) | refine ⟨by (first | trivial | assumption | omega | (intros; first | assumption | omega)), ?_⟩ | (apply v_condb; (focus (simp only [pvL, e, ite_bool, go_sem]; first | exact pvt | exact pvf)); simp only [cond_true, cond_false]) | fail))
  (first | refine v_fin_n ?_ | refine v_fin_r ?_); simp only [ resK, one, PV.snap, go_sem]
  refine wk_bool ?_
  simp [Lnk.ok, Bool.and_assoc]
end Go.V
/- Layer 9: which topologies are valid. -/
set_option linter.unusedVariables false
set_option linter.unusedSimpArgs false
namespace Go.V
open Go.RowKit Go.Proofs
attribute [local irreducible] wp seqK lexK opK callK upd sto Good

theorem valid_good (t : Topo) : Good Try.prog 84 [pvT t] (.bool t.ok) := by
  refine v_enter ttok mixed Try.func84 (by kernel_rfl) rfl Try.ntmps84 Try.results84 (by simp) ?_; rw [fresh_sto]; simp only [argEnv, List.range, List.range.loop, List.length_cons, List.length_nil, List.zip_cons_cons, List.zip_nil_left]
  (repeat (first | refine Stp.go ?_ | refine v_region ?_ | refine v_regionD ?_ | refine v_blocky (by decide) ?_ | ((first | refine v_o rfl ?_ ?_ | refine v_oD rfl ?_ ?_); (focus (simp only [pvT, ite_bool, bools_length, List.length_map, go_sem]; done)); simp only [Env.put]) | ((first | refine v_u rfl fun K hK => ?_ | refine v_g rfl fun K hK => ?_ | refine v_uD rfl fun K hK => ?_ | refine v_gD rfl fun K hK => ?_); simp only [pvT, ite_bool, bools_length, List.length_map, go_sem]) | ((refine callK_pure (fun hc => inside_good _ _ _) rfl ?_; simp only [upds, eq_self, true_or, true_and])) | refine v_end ?_ | refine v_endD (by kernel_rfl) ?_ | (refine hK _ _ ?_; clear hK K) | refine ⟨by (first | trivial | assumption | omega | (intros; first | assumption | omega)), ?_⟩ | (apply v_condb; (focus (simp only [pvT, ite_bool, bools_length, List.length_map, go_sem]; first | exact pvt | exact pvf)); simp only [cond_true, cond_false]) | fail))
  refine v_cond rfl (fun hc => ?_) (fun hc => ?_)
  · (repeat (first | refine Stp.go ?_ | refine v_region ?_ | refine v_regionD ?_ | refine v_blocky (by decide) ?_ | ((first | refine v_o rfl ?_ ?_ | refine v_oD rfl ?_ ?_); (focus (simp only [pvT, go_sem]; done)); simp only [Env.put]) | ((first | refine v_u rfl fun K hK => ?_ | refine v_g rfl fun K hK => ?_ | refine v_uD rfl fun K hK => ?_ | refine v_gD rfl fun K hK => ?_); simp only [pvT, go_sem]) | (fail) | refine v_end ?_ | refine v_endD (by kernel_rfl) ?_ | (refine hK _ _ ?_; clear hK K) | refine ⟨by (first | trivial | assumption | omega | (intros; first | assumption | omega)), ?_⟩ | (apply v_condb; (focus (simp only [pvT, go_sem]; first | exact pvt | exact pvf)); simp only [cond_true, cond_false]) | fail))
    (first | refine v_fin_n ?_ | refine v_fin_r ?_); simp only [ resK, one, PV.snap, go_sem]
    refine wk_bool ?_
    have : t.frame = false := by
      by_cases h1 : 1 ≤ t.n <;> by_cases h2 : t.n ≤ 64 <;> by_cases h3 : t.ov.length = 0 <;> by_cases h4 : (t.ov.length : Int) = t.n <;> by_cases h5 : t.ls.length ≤ 256 <;> simp_all [Topo.frame] <;> omega
    simp [Topo.ok, this]
  · have hf : t.frame = true := by
      by_cases h1 : 1 ≤ t.n <;> by_cases h2 : t.n ≤ 64 <;> by_cases h3 : t.ov.length = 0 <;> by_cases h4 : (t.ov.length : Int) = t.n <;> by_cases h5 : t.ls.length ≤ 256 <;> simp_all [Topo.frame] <;> omega
    obtain ⟨h1, h2, h3, h4⟩ := Topo.frame_n hf
    clear hc
    (repeat (first | refine Stp.go ?_ | refine v_region ?_ | refine v_regionD ?_ | refine v_blocky (by decide) ?_ | ((first | refine v_o rfl ?_ ?_ | refine v_oD rfl ?_ ?_); (focus (simp only [pvT, ite_bool, bools_length, List.length_map, go_sem]; done)); simp only [Env.put]) | ((first | refine v_u rfl fun K hK => ?_ | refine v_g rfl fun K hK => ?_ | refine v_uD rfl fun K hK => ?_ | refine v_gD rfl fun K hK => ?_); simp only [pvT, ite_bool, bools_length, List.length_map, go_sem]) | (fail) | refine v_end ?_ | refine v_endD (by kernel_rfl) ?_ | (refine hK _ _ ?_; clear hK K) | refine ⟨by (first | trivial | assumption | omega | (intros; first | assumption | omega)), ?_⟩ | (apply v_condb; (focus (simp only [pvT, ite_bool, bools_length, List.length_map, go_sem]; first | exact pvt | exact pvf)); simp only [cond_true, cond_false]) | fail))
    refine v_loop [1, 30, 31, 32] (fun k : Nat => k ≤ t.ls.length ∧ (t.ls.take k).all (·.ok t.n) = true) (fun k => t.ls.length - k)
      (fun k => [.ptr 1000 3 0 0, .slc 7 (t.ls.map pvL), .int .i64 t.ls.length, .int .i64 k]) (fun k => [(1000, .row 25 3 [pvT t])]) 0 ?_ ?_ ?_
    · simp
    · exact (fits_sto _ id (by simp [Env.get, PV.renL, PV.ren , pvT]) (by simp [PV.refsL, PV.refs , pvT]) (by simp [SC.live, SC.ren, SC.refs, PV.renL, PV.ren, PV.refsL, PV.refs, sto_cons, sto_nil , pvT]) (by simp ))
    · rintro k ⟨hk, hall⟩
      simp only [List.zip_cons_cons, List.zip_nil_left]
      (repeat (first | refine Stp.go ?_ | refine v_region ?_ | refine v_regionD ?_ | refine v_blocky (by decide) ?_ | ((first | refine v_o rfl ?_ ?_ | refine v_oD rfl ?_ ?_); (focus (simp only [pvT, ite_bool, bools_length, List.length_map, go_sem]; done)); simp only [Env.put]) | ((first | refine v_u rfl fun K hK => ?_ | refine v_g rfl fun K hK => ?_ | refine v_uD rfl fun K hK => ?_ | refine v_gD rfl fun K hK => ?_); simp only [pvT, ite_bool, bools_length, List.length_map, go_sem]) | (fail) | refine v_end ?_ | refine v_endD (by kernel_rfl) ?_ | (refine hK _ _ ?_; clear hK K) | refine ⟨by (first | trivial | assumption | omega | (intros; first | assumption | omega)), ?_⟩ | (apply v_condb; (focus (simp only [pvT, ite_bool, bools_length, List.length_map, go_sem]; first | exact pvt | exact pvf)); simp only [cond_true, cond_false]) | fail))
      refine v_cond rfl (fun hc => ?_) (fun hc => ?_)
      · have hk : k < t.ls.length := by simpa using hc
        have e : (t.ls.map pvL).getD k .undef = pvL (t.ls.getD k default) := links_get hk
        have hl : t.ls.getD k default ∈ t.ls := by simp [List.getD, hk]
        generalize e0 : t.ls.getD k default = l at *
        (repeat (first | refine Stp.go ?_ | refine v_region ?_ | refine v_regionD ?_ | refine v_blocky (by decide) ?_ | ((first | refine v_o rfl ?_ ?_ | refine v_oD rfl ?_ ?_); (focus (simp only [pvT, ite_bool, bools_length, List.length_map, e, pvL, go_sem]; done)); simp only [Env.put]) | ((first | refine v_u rfl fun K hK => ?_ | refine v_g rfl fun K hK => ?_ | refine v_uD rfl fun K hK => ?_ | refine v_gD rfl fun K hK => ?_); simp only [pvT, ite_bool, bools_length, List.length_map, e, pvL, go_sem]) | ((refine callK_pure (fun hc => proper_good l t.n h1 h2) rfl ?_; simp only [upds, eq_self, true_or, true_and])) | refine v_end ?_ | refine v_endD (by kernel_rfl) ?_ | (refine hK _ _ ?_; clear hK K) | refine ⟨by (first | trivial | assumption | omega | (intros; first | assumption | omega)), ?_⟩ | (apply v_condb; (focus (simp only [pvT, ite_bool, bools_length, List.length_map, e, pvL, go_sem]; first | exact pvt | exact pvf)); simp only [cond_true, cond_false]) | fail))
        refine v_cond rfl (fun hc' => ?_) (fun hc' => ?_)
        · (repeat (first | refine Stp.go ?_ | refine v_region ?_ | refine v_regionD ?_ | refine v_blocky (by decide) ?_ | ((first | refine v_o rfl ?_ ?_ | refine v_oD rfl ?_ ?_); (focus (simp only [ go_sem]; done)); simp only [Env.put]) | ((first | refine v_u rfl fun K hK => ?_ | refine v_g rfl fun K hK => ?_ | refine v_uD rfl fun K hK => ?_ | refine v_gD rfl fun K hK => ?_); simp only [ go_sem]) | (refine v_loopr ?_) | refine v_end ?_ | refine v_endD (by kernel_rfl) ?_ | (refine hK _ _ ?_; clear hK K) | refine ⟨by (first | trivial | assumption | omega | (intros; first | assumption | omega)), ?_⟩ | (apply v_condb; (focus (simp only [ go_sem]; first | exact pvt | exact pvf)); simp only [cond_true, cond_false]) | fail))
          (first | refine v_fin_n ?_ | refine v_fin_r ?_); simp only [ resK, one, PV.snap, go_sem]
          refine wk_bool ?_
          have hl : (t.ls.all fun x => x.ok t.n) = false := by
            rw [Bool.eq_false_iff, Ne, List.all_eq_true]
            intro hx
            have := hx l hl
            simp [this] at hc'
          simp [Topo.ok, hl]
        · have e1 : IntKind.i64.wrap ((k : Int) + 1) = ((k + 1 : Nat) : Int) := by rw [wrap_i64 (by omega) (by omega)]; rfl
          (repeat (first | refine Stp.go ?_ | refine v_region ?_ | refine v_regionD ?_ | refine v_blocky (by decide) ?_ | ((first | refine v_o rfl ?_ ?_ | refine v_oD rfl ?_ ?_); (focus (simp only [e1, go_sem]; done)); simp only [Env.put]) | ((first | refine v_u rfl fun K hK => ?_ | refine v_g rfl fun K hK => ?_ | refine v_uD rfl fun K hK => ?_ | refine v_gD rfl fun K hK => ?_); simp only [e1, go_sem]) | (fail) | refine v_end ?_ | refine v_endD (by kernel_rfl) ?_ | (refine hK _ _ ?_; clear hK K) | refine ⟨by (first | trivial | assumption | omega | (intros; first | assumption | omega)), ?_⟩ | (apply v_condb; (focus (simp only [e1, go_sem]; first | exact pvt | exact pvf)); simp only [cond_true, cond_false]) | fail))
          refine v_round (k + 1) ⟨hk, ?_⟩ (by omega) (fits_sto _ id (by simp [Env.get, PV.renL, PV.ren , pvT]) (by simp [PV.refsL, PV.refs , pvT]) (by simp [SC.live, SC.ren, SC.refs, PV.renL, PV.ren, PV.refsL, PV.refs, sto_cons, sto_nil , pvT]) (by simp ))
          rw [all_take_succ _ _ _ hk, hall]
          rw [e0]; simpa using hc'
      · (repeat (first | refine Stp.go ?_ | refine v_region ?_ | refine v_regionD ?_ | refine v_blocky (by decide) ?_ | ((first | refine v_o rfl ?_ ?_ | refine v_oD rfl ?_ ?_); (focus (simp only [pvT, ite_bool, bools_length, List.length_map, go_sem]; done)); simp only [Env.put]) | ((first | refine v_u rfl fun K hK => ?_ | refine v_g rfl fun K hK => ?_ | refine v_uD rfl fun K hK => ?_ | refine v_gD rfl fun K hK => ?_); simp only [pvT, ite_bool, bools_length, List.length_map, go_sem]) | (refine v_loopx ?_) | refine v_end ?_ | refine v_endD (by kernel_rfl) ?_ | (refine hK _ _ ?_; clear hK K) | refine ⟨by (first | trivial | assumption | omega | (intros; first | assumption | omega)), ?_⟩ | (apply v_condb; (focus (simp only [pvT, ite_bool, bools_length, List.length_map, go_sem]; first | exact pvt | exact pvf)); simp only [cond_true, cond_false]) | fail))
        (first | refine v_fin_n ?_ | refine v_fin_r ?_); simp only [ resK, one, PV.snap, go_sem]
        refine wk_bool ?_
        have : k = t.ls.length := by simp at hc; omega
        subst this
        rw [List.take_length] at hall
        simp [Topo.ok, hall, hf]
end Go.V
/- Layer 9: what is asked of arcs and nodes. -/
set_option linter.unusedVariables false
set_option linter.unusedSimpArgs false
namespace Go.V
open Go.RowKit Go.Proofs
attribute [local irreducible] wp seqK lexK opK callK upd sto Good

theorem fits_good (t : Topo) (down : List Bool) : Good Try.prog 93 [pvT t, .slc 1 (bools down)] (.bool (maskOk t down)) := by
  refine v_enter ttok mixed Try.func93 (by kernel_rfl) rfl Try.ntmps93 Try.results93 (by simp) ?_; rw [fresh_sto]; simp only [argEnv, List.range, List.range.loop, List.length_cons, List.length_nil, List.zip_cons_cons, List.zip_nil_left]
  have hl : t.ok = true → t.ls.length ≤ 256 := fun h => (Topo.frame_n (Topo.ok_frame h)).2.2.2
  by_cases ht : t.ok = true
  · have e : IntKind.i64.wrap (2 * (t.ls.length : Int)) = ((2 * t.ls.length : Nat) : Int) := by have := hl ht; rw [wrap_i64 (by omega) (by omega)]; simp
    (repeat (first | refine Stp.go ?_ | refine v_region ?_ | refine v_regionD ?_ | refine v_blocky (by decide) ?_ | ((first | refine v_o rfl ?_ ?_ | refine v_oD rfl ?_ ?_); (focus (simp only [pvT, ite_bool, bools_length, List.length_map, ht, e, go_sem]; done)); simp only [Env.put]) | ((first | refine v_u rfl fun K hK => ?_ | refine v_g rfl fun K hK => ?_ | refine v_uD rfl fun K hK => ?_ | refine v_gD rfl fun K hK => ?_); simp only [pvT, ite_bool, bools_length, List.length_map, ht, e, go_sem]) | ((refine callK_pure (fun hc => valid_good t) rfl ?_; simp only [upds, eq_self, true_or, true_and])) | refine v_end ?_ | refine v_endD (by kernel_rfl) ?_ | (refine hK _ _ ?_; clear hK K) | refine ⟨by (first | trivial | assumption | omega | (intros; first | assumption | omega)), ?_⟩ | (apply v_condb; (focus (simp only [pvT, ite_bool, bools_length, List.length_map, ht, e, go_sem]; first | exact pvt | exact pvf)); simp only [cond_true, cond_false]) | fail))
    (first | refine v_fin_n ?_ | refine v_fin_r ?_); simp only [ resK, one, PV.snap, go_sem]
    refine wk_bool ?_
    by_cases h : down.length = 0 <;> simp [maskOk, ht, h]
    omega
  · have ht' : t.ok = false := by simpa using ht
    (repeat (first | refine Stp.go ?_ | refine v_region ?_ | refine v_regionD ?_ | refine v_blocky (by decide) ?_ | ((first | refine v_o rfl ?_ ?_ | refine v_oD rfl ?_ ?_); (focus (simp only [pvT, ite_bool, bools_length, List.length_map, ht', go_sem]; done)); simp only [Env.put]) | ((first | refine v_u rfl fun K hK => ?_ | refine v_g rfl fun K hK => ?_ | refine v_uD rfl fun K hK => ?_ | refine v_gD rfl fun K hK => ?_); simp only [pvT, ite_bool, bools_length, List.length_map, ht', go_sem]) | ((refine callK_pure (fun hc => valid_good t) rfl ?_; simp only [upds, eq_self, true_or, true_and])) | refine v_end ?_ | refine v_endD (by kernel_rfl) ?_ | (refine hK _ _ ?_; clear hK K) | refine ⟨by (first | trivial | assumption | omega | (intros; first | assumption | omega)), ?_⟩ | (apply v_condb; (focus (simp only [pvT, ite_bool, bools_length, List.length_map, ht', go_sem]; first | exact pvt | exact pvf)); simp only [cond_true, cond_false]) | fail))
    (first | refine v_fin_n ?_ | refine v_fin_r ?_); simp only [ resK, one, PV.snap, go_sem]
    refine wk_bool ?_
    simp [maskOk, ht']

theorem over_good (t : Topo) (n : Int) (ht : t.ok = true) : Good Try.prog 64 [pvT t, .int .i64 n] (.bool (t.over n)) := by
  refine v_enter ttok mixed Try.func64 (by kernel_rfl) rfl Try.ntmps64 Try.results64 (by simp) ?_; rw [fresh_sto]; simp only [argEnv, List.range, List.range.loop, List.length_cons, List.length_nil, List.zip_cons_cons, List.zip_nil_left]
  by_cases h1 : 0 ≤ n
  · by_cases h2 : n < t.ov.length
    · have e : (bools t.ov).getD n.toNat .undef = .bool (t.ov.getD n.toNat false) := bools_get (by omega)
      (repeat (first | refine Stp.go ?_ | refine v_region ?_ | refine v_regionD ?_ | refine v_blocky (by decide) ?_ | ((first | refine v_o rfl ?_ ?_ | refine v_oD rfl ?_ ?_); (focus (simp only [pvT, ite_bool, bools_length, h1, h2, e, ht,  go_sem]; done)); simp only [Env.put]) | ((first | refine v_u rfl fun K hK => ?_ | refine v_g rfl fun K hK => ?_ | refine v_uD rfl fun K hK => ?_ | refine v_gD rfl fun K hK => ?_); simp only [pvT, ite_bool, bools_length, h1, h2, e, ht,  go_sem]) | ((refine callK_pure (fun hc => valid_good t) rfl ?_; simp only [upds, eq_self, true_or, true_and])) | refine v_end ?_ | refine v_endD (by kernel_rfl) ?_ | (refine hK _ _ ?_; clear hK K) | refine ⟨by (first | trivial | assumption | omega | (intros; first | assumption | omega)), ?_⟩ | (apply v_condb; (focus (simp only [pvT, ite_bool, bools_length, h1, h2, e, ht,  go_sem]; first | exact pvt | exact pvf)); simp only [cond_true, cond_false]) | fail))
      (first | refine v_fin_n ?_ | refine v_fin_r ?_); simp only [ resK, one, PV.snap, go_sem]
      refine wk_bool ?_
      simp [Topo.over, h1]
    · (repeat (first | refine Stp.go ?_ | refine v_region ?_ | refine v_regionD ?_ | refine v_blocky (by decide) ?_ | ((first | refine v_o rfl ?_ ?_ | refine v_oD rfl ?_ ?_); (focus (simp only [pvT, ite_bool, bools_length, h1, h2,  go_sem]; done)); simp only [Env.put]) | ((first | refine v_u rfl fun K hK => ?_ | refine v_g rfl fun K hK => ?_ | refine v_uD rfl fun K hK => ?_ | refine v_gD rfl fun K hK => ?_); simp only [pvT, ite_bool, bools_length, h1, h2,  go_sem]) | ((refine callK_pure (fun hc => valid_good t) rfl ?_; simp only [upds, eq_self, true_or, true_and])) | refine v_end ?_ | refine v_endD (by kernel_rfl) ?_ | (refine hK _ _ ?_; clear hK K) | refine ⟨by (first | trivial | assumption | omega | (intros; first | assumption | omega)), ?_⟩ | (apply v_condb; (focus (simp only [pvT, ite_bool, bools_length, h1, h2,  go_sem]; first | exact pvt | exact pvf)); simp only [cond_true, cond_false]) | fail))
      (first | refine v_fin_n ?_ | refine v_fin_r ?_); simp only [ resK, one, PV.snap, go_sem]
      refine wk_bool ?_
      have : t.ov.length ≤ n.toNat := by omega
      simp [Topo.over, this]
  · (repeat (first | refine Stp.go ?_ | refine v_region ?_ | refine v_regionD ?_ | refine v_blocky (by decide) ?_ | ((first | refine v_o rfl ?_ ?_ | refine v_oD rfl ?_ ?_); (focus (simp only [pvT, ite_bool, bools_length, h1,  go_sem]; done)); simp only [Env.put]) | ((first | refine v_u rfl fun K hK => ?_ | refine v_g rfl fun K hK => ?_ | refine v_uD rfl fun K hK => ?_ | refine v_gD rfl fun K hK => ?_); simp only [pvT, ite_bool, bools_length, h1,  go_sem]) | ((refine callK_pure (fun hc => valid_good t) rfl ?_; simp only [upds, eq_self, true_or, true_and])) | refine v_end ?_ | refine v_endD (by kernel_rfl) ?_ | (refine hK _ _ ?_; clear hK K) | refine ⟨by (first | trivial | assumption | omega | (intros; first | assumption | omega)), ?_⟩ | (apply v_condb; (focus (simp only [pvT, ite_bool, bools_length, h1,  go_sem]; first | exact pvt | exact pvf)); simp only [cond_true, cond_false]) | fail))
    (first | refine v_fin_n ?_ | refine v_fin_r ?_); simp only [ resK, one, PV.snap, go_sem]
    refine wk_bool ?_
    simp [Topo.over, h1]

theorem arcs_good (t : Topo) (ht : t.ok = true) : Good Try.prog 87 [pvT t] (.int .i64 (2 * t.ls.length : Nat)) := by
  refine v_enter ttok mixed Try.func87 (by kernel_rfl) rfl Try.ntmps87 Try.results87 (by simp) ?_; rw [fresh_sto]; simp only [argEnv, List.range, List.range.loop, List.length_cons, List.length_nil, List.zip_cons_cons, List.zip_nil_left]
  have hl := (Topo.frame_n (Topo.ok_frame ht)).2.2.2
  have e : IntKind.i64.wrap (2 * (t.ls.length : Int)) = ((2 * t.ls.length : Nat) : Int) := by rw [wrap_i64 (by omega) (by omega)]; simp
  (repeat (first | refine Stp.go ?_ | refine v_region ?_ | refine v_regionD ?_ | refine v_blocky (by decide) ?_ | ((first | refine v_o rfl ?_ ?_ | refine v_oD rfl ?_ ?_); (focus (simp only [pvT, ite_bool, bools_length, List.length_map, ht, e, go_sem]; done)); simp only [Env.put]) | ((first | refine v_u rfl fun K hK => ?_ | refine v_g rfl fun K hK => ?_ | refine v_uD rfl fun K hK => ?_ | refine v_gD rfl fun K hK => ?_); simp only [pvT, ite_bool, bools_length, List.length_map, ht, e, go_sem]) | ((refine callK_pure (fun hc => valid_good t) rfl ?_; simp only [upds, eq_self, true_or, true_and])) | refine v_end ?_ | refine v_endD (by kernel_rfl) ?_ | (refine hK _ _ ?_; clear hK K) | refine ⟨by (first | trivial | assumption | omega | (intros; first | assumption | omega)), ?_⟩ | (apply v_condb; (focus (simp only [pvT, ite_bool, bools_length, List.length_map, ht, e, go_sem]; first | exact pvt | exact pvf)); simp only [cond_true, cond_false]) | fail))
  (first | refine v_fin_n ?_ | refine v_fin_r ?_); simp only [ resK, one, PV.snap, go_sem]
  exact .refl _

theorem ends_good (t : Topo) (a : Int) (ht : t.ok = true) (ha : t.arc a) : Good Try.prog 71 [pvT t, .int .i64 a] (.tup [.int .i64 (t.tail a), .int .i64 (t.head a), .int .i64 (t.cost a)]) := by
  refine v_enter ttok mixed Try.func71 (by kernel_rfl) rfl Try.ntmps71 Try.results71 (by simp) ?_; rw [fresh_sto]; simp only [argEnv, List.range, List.range.loop, List.length_cons, List.length_nil, List.zip_cons_cons, List.zip_nil_left]
  have hl := (Topo.frame_n (Topo.ok_frame ht)).2.2.2
  have hlt := t.arc_lt ha
  obtain ⟨h1, h2⟩ := ha
  have e1 : (a < 0) = False := by simp; omega
  have e2 : (((2 * t.ls.length : Nat) : Int) ≤ a) = False := by simp; omega
  have e3 : IntKind.i64.wrap (a / 2) = a / 2 := wrap_i64 (by omega) (by omega)
  have e4 : (t.ls.map pvL).getD (a / 2).toNat .undef = pvL (t.link a) := links_get hlt
  have e5 := tdiv2 h1
  have e6 := tmod2 h1
  have v1 : 0 ≤ a / 2 ∧ a / 2 < (t.ls.length : Int) := by omega
  generalize hx : t.link a = l at *
  (repeat (first | refine Stp.go ?_ | refine v_region ?_ | refine v_regionD ?_ | refine v_blocky (by decide) ?_ | ((first | refine v_o rfl ?_ ?_ | refine v_oD rfl ?_ ?_); (focus (simp only [pvT, pvL, ite_bool, bools_length, List.length_map, e1, e2, e3, e4, e5, e6, v1, go_sem]; done)); simp only [Env.put]) | ((first | refine v_u rfl fun K hK => ?_ | refine v_g rfl fun K hK => ?_ | refine v_uD rfl fun K hK => ?_ | refine v_gD rfl fun K hK => ?_); simp only [pvT, pvL, ite_bool, bools_length, List.length_map, e1, e2, e3, e4, e5, e6, v1, go_sem]) | ((refine callK_pure (fun hc => arcs_good t ht) rfl ?_; simp only [upds, eq_self, true_or, true_and])) | refine v_end ?_ | refine v_endD (by kernel_rfl) ?_ | (refine hK _ _ ?_; clear hK K) | refine ⟨by (first | trivial | assumption | omega | (intros; first | assumption | omega)), ?_⟩ | (apply v_condb; (focus (simp only [pvT, pvL, ite_bool, bools_length, List.length_map, e1, e2, e3, e4, e5, e6, v1, go_sem]; first | exact pvt | exact pvf)); simp only [cond_true, cond_false]) | fail))
  by_cases h : a % 2 = 0
  · (repeat (first | refine Stp.go ?_ | refine v_region ?_ | refine v_regionD ?_ | refine v_blocky (by decide) ?_ | ((first | refine v_o rfl ?_ ?_ | refine v_oD rfl ?_ ?_); (focus (simp only [pvT, pvL, h, go_sem]; done)); simp only [Env.put]) | ((first | refine v_u rfl fun K hK => ?_ | refine v_g rfl fun K hK => ?_ | refine v_uD rfl fun K hK => ?_ | refine v_gD rfl fun K hK => ?_); simp only [pvT, pvL, h, go_sem]) | (fail) | refine v_end ?_ | refine v_endD (by kernel_rfl) ?_ | (refine hK _ _ ?_; clear hK K) | refine ⟨by (first | trivial | assumption | omega | (intros; first | assumption | omega)), ?_⟩ | (apply v_condb; (focus (simp only [pvT, pvL, h, go_sem]; first | exact pvt | exact pvf)); simp only [cond_true, cond_false]) | fail))
    (first | refine v_fin_n ?_ | refine v_fin_r ?_); simp only [ resK, one, PV.snap, go_sem]
    refine wk_eq ?_
    simp [Topo.tail, Topo.head, Topo.cost, h, hx]
  · (repeat (first | refine Stp.go ?_ | refine v_region ?_ | refine v_regionD ?_ | refine v_blocky (by decide) ?_ | ((first | refine v_o rfl ?_ ?_ | refine v_oD rfl ?_ ?_); (focus (simp only [pvT, pvL, h, go_sem]; done)); simp only [Env.put]) | ((first | refine v_u rfl fun K hK => ?_ | refine v_g rfl fun K hK => ?_ | refine v_uD rfl fun K hK => ?_ | refine v_gD rfl fun K hK => ?_); simp only [pvT, pvL, h, go_sem]) | (fail) | refine v_end ?_ | refine v_endD (by kernel_rfl) ?_ | (refine hK _ _ ?_; clear hK K) | refine ⟨by (first | trivial | assumption | omega | (intros; first | assumption | omega)), ?_⟩ | (apply v_condb; (focus (simp only [pvT, pvL, h, go_sem]; first | exact pvt | exact pvf)); simp only [cond_true, cond_false]) | fail))
    (first | refine v_fin_n ?_ | refine v_fin_r ?_); simp only [ resK, one, PV.snap, go_sem]
    refine wk_eq ?_
    simp [Topo.tail, Topo.head, Topo.cost, h, hx]
end Go.V
/- Layer 9: the document's answers. -/
set_option linter.unusedVariables false
set_option linter.unusedSimpArgs false
namespace Go.V
open Go.RowKit Go.Proofs
attribute [local irreducible] wp seqK lexK opK callK upd sto Good

theorem within_good (n lo hi : Int) : Good Try.prog 69 [.int .i64 n, .int .i64 lo, .int .i64 hi] (.bool (decide (lo ≤ n) && decide (n ≤ hi))) := by
  refine v_enter ttok mixed Try.func69 (by kernel_rfl) rfl Try.ntmps69 Try.results69 (by simp) ?_; rw [fresh_sto]; simp only [argEnv, List.range, List.range.loop, List.length_cons, List.length_nil, List.zip_cons_cons, List.zip_nil_left]
  (repeat (first | refine Stp.go ?_ | refine v_region ?_ | refine v_regionD ?_ | refine v_blocky (by decide) ?_ | ((first | refine v_o rfl ?_ ?_ | refine v_oD rfl ?_ ?_); (focus (simp only [ go_sem]; done)); simp only [Env.put]) | ((first | refine v_u rfl fun K hK => ?_ | refine v_g rfl fun K hK => ?_ | refine v_uD rfl fun K hK => ?_ | refine v_gD rfl fun K hK => ?_); simp only [ go_sem]) | (fail) | refine v_end ?_ | refine v_endD (by kernel_rfl) ?_ | (refine hK _ _ ?_; clear hK K) | refine ⟨by (first | trivial | assumption | omega | (intros; first | assumption | omega)), ?_⟩ | (apply v_condb; (focus (simp only [ go_sem]; first | exact pvt | exact pvf)); simp only [cond_true, cond_false]) | fail))
  (first | refine v_fin_n ?_ | refine v_fin_r ?_); simp only [ resK, one, PV.snap, go_sem]
  refine wk_bool ?_
  by_cases h : lo ≤ n <;> simp [h]

set_option maxHeartbeats 1000000 in
theorem rvalid_good (t : Topo) : Good Try.prog 42 [pvT t] (.bool t.ok) := by
  refine v_enter ttok mixed Try.func42 (by kernel_rfl) rfl Try.ntmps42 Try.results42 (by simp) ?_; rw [fresh_sto]; simp only [argEnv, List.range, List.range.loop, List.length_cons, List.length_nil, List.zip_cons_cons, List.zip_nil_left]
  (repeat (first | refine Stp.go ?_ | refine v_region ?_ | refine v_regionD ?_ | refine v_blocky (by decide) ?_ | ((first | refine v_o rfl ?_ ?_ | refine v_oD rfl ?_ ?_); (focus (simp only [pvT, ite_bool, bools_length, List.length_map, go_sem]; done)); simp only [Env.put]) | ((first | refine v_u rfl fun K hK => ?_ | refine v_g rfl fun K hK => ?_ | refine v_uD rfl fun K hK => ?_ | refine v_gD rfl fun K hK => ?_); simp only [pvT, ite_bool, bools_length, List.length_map, go_sem]) | ((refine callK_pure (fun hc => within_good _ _ _) rfl ?_; simp only [upds, eq_self, true_or, true_and])) | refine v_end ?_ | refine v_endD (by kernel_rfl) ?_ | (refine hK _ _ ?_; clear hK K) | refine ⟨by (first | trivial | assumption | omega | (intros; first | assumption | omega)), ?_⟩ | (apply v_condb; (focus (simp only [pvT, ite_bool, bools_length, List.length_map, go_sem]; first | exact pvt | exact pvf)); simp only [cond_true, cond_false]) | fail))
  refine v_cond rfl (fun hc => ?_) (fun hc => ?_)
  · (repeat (first | refine Stp.go ?_ | refine v_region ?_ | refine v_regionD ?_ | refine v_blocky (by decide) ?_ | ((first | refine v_o rfl ?_ ?_ | refine v_oD rfl ?_ ?_); (focus (simp only [pvT, go_sem]; done)); simp only [Env.put]) | ((first | refine v_u rfl fun K hK => ?_ | refine v_g rfl fun K hK => ?_ | refine v_uD rfl fun K hK => ?_ | refine v_gD rfl fun K hK => ?_); simp only [pvT, go_sem]) | (fail) | refine v_end ?_ | refine v_endD (by kernel_rfl) ?_ | (refine hK _ _ ?_; clear hK K) | refine ⟨by (first | trivial | assumption | omega | (intros; first | assumption | omega)), ?_⟩ | (apply v_condb; (focus (simp only [pvT, go_sem]; first | exact pvt | exact pvf)); simp only [cond_true, cond_false]) | fail))
    (first | refine v_fin_n ?_ | refine v_fin_r ?_); simp only [ resK, one, PV.snap, go_sem]
    refine wk_bool ?_
    have : t.frame = false := by
      by_cases h1 : 1 ≤ t.n <;> by_cases h2 : t.n ≤ 64 <;> by_cases h3 : t.ov.length = 0 <;> by_cases h4 : (t.ov.length : Int) = t.n <;> by_cases h5 : t.ls.length ≤ 256 <;> simp_all [Topo.frame] <;> omega
    simp [Topo.ok, this]
  · have hf : t.frame = true := by
      by_cases h1 : 1 ≤ t.n <;> by_cases h2 : t.n ≤ 64 <;> by_cases h3 : t.ov.length = 0 <;> by_cases h4 : (t.ov.length : Int) = t.n <;> by_cases h5 : t.ls.length ≤ 256 <;> simp_all [Topo.frame] <;> omega
    obtain ⟨h1, h2, h3, h4⟩ := Topo.frame_n hf
    clear hc
    (repeat (first | refine Stp.go ?_ | refine v_region ?_ | refine v_regionD ?_ | refine v_blocky (by decide) ?_ | ((first | refine v_o rfl ?_ ?_ | refine v_oD rfl ?_ ?_); (focus (simp only [pvT, ite_bool, bools_length, List.length_map, go_sem]; done)); simp only [Env.put]) | ((first | refine v_u rfl fun K hK => ?_ | refine v_g rfl fun K hK => ?_ | refine v_uD rfl fun K hK => ?_ | refine v_gD rfl fun K hK => ?_); simp only [pvT, ite_bool, bools_length, List.length_map, go_sem]) | (fail) | refine v_end ?_ | refine v_endD (by kernel_rfl) ?_ | (refine hK _ _ ?_; clear hK K) | refine ⟨by (first | trivial | assumption | omega | (intros; first | assumption | omega)), ?_⟩ | (apply v_condb; (focus (simp only [pvT, ite_bool, bools_length, List.length_map, go_sem]; first | exact pvt | exact pvf)); simp only [cond_true, cond_false]) | fail))
    refine v_loop [1, 3] (fun k : Nat => k ≤ t.ls.length ∧ (t.ls.take k).all (·.ok t.n) = true) (fun k => t.ls.length - k)
      (fun k => [.ptr 1000 3 0 0, .int .i64 k]) (fun k => [(1000, .row 25 3 [pvT t])]) 0 ?_ ?_ ?_
    · simp
    · exact (fits_sto _ id (by simp [Env.get, PV.renL, PV.ren , pvT]) (by simp [PV.refsL, PV.refs , pvT]) (by simp [SC.live, SC.ren, SC.refs, PV.renL, PV.ren, PV.refsL, PV.refs, sto_cons, sto_nil , pvT]) (by simp ))
    · rintro k ⟨hk, hall⟩
      simp only [List.zip_cons_cons, List.zip_nil_left]
      (repeat (first | refine Stp.go ?_ | refine v_region ?_ | refine v_regionD ?_ | refine v_blocky (by decide) ?_ | ((first | refine v_o rfl ?_ ?_ | refine v_oD rfl ?_ ?_); (focus (simp only [pvT, ite_bool, bools_length, List.length_map, go_sem]; done)); simp only [Env.put]) | ((first | refine v_u rfl fun K hK => ?_ | refine v_g rfl fun K hK => ?_ | refine v_uD rfl fun K hK => ?_ | refine v_gD rfl fun K hK => ?_); simp only [pvT, ite_bool, bools_length, List.length_map, go_sem]) | (fail) | refine v_end ?_ | refine v_endD (by kernel_rfl) ?_ | (refine hK _ _ ?_; clear hK K) | refine ⟨by (first | trivial | assumption | omega | (intros; first | assumption | omega)), ?_⟩ | (apply v_condb; (focus (simp only [pvT, ite_bool, bools_length, List.length_map, go_sem]; first | exact pvt | exact pvf)); simp only [cond_true, cond_false]) | fail))
      refine v_cond rfl (fun hc => ?_) (fun hc => ?_)
      · have hk : k < t.ls.length := by simpa using hc
        have e : (t.ls.map pvL).getD k .undef = pvL (t.ls.getD k default) := links_get hk
        have hl : t.ls.getD k default ∈ t.ls := by simp [List.getD, hk]
        have e2 : IntKind.i64.wrap (t.n - 1) = t.n - 1 := wrap_i64 (by omega) (by omega)
        have e1 : IntKind.i64.wrap ((k : Int) + 1) = ((k + 1 : Nat) : Int) := by rw [wrap_i64 (by omega) (by omega)]; rfl
        generalize e0 : t.ls.getD k default = l at *
        have nok : l.ok t.n = false → t.ok = false := by
          intro hx
          have hl : (t.ls.all fun x => x.ok t.n) = false := by
            rw [Bool.eq_false_iff, Ne, List.all_eq_true]
            intro hx'
            have := hx' l hl
            rw [hx] at this; cases this
          simp [Topo.ok, hl]
        (repeat (first | refine Stp.go ?_ | refine v_region ?_ | refine v_regionD ?_ | refine v_blocky (by decide) ?_ | ((first | refine v_o rfl ?_ ?_ | refine v_oD rfl ?_ ?_); (focus (simp only [pvT, ite_bool, bools_length, List.length_map, e, e2, pvL, go_sem]; done)); simp only [Env.put]) | ((first | refine v_u rfl fun K hK => ?_ | refine v_g rfl fun K hK => ?_ | refine v_uD rfl fun K hK => ?_ | refine v_gD rfl fun K hK => ?_); simp only [pvT, ite_bool, bools_length, List.length_map, e, e2, pvL, go_sem]) | ((refine callK_pure (fun hc => within_good _ _ _) rfl ?_; simp only [upds, eq_self, true_or, true_and])) | refine v_end ?_ | refine v_endD (by kernel_rfl) ?_ | (refine hK _ _ ?_; clear hK K) | refine ⟨by (first | trivial | assumption | omega | (intros; first | assumption | omega)), ?_⟩ | (apply v_condb; (focus (simp only [pvT, ite_bool, bools_length, List.length_map, e, e2, pvL, go_sem]; first | exact pvt | exact pvf)); simp only [cond_true, cond_false]) | fail))
        refine v_cond rfl (fun hc' => ?_) (fun hc' => ?_)
        · (repeat (first | refine Stp.go ?_ | refine v_region ?_ | refine v_regionD ?_ | refine v_blocky (by decide) ?_ | ((first | refine v_o rfl ?_ ?_ | refine v_oD rfl ?_ ?_); (focus (simp only [ go_sem]; done)); simp only [Env.put]) | ((first | refine v_u rfl fun K hK => ?_ | refine v_g rfl fun K hK => ?_ | refine v_uD rfl fun K hK => ?_ | refine v_gD rfl fun K hK => ?_); simp only [ go_sem]) | (refine v_loopr ?_) | refine v_end ?_ | refine v_endD (by kernel_rfl) ?_ | (refine hK _ _ ?_; clear hK K) | refine ⟨by (first | trivial | assumption | omega | (intros; first | assumption | omega)), ?_⟩ | (apply v_condb; (focus (simp only [ go_sem]; first | exact pvt | exact pvf)); simp only [cond_true, cond_false]) | fail))
          (first | refine v_fin_n ?_ | refine v_fin_r ?_); simp only [ resK, one, PV.snap, go_sem]
          refine wk_bool ?_
          rw [nok]
          rw [Bool.eq_false_iff]
          intro hh
          simp [Lnk.ok] at hh
          simp [hh] at hc'
          try omega
        · clear hc
          have hc2 : ((decide (0 ≤ l.a) && decide (l.a ≤ t.n - 1)) && (decide (0 ≤ l.b) && decide (l.b ≤ t.n - 1)) && !decide (l.a = l.b) && (decide (1 ≤ l.c0) && decide (l.c0 ≤ 65535)) && (decide (1 ≤ l.c1) && decide (l.c1 ≤ 65535))) = true := by
            simp at hc' ⊢
            omega
          clear hc'
          (repeat (first | refine Stp.go ?_ | refine v_region ?_ | refine v_regionD ?_ | refine v_blocky (by decide) ?_ | ((first | refine v_o rfl ?_ ?_ | refine v_oD rfl ?_ ?_); (focus (simp only [pvT, ite_bool, bools_length, List.length_map, e, e2, pvL, go_sem]; done)); simp only [Env.put]) | ((first | refine v_u rfl fun K hK => ?_ | refine v_g rfl fun K hK => ?_ | refine v_uD rfl fun K hK => ?_ | refine v_gD rfl fun K hK => ?_); simp only [pvT, ite_bool, bools_length, List.length_map, e, e2, pvL, go_sem]) | ((refine callK_pure (fun hc => within_good _ _ _) rfl ?_; simp only [upds, eq_self, true_or, true_and])) | refine v_end ?_ | refine v_endD (by kernel_rfl) ?_ | (refine hK _ _ ?_; clear hK K) | refine ⟨by (first | trivial | assumption | omega | (intros; first | assumption | omega)), ?_⟩ | (apply v_condb; (focus (simp only [pvT, ite_bool, bools_length, List.length_map, e, e2, pvL, go_sem]; first | exact pvt | exact pvf)); simp only [cond_true, cond_false]) | fail))
          refine v_cond rfl (fun hc' => ?_) (fun hc' => ?_)
          · (repeat (first | refine Stp.go ?_ | refine v_region ?_ | refine v_regionD ?_ | refine v_blocky (by decide) ?_ | ((first | refine v_o rfl ?_ ?_ | refine v_oD rfl ?_ ?_); (focus (simp only [ go_sem]; done)); simp only [Env.put]) | ((first | refine v_u rfl fun K hK => ?_ | refine v_g rfl fun K hK => ?_ | refine v_uD rfl fun K hK => ?_ | refine v_gD rfl fun K hK => ?_); simp only [ go_sem]) | (refine v_loopr ?_) | refine v_end ?_ | refine v_endD (by kernel_rfl) ?_ | (refine hK _ _ ?_; clear hK K) | refine ⟨by (first | trivial | assumption | omega | (intros; first | assumption | omega)), ?_⟩ | (apply v_condb; (focus (simp only [ go_sem]; first | exact pvt | exact pvf)); simp only [cond_true, cond_false]) | fail))
            (first | refine v_fin_n ?_ | refine v_fin_r ?_); simp only [ resK, one, PV.snap, go_sem]
            refine wk_bool ?_
            rw [nok]
            rw [Bool.eq_false_iff]
            intro hh
            simp [Lnk.ok] at hh
            simp [hh] at hc'
            try omega
          · (repeat (first | refine Stp.go ?_ | refine v_region ?_ | refine v_regionD ?_ | refine v_blocky (by decide) ?_ | ((first | refine v_o rfl ?_ ?_ | refine v_oD rfl ?_ ?_); (focus (simp only [e1, go_sem]; done)); simp only [Env.put]) | ((first | refine v_u rfl fun K hK => ?_ | refine v_g rfl fun K hK => ?_ | refine v_uD rfl fun K hK => ?_ | refine v_gD rfl fun K hK => ?_); simp only [e1, go_sem]) | (fail) | refine v_end ?_ | refine v_endD (by kernel_rfl) ?_ | (refine hK _ _ ?_; clear hK K) | refine ⟨by (first | trivial | assumption | omega | (intros; first | assumption | omega)), ?_⟩ | (apply v_condb; (focus (simp only [e1, go_sem]; first | exact pvt | exact pvf)); simp only [cond_true, cond_false]) | fail))
            refine v_round (k + 1) ⟨hk, ?_⟩ (by omega) (fits_sto _ id (by simp [Env.get, PV.renL, PV.ren , pvT]) (by simp [PV.refsL, PV.refs , pvT]) (by simp [SC.live, SC.ren, SC.refs, PV.renL, PV.ren, PV.refsL, PV.refs, sto_cons, sto_nil , pvT]) (by simp ))
            rw [all_take_succ _ _ _ hk, hall, e0]
            rw [Lnk.ok, hc2]
            simp at hc' ⊢
            omega
      · (repeat (first | refine Stp.go ?_ | refine v_region ?_ | refine v_regionD ?_ | refine v_blocky (by decide) ?_ | ((first | refine v_o rfl ?_ ?_ | refine v_oD rfl ?_ ?_); (focus (simp only [pvT, ite_bool, bools_length, List.length_map, go_sem]; done)); simp only [Env.put]) | ((first | refine v_u rfl fun K hK => ?_ | refine v_g rfl fun K hK => ?_ | refine v_uD rfl fun K hK => ?_ | refine v_gD rfl fun K hK => ?_); simp only [pvT, ite_bool, bools_length, List.length_map, go_sem]) | (refine v_loopx ?_) | refine v_end ?_ | refine v_endD (by kernel_rfl) ?_ | (refine hK _ _ ?_; clear hK K) | refine ⟨by (first | trivial | assumption | omega | (intros; first | assumption | omega)), ?_⟩ | (apply v_condb; (focus (simp only [pvT, ite_bool, bools_length, List.length_map, go_sem]; first | exact pvt | exact pvf)); simp only [cond_true, cond_false]) | fail))
        (first | refine v_fin_n ?_ | refine v_fin_r ?_); simp only [ resK, one, PV.snap, go_sem]
        refine wk_bool ?_
        have : k = t.ls.length := by simp at hc; omega
        subst this
        rw [List.take_length] at hall
        simp [Topo.ok, hall, hf]
end Go.V
/- Layer 9: where an arc begins and ends, what it costs. -/
set_option linter.unusedVariables false
set_option linter.unusedSimpArgs false
namespace Go.V
open Go.RowKit Go.Proofs
attribute [local irreducible] wp seqK lexK opK callK upd sto Good

theorem tail_good (t : Topo) (a : Int) (ht : t.ok = true) (ha : t.arc a) : Good Try.prog 82 [pvT t, .int .i64 a] (.int .i64 (t.tail a)) := by
  refine v_enter ttok mixed Try.func82 (by kernel_rfl) rfl Try.ntmps82 Try.results82 (by simp) ?_; rw [fresh_sto]; simp only [argEnv, List.range, List.range.loop, List.length_cons, List.length_nil, List.zip_cons_cons, List.zip_nil_left]
  (repeat (first | refine Stp.go ?_ | refine v_region ?_ | refine v_regionD ?_ | refine v_blocky (by decide) ?_ | ((first | refine v_o rfl ?_ ?_ | refine v_oD rfl ?_ ?_); (focus (simp only [pvT, go_sem]; done)); simp only [Env.put]) | ((first | refine v_u rfl fun K hK => ?_ | refine v_g rfl fun K hK => ?_ | refine v_uD rfl fun K hK => ?_ | refine v_gD rfl fun K hK => ?_); simp only [pvT, go_sem]) | ((refine callK_pure (fun hc => ends_good t a ht ha) rfl ?_; simp only [upds, eq_self, true_or, true_and])) | refine v_end ?_ | refine v_endD (by kernel_rfl) ?_ | (refine hK _ _ ?_; clear hK K) | refine ⟨by (first | trivial | assumption | omega | (intros; first | assumption | omega)), ?_⟩ | (apply v_condb; (focus (simp only [pvT, go_sem]; first | exact pvt | exact pvf)); simp only [cond_true, cond_false]) | fail))
  (first | refine v_fin_n ?_ | refine v_fin_r ?_); simp only [ resK, one, PV.snap, go_sem]
  exact .refl _
theorem head_good (t : Topo) (a : Int) (ht : t.ok = true) (ha : t.arc a) : Good Try.prog 48 [pvT t, .int .i64 a] (.int .i64 (t.head a)) := by
  refine v_enter ttok mixed Try.func48 (by kernel_rfl) rfl Try.ntmps48 Try.results48 (by simp) ?_; rw [fresh_sto]; simp only [argEnv, List.range, List.range.loop, List.length_cons, List.length_nil, List.zip_cons_cons, List.zip_nil_left]
  (repeat (first | refine Stp.go ?_ | refine v_region ?_ | refine v_regionD ?_ | refine v_blocky (by decide) ?_ | ((first | refine v_o rfl ?_ ?_ | refine v_oD rfl ?_ ?_); (focus (simp only [pvT, go_sem]; done)); simp only [Env.put]) | ((first | refine v_u rfl fun K hK => ?_ | refine v_g rfl fun K hK => ?_ | refine v_uD rfl fun K hK => ?_ | refine v_gD rfl fun K hK => ?_); simp only [pvT, go_sem]) | ((refine callK_pure (fun hc => ends_good t a ht ha) rfl ?_; simp only [upds, eq_self, true_or, true_and])) | refine v_end ?_ | refine v_endD (by kernel_rfl) ?_ | (refine hK _ _ ?_; clear hK K) | refine ⟨by (first | trivial | assumption | omega | (intros; first | assumption | omega)), ?_⟩ | (apply v_condb; (focus (simp only [pvT, go_sem]; first | exact pvt | exact pvf)); simp only [cond_true, cond_false]) | fail))
  (first | refine v_fin_n ?_ | refine v_fin_r ?_); simp only [ resK, one, PV.snap, go_sem]
  exact .refl _
theorem cost_good (t : Topo) (a : Int) (ht : t.ok = true) (ha : t.arc a) : Good Try.prog 65 [pvT t, .int .i64 a] (.int .i64 (t.cost a)) := by
  refine v_enter ttok mixed Try.func65 (by kernel_rfl) rfl Try.ntmps65 Try.results65 (by simp) ?_; rw [fresh_sto]; simp only [argEnv, List.range, List.range.loop, List.length_cons, List.length_nil, List.zip_cons_cons, List.zip_nil_left]
  (repeat (first | refine Stp.go ?_ | refine v_region ?_ | refine v_regionD ?_ | refine v_blocky (by decide) ?_ | ((first | refine v_o rfl ?_ ?_ | refine v_oD rfl ?_ ?_); (focus (simp only [pvT, go_sem]; done)); simp only [Env.put]) | ((first | refine v_u rfl fun K hK => ?_ | refine v_g rfl fun K hK => ?_ | refine v_uD rfl fun K hK => ?_ | refine v_gD rfl fun K hK => ?_); simp only [pvT, go_sem]) | ((refine callK_pure (fun hc => ends_good t a ht ha) rfl ?_; simp only [upds, eq_self, true_or, true_and])) | refine v_end ?_ | refine v_endD (by kernel_rfl) ?_ | (refine hK _ _ ?_; clear hK K) | refine ⟨by (first | trivial | assumption | omega | (intros; first | assumption | omega)), ?_⟩ | (apply v_condb; (focus (simp only [pvT, go_sem]; first | exact pvt | exact pvf)); simp only [cond_true, cond_false]) | fail))
  (first | refine v_fin_n ?_ | refine v_fin_r ?_); simp only [ resK, one, PV.snap, go_sem]
  exact .refl _

theorem up_good (down : List Bool) (a : Int) (h1 : 0 ≤ a) (h2 : down.length = 0 ∨ a < down.length) : Good Try.prog 97 [.slc 1 (bools down), .int .i64 a] (.bool (upB down a)) := by
  refine v_enter ttok mixed Try.func97 (by kernel_rfl) rfl Try.ntmps97 Try.results97 (by simp) ?_; rw [fresh_sto]; simp only [argEnv, List.range, List.range.loop, List.length_cons, List.length_nil, List.zip_cons_cons, List.zip_nil_left]
  by_cases h : down.length = 0
  · have h' : ((0 : Nat) : Int) = 0 := rfl
    (repeat (first | refine Stp.go ?_ | refine v_region ?_ | refine v_regionD ?_ | refine v_blocky (by decide) ?_ | ((first | refine v_o rfl ?_ ?_ | refine v_oD rfl ?_ ?_); (focus (simp only [ite_bool, bools_length, h, h',  go_sem]; done)); simp only [Env.put]) | ((first | refine v_u rfl fun K hK => ?_ | refine v_g rfl fun K hK => ?_ | refine v_uD rfl fun K hK => ?_ | refine v_gD rfl fun K hK => ?_); simp only [ite_bool, bools_length, h, h',  go_sem]) | (fail) | refine v_end ?_ | refine v_endD (by kernel_rfl) ?_ | (refine hK _ _ ?_; clear hK K) | refine ⟨by (first | trivial | assumption | omega | (intros; first | assumption | omega)), ?_⟩ | (apply v_condb; (focus (simp only [ite_bool, bools_length, h, h',  go_sem]; first | exact pvt | exact pvf)); simp only [cond_true, cond_false]) | fail))
    (first | refine v_fin_n ?_ | refine v_fin_r ?_); simp only [ resK, one, PV.snap, go_sem]
    refine wk_bool ?_
    simp [upB, h]
  · have h' : ¬ (down.length : Int) = 0 := by omega
    have h3 : a < down.length := h2.resolve_left h
    have e : (bools down).getD a.toNat .undef = .bool (down.getD a.toNat false) := bools_get (by omega)
    (repeat (first | refine Stp.go ?_ | refine v_region ?_ | refine v_regionD ?_ | refine v_blocky (by decide) ?_ | ((first | refine v_o rfl ?_ ?_ | refine v_oD rfl ?_ ?_); (focus (simp only [ite_bool, bools_length, h, h', h1, h3, e,  go_sem]; done)); simp only [Env.put]) | ((first | refine v_u rfl fun K hK => ?_ | refine v_g rfl fun K hK => ?_ | refine v_uD rfl fun K hK => ?_ | refine v_gD rfl fun K hK => ?_); simp only [ite_bool, bools_length, h, h', h1, h3, e,  go_sem]) | (fail) | refine v_end ?_ | refine v_endD (by kernel_rfl) ?_ | (refine hK _ _ ?_; clear hK K) | refine ⟨by (first | trivial | assumption | omega | (intros; first | assumption | omega)), ?_⟩ | (apply v_condb; (focus (simp only [ite_bool, bools_length, h, h', h1, h3, e,  go_sem]; first | exact pvt | exact pvf)); simp only [cond_true, cond_false]) | fail))
    (first | refine v_fin_n ?_ | refine v_fin_r ?_); simp only [ resK, one, PV.snap, go_sem]
    refine wk_bool ?_
    simp [upB, h]
end Go.V
/- Layer 9: the document's answers about arcs and nodes. -/
set_option linter.unusedVariables false
set_option linter.unusedSimpArgs false
namespace Go.V
open Go.RowKit Go.Proofs
attribute [local irreducible] wp seqK lexK opK callK upd sto Good

theorem rarcs_good (t : Topo) (ht : t.ok = true) : Good Try.prog 44 [pvT t] (.int .i64 (2 * t.ls.length : Nat)) := by
  refine v_enter ttok mixed Try.func44 (by kernel_rfl) rfl Try.ntmps44 Try.results44 (by simp) ?_; rw [fresh_sto]; simp only [argEnv, List.range, List.range.loop, List.length_cons, List.length_nil, List.zip_cons_cons, List.zip_nil_left]
  have hl := (Topo.frame_n (Topo.ok_frame ht)).2.2.2
  have e : IntKind.i64.wrap (2 * (t.ls.length : Int)) = ((2 * t.ls.length : Nat) : Int) := by rw [wrap_i64 (by omega) (by omega)]; simp
  (repeat (first | refine Stp.go ?_ | refine v_region ?_ | refine v_regionD ?_ | refine v_blocky (by decide) ?_ | ((first | refine v_o rfl ?_ ?_ | refine v_oD rfl ?_ ?_); (focus (simp only [pvT, ite_bool, bools_length, List.length_map, ht, e, go_sem]; done)); simp only [Env.put]) | ((first | refine v_u rfl fun K hK => ?_ | refine v_g rfl fun K hK => ?_ | refine v_uD rfl fun K hK => ?_ | refine v_gD rfl fun K hK => ?_); simp only [pvT, ite_bool, bools_length, List.length_map, ht, e, go_sem]) | ((refine callK_pure (fun hc => rvalid_good t) rfl ?_; simp only [upds, eq_self, true_or, true_and])) | refine v_end ?_ | refine v_endD (by kernel_rfl) ?_ | (refine hK _ _ ?_; clear hK K) | refine ⟨by (first | trivial | assumption | omega | (intros; first | assumption | omega)), ?_⟩ | (apply v_condb; (focus (simp only [pvT, ite_bool, bools_length, List.length_map, ht, e, go_sem]; first | exact pvt | exact pvf)); simp only [cond_true, cond_false]) | fail))
  (first | refine v_fin_n ?_ | refine v_fin_r ?_); simp only [ resK, one, PV.snap, go_sem]
  exact .refl _

theorem rtail_good (t : Topo) (a : Int) (ht : t.ok = true) (ha : t.arc a) : Good Try.prog 22 [pvT t, .int .i64 a] (.int .i64 (t.tail a)) := by
  refine v_enter ttok mixed Try.func22 (by kernel_rfl) rfl Try.ntmps22 Try.results22 (by simp) ?_; rw [fresh_sto]; simp only [argEnv, List.range, List.range.loop, List.length_cons, List.length_nil, List.zip_cons_cons, List.zip_nil_left]
  have hl := (Topo.frame_n (Topo.ok_frame ht)).2.2.2
  have hlt := t.arc_lt ha
  obtain ⟨h1, h2⟩ := ha
  have e1 : (a < 0) = False := by simp; omega
  have e2 : (((2 * t.ls.length : Nat) : Int) ≤ a) = False := by simp; omega
  have e3 : IntKind.i64.wrap (a / 2) = a / 2 := wrap_i64 (by omega) (by omega)
  have e4 : (t.ls.map pvL).getD (a / 2).toNat .undef = pvL (t.link a) := links_get hlt
  have e5 := tdiv2 h1
  have e6 := tmod2 h1
  have v1 : 0 ≤ a / 2 ∧ a / 2 < (t.ls.length : Int) := by omega
  generalize hx : t.link a = l at *
  (repeat (first | refine Stp.go ?_ | refine v_region ?_ | refine v_regionD ?_ | refine v_blocky (by decide) ?_ | ((first | refine v_o rfl ?_ ?_ | refine v_oD rfl ?_ ?_); (focus (simp only [pvT, pvL, ite_bool, bools_length, List.length_map, e1, e2, e3, e4, e5, e6, v1, go_sem]; done)); simp only [Env.put]) | ((first | refine v_u rfl fun K hK => ?_ | refine v_g rfl fun K hK => ?_ | refine v_uD rfl fun K hK => ?_ | refine v_gD rfl fun K hK => ?_); simp only [pvT, pvL, ite_bool, bools_length, List.length_map, e1, e2, e3, e4, e5, e6, v1, go_sem]) | ((refine callK_pure (fun hc => rarcs_good t ht) rfl ?_; simp only [upds, eq_self, true_or, true_and])) | refine v_end ?_ | refine v_endD (by kernel_rfl) ?_ | (refine hK _ _ ?_; clear hK K) | refine ⟨by (first | trivial | assumption | omega | (intros; first | assumption | omega)), ?_⟩ | (apply v_condb; (focus (simp only [pvT, pvL, ite_bool, bools_length, List.length_map, e1, e2, e3, e4, e5, e6, v1, go_sem]; first | exact pvt | exact pvf)); simp only [cond_true, cond_false]) | fail))
  by_cases h : a % 2 = 0
  · (repeat (first | refine Stp.go ?_ | refine v_region ?_ | refine v_regionD ?_ | refine v_blocky (by decide) ?_ | ((first | refine v_o rfl ?_ ?_ | refine v_oD rfl ?_ ?_); (focus (simp only [pvT, pvL, List.length_map, e3, e4, e5, e6, v1, h, go_sem]; done)); simp only [Env.put]) | ((first | refine v_u rfl fun K hK => ?_ | refine v_g rfl fun K hK => ?_ | refine v_uD rfl fun K hK => ?_ | refine v_gD rfl fun K hK => ?_); simp only [pvT, pvL, List.length_map, e3, e4, e5, e6, v1, h, go_sem]) | (fail) | refine v_end ?_ | refine v_endD (by kernel_rfl) ?_ | (refine hK _ _ ?_; clear hK K) | refine ⟨by (first | trivial | assumption | omega | (intros; first | assumption | omega)), ?_⟩ | (apply v_condb; (focus (simp only [pvT, pvL, List.length_map, e3, e4, e5, e6, v1, h, go_sem]; first | exact pvt | exact pvf)); simp only [cond_true, cond_false]) | fail))
    (first | refine v_fin_n ?_ | refine v_fin_r ?_); simp only [ resK, one, PV.snap, go_sem]
    refine wk_eq ?_
    simp [Topo.tail, h, hx]
  · (repeat (first | refine Stp.go ?_ | refine v_region ?_ | refine v_regionD ?_ | refine v_blocky (by decide) ?_ | ((first | refine v_o rfl ?_ ?_ | refine v_oD rfl ?_ ?_); (focus (simp only [pvT, pvL, List.length_map, e3, e4, e5, e6, v1, h, go_sem]; done)); simp only [Env.put]) | ((first | refine v_u rfl fun K hK => ?_ | refine v_g rfl fun K hK => ?_ | refine v_uD rfl fun K hK => ?_ | refine v_gD rfl fun K hK => ?_); simp only [pvT, pvL, List.length_map, e3, e4, e5, e6, v1, h, go_sem]) | (fail) | refine v_end ?_ | refine v_endD (by kernel_rfl) ?_ | (refine hK _ _ ?_; clear hK K) | refine ⟨by (first | trivial | assumption | omega | (intros; first | assumption | omega)), ?_⟩ | (apply v_condb; (focus (simp only [pvT, pvL, List.length_map, e3, e4, e5, e6, v1, h, go_sem]; first | exact pvt | exact pvf)); simp only [cond_true, cond_false]) | fail))
    (first | refine v_fin_n ?_ | refine v_fin_r ?_); simp only [ resK, one, PV.snap, go_sem]
    refine wk_eq ?_
    simp [Topo.tail, h, hx]

theorem rhead_good (t : Topo) (a : Int) (ht : t.ok = true) (ha : t.arc a) : Good Try.prog 24 [pvT t, .int .i64 a] (.int .i64 (t.head a)) := by
  refine v_enter ttok mixed Try.func24 (by kernel_rfl) rfl Try.ntmps24 Try.results24 (by simp) ?_; rw [fresh_sto]; simp only [argEnv, List.range, List.range.loop, List.length_cons, List.length_nil, List.zip_cons_cons, List.zip_nil_left]
  have hl := (Topo.frame_n (Topo.ok_frame ht)).2.2.2
  have hlt := t.arc_lt ha
  obtain ⟨h1, h2⟩ := ha
  have e1 : (a < 0) = False := by simp; omega
  have e2 : (((2 * t.ls.length : Nat) : Int) ≤ a) = False := by simp; omega
  have e3 : IntKind.i64.wrap (a / 2) = a / 2 := wrap_i64 (by omega) (by omega)
  have e7 : IntKind.i64.wrap (a / 2 * 2) = a / 2 * 2 := wrap_i64 (by omega) (by omega)
  have e8 : IntKind.i64.wrap (a / 2 * 2 + 1) = a / 2 * 2 + 1 := wrap_i64 (by omega) (by omega)
  have e9 : IntKind.i64.wrap (a / 2 * 2 + 1 - a % 2) = a / 2 * 2 + 1 - a % 2 := wrap_i64 (by omega) (by omega)
  have e5 := tdiv2 h1
  have e6 := tmod2 h1
  (repeat (first | refine Stp.go ?_ | refine v_region ?_ | refine v_regionD ?_ | refine v_blocky (by decide) ?_ | ((first | refine v_o rfl ?_ ?_ | refine v_oD rfl ?_ ?_); (focus (simp only [pvT, ite_bool, e1, e2, e3, e5, e6, e7, e8, e9, go_sem]; done)); simp only [Env.put]) | ((first | refine v_u rfl fun K hK => ?_ | refine v_g rfl fun K hK => ?_ | refine v_uD rfl fun K hK => ?_ | refine v_gD rfl fun K hK => ?_); simp only [pvT, ite_bool, e1, e2, e3, e5, e6, e7, e8, e9, go_sem]) | (first | ((refine callK_pure (fun hc => rarcs_good t ht) rfl ?_; simp only [upds, eq_self, true_or, true_and])) | ((refine callK_pure (fun hc => rtail_good t (a / 2 * 2 + 1 - a % 2) ht ⟨by omega, by omega⟩) rfl ?_; simp only [upds, eq_self, true_or, true_and]))) | refine v_end ?_ | refine v_endD (by kernel_rfl) ?_ | (refine hK _ _ ?_; clear hK K) | refine ⟨by (first | trivial | assumption | omega | (intros; first | assumption | omega)), ?_⟩ | (apply v_condb; (focus (simp only [pvT, ite_bool, e1, e2, e3, e5, e6, e7, e8, e9, go_sem]; first | exact pvt | exact pvf)); simp only [cond_true, cond_false]) | fail))
  (first | refine v_fin_n ?_ | refine v_fin_r ?_); simp only [ resK, one, PV.snap, go_sem]
  refine wk_eq ?_
  have e : t.link (a / 2 * 2 + 1 - a % 2) = t.link a := by
    unfold Topo.link
    congr 2
    omega
  by_cases h : a % 2 = 0
  · have h' : ¬ (a / 2 * 2 + 1 - a % 2) % 2 = 0 := by omega
    simp only [Topo.tail, Topo.head, e, if_neg h', if_pos h]
  · have h' : (a / 2 * 2 + 1 - a % 2) % 2 = 0 := by omega
    simp only [Topo.tail, Topo.head, e, if_pos h', if_neg h]

theorem rcost_good (t : Topo) (a : Int) (ht : t.ok = true) (ha : t.arc a) : Good Try.prog 46 [pvT t, .int .i64 a] (.int .i64 (t.cost a)) := by
  refine v_enter ttok mixed Try.func46 (by kernel_rfl) rfl Try.ntmps46 Try.results46 (by simp) ?_; rw [fresh_sto]; simp only [argEnv, List.range, List.range.loop, List.length_cons, List.length_nil, List.zip_cons_cons, List.zip_nil_left]
  have hl := (Topo.frame_n (Topo.ok_frame ht)).2.2.2
  have hlt := t.arc_lt ha
  obtain ⟨h1, h2⟩ := ha
  have e1 : (a < 0) = False := by simp; omega
  have e2 : (((2 * t.ls.length : Nat) : Int) ≤ a) = False := by simp; omega
  have e3 : IntKind.i64.wrap (a / 2) = a / 2 := wrap_i64 (by omega) (by omega)
  have e4 : (t.ls.map pvL).getD (a / 2).toNat .undef = pvL (t.link a) := links_get hlt
  have e5 := tdiv2 h1
  have e6 := tmod2 h1
  have v1 : 0 ≤ a / 2 ∧ a / 2 < (t.ls.length : Int) := by omega
  generalize hx : t.link a = l at *
  by_cases h : a % 2 = 0
  · (repeat (first | refine Stp.go ?_ | refine v_region ?_ | refine v_regionD ?_ | refine v_blocky (by decide) ?_ | ((first | refine v_o rfl ?_ ?_ | refine v_oD rfl ?_ ?_); (focus (simp only [pvT, pvL, ite_bool, List.length_map, e1, e2, e3, e4, e5, e6, v1, h, go_sem]; done)); simp only [Env.put]) | ((first | refine v_u rfl fun K hK => ?_ | refine v_g rfl fun K hK => ?_ | refine v_uD rfl fun K hK => ?_ | refine v_gD rfl fun K hK => ?_); simp only [pvT, pvL, ite_bool, List.length_map, e1, e2, e3, e4, e5, e6, v1, h, go_sem]) | ((refine callK_pure (fun hc => rarcs_good t ht) rfl ?_; simp only [upds, eq_self, true_or, true_and])) | refine v_end ?_ | refine v_endD (by kernel_rfl) ?_ | (refine hK _ _ ?_; clear hK K) | refine ⟨by (first | trivial | assumption | omega | (intros; first | assumption | omega)), ?_⟩ | (apply v_condb; (focus (simp only [pvT, pvL, ite_bool, List.length_map, e1, e2, e3, e4, e5, e6, v1, h, go_sem]; first | exact pvt | exact pvf)); simp only [cond_true, cond_false]) | fail))
    (first | refine v_fin_n ?_ | refine v_fin_r ?_); simp only [ resK, one, PV.snap, go_sem]
    refine wk_eq ?_
    simp [Topo.cost, h, hx]
  · have h' : a % 2 = 1 := by omega
    (repeat (first | refine Stp.go ?_ | refine v_region ?_ | refine v_regionD ?_ | refine v_blocky (by decide) ?_ | ((first | refine v_o rfl ?_ ?_ | refine v_oD rfl ?_ ?_); (focus (simp only [pvT, pvL, ite_bool, List.length_map, e1, e2, e3, e4, e5, e6, v1, h', go_sem]; done)); simp only [Env.put]) | ((first | refine v_u rfl fun K hK => ?_ | refine v_g rfl fun K hK => ?_ | refine v_uD rfl fun K hK => ?_ | refine v_gD rfl fun K hK => ?_); simp only [pvT, pvL, ite_bool, List.length_map, e1, e2, e3, e4, e5, e6, v1, h', go_sem]) | ((refine callK_pure (fun hc => rarcs_good t ht) rfl ?_; simp only [upds, eq_self, true_or, true_and])) | refine v_end ?_ | refine v_endD (by kernel_rfl) ?_ | (refine hK _ _ ?_; clear hK K) | refine ⟨by (first | trivial | assumption | omega | (intros; first | assumption | omega)), ?_⟩ | (apply v_condb; (focus (simp only [pvT, pvL, ite_bool, List.length_map, e1, e2, e3, e4, e5, e6, v1, h', go_sem]; first | exact pvt | exact pvf)); simp only [cond_true, cond_false]) | fail))
    (first | refine v_fin_n ?_ | refine v_fin_r ?_); simp only [ resK, one, PV.snap, go_sem]
    refine wk_eq ?_
    simp [Topo.cost, h, hx]
end Go.V
/- Layer 9 and 11: the document's answers about nodes and masks. -/
set_option linter.unusedVariables false
set_option linter.unusedSimpArgs false
namespace Go.V
open Go.RowKit Go.Proofs
attribute [local irreducible] wp seqK lexK opK callK upd sto Good

theorem rup_good (down : List Bool) (a : Int) (h1 : 0 ≤ a) (h2 : down.length = 0 ∨ a < down.length) : Good Try.prog 23 [.slc 1 (bools down), .int .i64 a] (.bool (upB down a)) := by
  refine v_enter ttok mixed Try.func23 (by kernel_rfl) rfl Try.ntmps23 Try.results23 (by simp) ?_; rw [fresh_sto]; simp only [argEnv, List.range, List.range.loop, List.length_cons, List.length_nil, List.zip_cons_cons, List.zip_nil_left]
  by_cases h : down.length = 0
  · have h' : ((0 : Nat) : Int) = 0 := rfl
    (repeat (first | refine Stp.go ?_ | refine v_region ?_ | refine v_regionD ?_ | refine v_blocky (by decide) ?_ | ((first | refine v_o rfl ?_ ?_ | refine v_oD rfl ?_ ?_); (focus (simp only [ite_bool, bools_length, h, h',  go_sem]; done)); simp only [Env.put]) | ((first | refine v_u rfl fun K hK => ?_ | refine v_g rfl fun K hK => ?_ | refine v_uD rfl fun K hK => ?_ | refine v_gD rfl fun K hK => ?_); simp only [ite_bool, bools_length, h, h',  go_sem]) | (fail) | refine v_end ?_ | refine v_endD (by kernel_rfl) ?_ | (refine hK _ _ ?_; clear hK K) | refine ⟨by (first | trivial | assumption | omega | (intros; first | assumption | omega)), ?_⟩ | (apply v_condb; (focus (simp only [ite_bool, bools_length, h, h',  go_sem]; first | exact pvt | exact pvf)); simp only [cond_true, cond_false]) | fail))
    (first | refine v_fin_n ?_ | refine v_fin_r ?_); simp only [ resK, one, PV.snap, go_sem]
    refine wk_bool ?_
    simp [upB, h]
  · have h' : ¬ (down.length : Int) = 0 := by omega
    have h3 : a < down.length := h2.resolve_left h
    have e : (bools down).getD a.toNat .undef = .bool (down.getD a.toNat false) := bools_get (by omega)
    (repeat (first | refine Stp.go ?_ | refine v_region ?_ | refine v_regionD ?_ | refine v_blocky (by decide) ?_ | ((first | refine v_o rfl ?_ ?_ | refine v_oD rfl ?_ ?_); (focus (simp only [ite_bool, bools_length, h, h', h1, h3, e,  go_sem]; done)); simp only [Env.put]) | ((first | refine v_u rfl fun K hK => ?_ | refine v_g rfl fun K hK => ?_ | refine v_uD rfl fun K hK => ?_ | refine v_gD rfl fun K hK => ?_); simp only [ite_bool, bools_length, h, h', h1, h3, e,  go_sem]) | (fail) | refine v_end ?_ | refine v_endD (by kernel_rfl) ?_ | (refine hK _ _ ?_; clear hK K) | refine ⟨by (first | trivial | assumption | omega | (intros; first | assumption | omega)), ?_⟩ | (apply v_condb; (focus (simp only [ite_bool, bools_length, h, h', h1, h3, e,  go_sem]; first | exact pvt | exact pvf)); simp only [cond_true, cond_false]) | fail))
    (first | refine v_fin_n ?_ | refine v_fin_r ?_); simp only [ resK, one, PV.snap, go_sem]
    refine wk_bool ?_
    simp [upB, h]

theorem rover_good (t : Topo) (n : Int) (ht : t.ok = true) : Good Try.prog 45 [pvT t, .int .i64 n] (.bool (t.over n)) := by
  refine v_enter ttok mixed Try.func45 (by kernel_rfl) rfl Try.ntmps45 Try.results45 (by simp) ?_; rw [fresh_sto]; simp only [argEnv, List.range, List.range.loop, List.length_cons, List.length_nil, List.zip_cons_cons, List.zip_nil_left]
  by_cases h1 : 0 ≤ n
  · by_cases h2 : n < t.ov.length
    · have e : (bools t.ov).getD n.toNat .undef = .bool (t.ov.getD n.toNat false) := bools_get (by omega)
      (repeat (first | refine Stp.go ?_ | refine v_region ?_ | refine v_regionD ?_ | refine v_blocky (by decide) ?_ | ((first | refine v_o rfl ?_ ?_ | refine v_oD rfl ?_ ?_); (focus (simp only [pvT, ite_bool, bools_length, h1, h2, e, ht,  go_sem]; done)); simp only [Env.put]) | ((first | refine v_u rfl fun K hK => ?_ | refine v_g rfl fun K hK => ?_ | refine v_uD rfl fun K hK => ?_ | refine v_gD rfl fun K hK => ?_); simp only [pvT, ite_bool, bools_length, h1, h2, e, ht,  go_sem]) | ((refine callK_pure (fun hc => rvalid_good t) rfl ?_; simp only [upds, eq_self, true_or, true_and])) | refine v_end ?_ | refine v_endD (by kernel_rfl) ?_ | (refine hK _ _ ?_; clear hK K) | refine ⟨by (first | trivial | assumption | omega | (intros; first | assumption | omega)), ?_⟩ | (apply v_condb; (focus (simp only [pvT, ite_bool, bools_length, h1, h2, e, ht,  go_sem]; first | exact pvt | exact pvf)); simp only [cond_true, cond_false]) | fail))
      (first | refine v_fin_n ?_ | refine v_fin_r ?_); simp only [ resK, one, PV.snap, go_sem]
      refine wk_bool ?_
      simp [Topo.over, h1]
    · (repeat (first | refine Stp.go ?_ | refine v_region ?_ | refine v_regionD ?_ | refine v_blocky (by decide) ?_ | ((first | refine v_o rfl ?_ ?_ | refine v_oD rfl ?_ ?_); (focus (simp only [pvT, ite_bool, bools_length, h1, h2, ht,  go_sem]; done)); simp only [Env.put]) | ((first | refine v_u rfl fun K hK => ?_ | refine v_g rfl fun K hK => ?_ | refine v_uD rfl fun K hK => ?_ | refine v_gD rfl fun K hK => ?_); simp only [pvT, ite_bool, bools_length, h1, h2, ht,  go_sem]) | ((refine callK_pure (fun hc => rvalid_good t) rfl ?_; simp only [upds, eq_self, true_or, true_and])) | refine v_end ?_ | refine v_endD (by kernel_rfl) ?_ | (refine hK _ _ ?_; clear hK K) | refine ⟨by (first | trivial | assumption | omega | (intros; first | assumption | omega)), ?_⟩ | (apply v_condb; (focus (simp only [pvT, ite_bool, bools_length, h1, h2, ht,  go_sem]; first | exact pvt | exact pvf)); simp only [cond_true, cond_false]) | fail))
      (first | refine v_fin_n ?_ | refine v_fin_r ?_); simp only [ resK, one, PV.snap, go_sem]
      refine wk_bool ?_
      have : t.ov.length ≤ n.toNat := by omega
      simp [Topo.over, this]
  · (repeat (first | refine Stp.go ?_ | refine v_region ?_ | refine v_regionD ?_ | refine v_blocky (by decide) ?_ | ((first | refine v_o rfl ?_ ?_ | refine v_oD rfl ?_ ?_); (focus (simp only [pvT, ite_bool, bools_length, h1, ht,  go_sem]; done)); simp only [Env.put]) | ((first | refine v_u rfl fun K hK => ?_ | refine v_g rfl fun K hK => ?_ | refine v_uD rfl fun K hK => ?_ | refine v_gD rfl fun K hK => ?_); simp only [pvT, ite_bool, bools_length, h1, ht,  go_sem]) | ((refine callK_pure (fun hc => rvalid_good t) rfl ?_; simp only [upds, eq_self, true_or, true_and])) | refine v_end ?_ | refine v_endD (by kernel_rfl) ?_ | (refine hK _ _ ?_; clear hK K) | refine ⟨by (first | trivial | assumption | omega | (intros; first | assumption | omega)), ?_⟩ | (apply v_condb; (focus (simp only [pvT, ite_bool, bools_length, h1, ht,  go_sem]; first | exact pvt | exact pvf)); simp only [cond_true, cond_false]) | fail))
    (first | refine v_fin_n ?_ | refine v_fin_r ?_); simp only [ resK, one, PV.snap, go_sem]
    refine wk_bool ?_
    simp [Topo.over, h1]

theorem rfits_good (t : Topo) (down : List Bool) : Good Try.prog 20 [pvT t, .slc 1 (bools down)] (.bool (maskOk t down)) := by
  refine v_enter ttok mixed Try.func20 (by kernel_rfl) rfl Try.ntmps20 Try.results20 (by simp) ?_; rw [fresh_sto]; simp only [argEnv, List.range, List.range.loop, List.length_cons, List.length_nil, List.zip_cons_cons, List.zip_nil_left]
  have hl : t.ok = true → t.ls.length ≤ 256 := fun h => (Topo.frame_n (Topo.ok_frame h)).2.2.2
  by_cases ht : t.ok = true
  · have e : IntKind.i64.wrap (2 * (t.ls.length : Int)) = ((2 * t.ls.length : Nat) : Int) := by have := hl ht; rw [wrap_i64 (by omega) (by omega)]; simp
    (repeat (first | refine Stp.go ?_ | refine v_region ?_ | refine v_regionD ?_ | refine v_blocky (by decide) ?_ | ((first | refine v_o rfl ?_ ?_ | refine v_oD rfl ?_ ?_); (focus (simp only [pvT, ite_bool, bools_length, List.length_map, ht, e, go_sem]; done)); simp only [Env.put]) | ((first | refine v_u rfl fun K hK => ?_ | refine v_g rfl fun K hK => ?_ | refine v_uD rfl fun K hK => ?_ | refine v_gD rfl fun K hK => ?_); simp only [pvT, ite_bool, bools_length, List.length_map, ht, e, go_sem]) | ((refine callK_pure (fun hc => rvalid_good t) rfl ?_; simp only [upds, eq_self, true_or, true_and])) | refine v_end ?_ | refine v_endD (by kernel_rfl) ?_ | (refine hK _ _ ?_; clear hK K) | refine ⟨by (first | trivial | assumption | omega | (intros; first | assumption | omega)), ?_⟩ | (apply v_condb; (focus (simp only [pvT, ite_bool, bools_length, List.length_map, ht, e, go_sem]; first | exact pvt | exact pvf)); simp only [cond_true, cond_false]) | fail))
    (first | refine v_fin_n ?_ | refine v_fin_r ?_); simp only [ resK, one, PV.snap, go_sem]
    refine wk_bool ?_
    by_cases h : down.length = 0 <;> simp [maskOk, ht, h]
    omega
  · have ht' : t.ok = false := by simpa using ht
    (repeat (first | refine Stp.go ?_ | refine v_region ?_ | refine v_regionD ?_ | refine v_blocky (by decide) ?_ | ((first | refine v_o rfl ?_ ?_ | refine v_oD rfl ?_ ?_); (focus (simp only [pvT, ite_bool, bools_length, List.length_map, ht', go_sem]; done)); simp only [Env.put]) | ((first | refine v_u rfl fun K hK => ?_ | refine v_g rfl fun K hK => ?_ | refine v_uD rfl fun K hK => ?_ | refine v_gD rfl fun K hK => ?_); simp only [pvT, ite_bool, bools_length, List.length_map, ht', go_sem]) | ((refine callK_pure (fun hc => rvalid_good t) rfl ?_; simp only [upds, eq_self, true_or, true_and])) | refine v_end ?_ | refine v_endD (by kernel_rfl) ?_ | (refine hK _ _ ?_; clear hK K) | refine ⟨by (first | trivial | assumption | omega | (intros; first | assumption | omega)), ?_⟩ | (apply v_condb; (focus (simp only [pvT, ite_bool, bools_length, List.length_map, ht', go_sem]; first | exact pvt | exact pvf)); simp only [cond_true, cond_false]) | fail))
    (first | refine v_fin_n ?_ | refine v_fin_r ?_); simp only [ resK, one, PV.snap, go_sem]
    refine wk_bool ?_
    simp [maskOk, ht']

theorem transit_good (t : Topo) (n d : Int) (ht : t.ok = true) : Good Try.prog 70 [pvT t, .int .i64 n, .int .i64 d] (.bool (decide (n = d) || !t.over n)) := by
  refine v_enter ttok mixed Try.func70 (by kernel_rfl) rfl Try.ntmps70 Try.results70 (by simp) ?_; rw [fresh_sto]; simp only [argEnv, List.range, List.range.loop, List.length_cons, List.length_nil, List.zip_cons_cons, List.zip_nil_left]
  (repeat (first | refine Stp.go ?_ | refine v_region ?_ | refine v_regionD ?_ | refine v_blocky (by decide) ?_ | ((first | refine v_o rfl ?_ ?_ | refine v_oD rfl ?_ ?_); (focus (simp only [pvT, ite_bool,  go_sem]; done)); simp only [Env.put]) | ((first | refine v_u rfl fun K hK => ?_ | refine v_g rfl fun K hK => ?_ | refine v_uD rfl fun K hK => ?_ | refine v_gD rfl fun K hK => ?_); simp only [pvT, ite_bool,  go_sem]) | ((refine callK_pure (fun hc => rover_good t n ht) rfl ?_; simp only [upds, eq_self, true_or, true_and])) | refine v_end ?_ | refine v_endD (by kernel_rfl) ?_ | (refine hK _ _ ?_; clear hK K) | refine ⟨by (first | trivial | assumption | omega | (intros; first | assumption | omega)), ?_⟩ | (apply v_condb; (focus (simp only [pvT, ite_bool,  go_sem]; first | exact pvt | exact pvf)); simp only [cond_true, cond_false]) | fail))
  (first | refine v_fin_n ?_ | refine v_fin_r ?_); simp only [ resK, one, PV.snap, go_sem]
  refine wk_bool ?_
  by_cases h : n = d <;> simp [h]
end Go.V
/- Lists of numbers: equality, membership. -/
set_option linter.unusedVariables false
set_option linter.unusedSimpArgs false
namespace Go.V
open Go.RowKit Go.Proofs
attribute [local irreducible] wp seqK lexK opK callK upd sto Good

theorem take_succ_eq {α : Type} [Inhabited α] {a b : List α} {k : Nat} (ha : k < a.length) (hb : k < b.length) (h : a.take k = b.take k) (d : α) (e : a.getD k d = b.getD k d) : a.take (k + 1) = b.take (k + 1) := by
  rw [List.take_add_one, List.take_add_one, h]
  simp only [List.getD_eq_getElem?_getD, List.getElem?_eq_getElem ha, List.getElem?_eq_getElem hb, Option.getD_some] at e
  rw [List.getElem?_eq_getElem ha, List.getElem?_eq_getElem hb, e]

theorem sameints_good (a b : List Int) (hl : a.length ≤ 1000000) : Good Try.prog 15 [.slc 1 (ints a), .slc 1 (ints b)] (.bool (decide (a = b))) := by
  refine v_enter ttok mixed Try.func15 (by kernel_rfl) rfl Try.ntmps15 Try.results15 (by simp) ?_; rw [fresh_sto]; simp only [argEnv, List.range, List.range.loop, List.length_cons, List.length_nil, List.zip_cons_cons, List.zip_nil_left]
  by_cases hlen : (a.length : Int) = b.length
  · have hl2 : a.length = b.length := by omega
    (repeat (first | refine Stp.go ?_ | refine v_region ?_ | refine v_regionD ?_ | refine v_blocky (by decide) ?_ | ((first | refine v_o rfl ?_ ?_ | refine v_oD rfl ?_ ?_); (focus (simp only [ints_length, hlen, go_sem]; done)); simp only [Env.put]) | ((first | refine v_u rfl fun K hK => ?_ | refine v_g rfl fun K hK => ?_ | refine v_uD rfl fun K hK => ?_ | refine v_gD rfl fun K hK => ?_); simp only [ints_length, hlen, go_sem]) | (fail) | refine v_end ?_ | refine v_endD (by kernel_rfl) ?_ | (refine hK _ _ ?_; clear hK K) | refine ⟨by (first | trivial | assumption | omega | (intros; first | assumption | omega)), ?_⟩ | (apply v_condb; (focus (simp only [ints_length, hlen, go_sem]; first | exact pvt | exact pvf)); simp only [cond_true, cond_false]) | fail))
    refine v_loop [0, 1, 5] (fun k : Nat => k ≤ a.length ∧ a.take k = b.take k) (fun k => a.length - k) (fun k => [.slc 1 (ints a), .slc 1 (ints b), .int .i64 k]) (fun k => []) 0 ⟨Nat.zero_le _, rfl⟩ ?_ ?_
    · exact (fits_sto _ id (by simp [Env.get, PV.renL, PV.ren ]) (by simp [PV.refsL, PV.refs ]) (by simp [SC.live, SC.ren, SC.refs, PV.renL, PV.ren, PV.refsL, PV.refs, sto_cons, sto_nil ]) (by simp ))
    · rintro k ⟨h1, h2⟩
      simp only [List.zip_cons_cons, List.zip_nil_left]
      by_cases hc : k < a.length
      · have w1 : (k : Int) < b.length := by omega
        have w2 : (0 : Int) ≤ k := by omega
        have w3 : IntKind.i64.wrap ((k : Int) + 1) = ((k + 1 : Nat) : Int) := by rw [wrap_i64 (by omega) (by omega)]; omega
        have e1 := ints_get hc
        have e2 := ints_get (l := b) (j := k) (by omega)
        by_cases he : a.getD k 0 = b.getD k 0
        · (repeat (first | refine Stp.go ?_ | refine v_region ?_ | refine v_regionD ?_ | refine v_blocky (by decide) ?_ | ((first | refine v_o rfl ?_ ?_ | refine v_oD rfl ?_ ?_); (focus (simp only [w1, w2, w3, e1, e2, he, ints_length, hlen, go_sem]; done)); simp only [Env.put]) | ((first | refine v_u rfl fun K hK => ?_ | refine v_g rfl fun K hK => ?_ | refine v_uD rfl fun K hK => ?_ | refine v_gD rfl fun K hK => ?_); simp only [w1, w2, w3, e1, e2, he, ints_length, hlen, go_sem]) | (fail) | refine v_end ?_ | refine v_endD (by kernel_rfl) ?_ | (refine hK _ _ ?_; clear hK K) | refine ⟨by (first | trivial | assumption | omega | (intros; first | assumption | omega)), ?_⟩ | (apply v_condb; (focus (simp only [w1, w2, w3, e1, e2, he, ints_length, hlen, go_sem]; first | exact pvt | exact pvf)); simp only [cond_true, cond_false]) | fail))
          exact v_round (k + 1) ⟨hc, take_succ_eq hc (by omega) h2 0 he⟩ (by omega) (fits_sto _ id (by simp [Env.get, PV.renL, PV.ren ]) (by simp [PV.refsL, PV.refs ]) (by simp [SC.live, SC.ren, SC.refs, PV.renL, PV.ren, PV.refsL, PV.refs, sto_cons, sto_nil ]) (by simp ))
        · (repeat (first | refine Stp.go ?_ | refine v_region ?_ | refine v_regionD ?_ | refine v_blocky (by decide) ?_ | ((first | refine v_o rfl ?_ ?_ | refine v_oD rfl ?_ ?_); (focus (simp only [w1, w2, w3, e1, e2, he, ints_length, hlen, go_sem]; done)); simp only [Env.put]) | ((first | refine v_u rfl fun K hK => ?_ | refine v_g rfl fun K hK => ?_ | refine v_uD rfl fun K hK => ?_ | refine v_gD rfl fun K hK => ?_); simp only [w1, w2, w3, e1, e2, he, ints_length, hlen, go_sem]) | (refine v_loopr ?_) | refine v_end ?_ | refine v_endD (by kernel_rfl) ?_ | (refine hK _ _ ?_; clear hK K) | refine ⟨by (first | trivial | assumption | omega | (intros; first | assumption | omega)), ?_⟩ | (apply v_condb; (focus (simp only [w1, w2, w3, e1, e2, he, ints_length, hlen, go_sem]; first | exact pvt | exact pvf)); simp only [cond_true, cond_false]) | fail))
          (first | refine v_fin_n ?_ | refine v_fin_r ?_); simp only [ resK, one, PV.snap, go_sem]
          refine wk_bool ?_
          have : a ≠ b := fun h => he (by rw [h])
          simp [this]
      · have w1 : ¬ (k : Int) < b.length := by omega
        (repeat (first | refine Stp.go ?_ | refine v_region ?_ | refine v_regionD ?_ | refine v_blocky (by decide) ?_ | ((first | refine v_o rfl ?_ ?_ | refine v_oD rfl ?_ ?_); (focus (simp only [w1, ints_length, hlen, go_sem]; done)); simp only [Env.put]) | ((first | refine v_u rfl fun K hK => ?_ | refine v_g rfl fun K hK => ?_ | refine v_uD rfl fun K hK => ?_ | refine v_gD rfl fun K hK => ?_); simp only [w1, ints_length, hlen, go_sem]) | (refine v_loopx ?_) | refine v_end ?_ | refine v_endD (by kernel_rfl) ?_ | (refine hK _ _ ?_; clear hK K) | refine ⟨by (first | trivial | assumption | omega | (intros; first | assumption | omega)), ?_⟩ | (apply v_condb; (focus (simp only [w1, ints_length, hlen, go_sem]; first | exact pvt | exact pvf)); simp only [cond_true, cond_false]) | fail))
        (first | refine v_fin_n ?_ | refine v_fin_r ?_); simp only [ resK, one, PV.snap, go_sem]
        refine wk_bool ?_
        have hk : k = a.length := by omega
        rw [hk, List.take_length, hl2, List.take_length] at h2
        simp [h2]
  · (repeat (first | refine Stp.go ?_ | refine v_region ?_ | refine v_regionD ?_ | refine v_blocky (by decide) ?_ | ((first | refine v_o rfl ?_ ?_ | refine v_oD rfl ?_ ?_); (focus (simp only [ints_length, hlen, go_sem]; done)); simp only [Env.put]) | ((first | refine v_u rfl fun K hK => ?_ | refine v_g rfl fun K hK => ?_ | refine v_uD rfl fun K hK => ?_ | refine v_gD rfl fun K hK => ?_); simp only [ints_length, hlen, go_sem]) | (fail) | refine v_end ?_ | refine v_endD (by kernel_rfl) ?_ | (refine hK _ _ ?_; clear hK K) | refine ⟨by (first | trivial | assumption | omega | (intros; first | assumption | omega)), ?_⟩ | (apply v_condb; (focus (simp only [ints_length, hlen, go_sem]; first | exact pvt | exact pvf)); simp only [cond_true, cond_false]) | fail))
    (first | refine v_fin_n ?_ | refine v_fin_r ?_); simp only [ resK, one, PV.snap, go_sem]
    refine wk_bool ?_
    have : a ≠ b := fun h => hlen (by rw [h])
    simp [this]

theorem has_in_good (a : List Int) (x : Int) (hl : a.length ≤ 1000000) : Good Try.prog 18 [.slc 1 (ints a), .int .i64 x] (.bool (decide (x ∈ a))) := by
  refine v_enter ttok mixed Try.func18 (by kernel_rfl) rfl Try.ntmps18 Try.results18 (by simp) ?_; rw [fresh_sto]; simp only [argEnv, List.range, List.range.loop, List.length_cons, List.length_nil, List.zip_cons_cons, List.zip_nil_left]
  (repeat (first | refine Stp.go ?_ | refine v_region ?_ | refine v_regionD ?_ | refine v_blocky (by decide) ?_ | ((first | refine v_o rfl ?_ ?_ | refine v_oD rfl ?_ ?_); (focus (simp only [ints_length, go_sem]; done)); simp only [Env.put]) | ((first | refine v_u rfl fun K hK => ?_ | refine v_g rfl fun K hK => ?_ | refine v_uD rfl fun K hK => ?_ | refine v_gD rfl fun K hK => ?_); simp only [ints_length, go_sem]) | (fail) | refine v_end ?_ | refine v_endD (by kernel_rfl) ?_ | (refine hK _ _ ?_; clear hK K) | refine ⟨by (first | trivial | assumption | omega | (intros; first | assumption | omega)), ?_⟩ | (apply v_condb; (focus (simp only [ints_length, go_sem]; first | exact pvt | exact pvf)); simp only [cond_true, cond_false]) | fail))
  refine v_loop [0, 1, 5] (fun k : Nat => k ≤ a.length ∧ x ∉ a.take k) (fun k => a.length - k) (fun k => [.slc 1 (ints a), .int .i64 x, .int .i64 k]) (fun k => []) 0 ⟨Nat.zero_le _, by simp⟩ ?_ ?_
  · exact (fits_sto _ id (by simp [Env.get, PV.renL, PV.ren ]) (by simp [PV.refsL, PV.refs ]) (by simp [SC.live, SC.ren, SC.refs, PV.renL, PV.ren, PV.refsL, PV.refs, sto_cons, sto_nil ]) (by simp ))
  · rintro k ⟨h1, h2⟩
    simp only [List.zip_cons_cons, List.zip_nil_left]
    by_cases hc : k < a.length
    · have w1 : (k : Int) < a.length := by omega
      have w2 : (0 : Int) ≤ k := by omega
      have w3 : IntKind.i64.wrap ((k : Int) + 1) = ((k + 1 : Nat) : Int) := by rw [wrap_i64 (by omega) (by omega)]; omega
      have e1 := ints_get hc
      have em : a.getD k 0 ∈ a := by simp [List.getD, hc]
      by_cases he : a.getD k 0 = x
      · (repeat (first | refine Stp.go ?_ | refine v_region ?_ | refine v_regionD ?_ | refine v_blocky (by decide) ?_ | ((first | refine v_o rfl ?_ ?_ | refine v_oD rfl ?_ ?_); (focus (simp only [w1, w2, w3, e1, he, ints_length, go_sem]; done)); simp only [Env.put]) | ((first | refine v_u rfl fun K hK => ?_ | refine v_g rfl fun K hK => ?_ | refine v_uD rfl fun K hK => ?_ | refine v_gD rfl fun K hK => ?_); simp only [w1, w2, w3, e1, he, ints_length, go_sem]) | (refine v_loopr ?_) | refine v_end ?_ | refine v_endD (by kernel_rfl) ?_ | (refine hK _ _ ?_; clear hK K) | refine ⟨by (first | trivial | assumption | omega | (intros; first | assumption | omega)), ?_⟩ | (apply v_condb; (focus (simp only [w1, w2, w3, e1, he, ints_length, go_sem]; first | exact pvt | exact pvf)); simp only [cond_true, cond_false]) | fail))
        (first | refine v_fin_n ?_ | refine v_fin_r ?_); simp only [ resK, one, PV.snap, go_sem]
        refine wk_bool ?_
        rw [he] at em
        simp [em]
      · (repeat (first | refine Stp.go ?_ | refine v_region ?_ | refine v_regionD ?_ | refine v_blocky (by decide) ?_ | ((first | refine v_o rfl ?_ ?_ | refine v_oD rfl ?_ ?_); (focus (simp only [w1, w2, w3, e1, he, ints_length, go_sem]; done)); simp only [Env.put]) | ((first | refine v_u rfl fun K hK => ?_ | refine v_g rfl fun K hK => ?_ | refine v_uD rfl fun K hK => ?_ | refine v_gD rfl fun K hK => ?_); simp only [w1, w2, w3, e1, he, ints_length, go_sem]) | (fail) | refine v_end ?_ | refine v_endD (by kernel_rfl) ?_ | (refine hK _ _ ?_; clear hK K) | refine ⟨by (first | trivial | assumption | omega | (intros; first | assumption | omega)), ?_⟩ | (apply v_condb; (focus (simp only [w1, w2, w3, e1, he, ints_length, go_sem]; first | exact pvt | exact pvf)); simp only [cond_true, cond_false]) | fail))
        refine v_round (k + 1) ⟨hc, ?_⟩ (by omega) (fits_sto _ id (by simp [Env.get, PV.renL, PV.ren ]) (by simp [PV.refsL, PV.refs ]) (by simp [SC.live, SC.ren, SC.refs, PV.renL, PV.ren, PV.refsL, PV.refs, sto_cons, sto_nil ]) (by simp ))
        rw [List.take_add_one, List.mem_append]
        rintro (h | h)
        · exact h2 h
        · simp only [List.getElem?_eq_getElem hc, Option.toList_some, List.mem_singleton] at h
          exact he (by simp [List.getD, hc, h])
    · have w1 : ¬ (k : Int) < a.length := by omega
      (repeat (first | refine Stp.go ?_ | refine v_region ?_ | refine v_regionD ?_ | refine v_blocky (by decide) ?_ | ((first | refine v_o rfl ?_ ?_ | refine v_oD rfl ?_ ?_); (focus (simp only [w1, ints_length, go_sem]; done)); simp only [Env.put]) | ((first | refine v_u rfl fun K hK => ?_ | refine v_g rfl fun K hK => ?_ | refine v_uD rfl fun K hK => ?_ | refine v_gD rfl fun K hK => ?_); simp only [w1, ints_length, go_sem]) | (refine v_loopx ?_) | refine v_end ?_ | refine v_endD (by kernel_rfl) ?_ | (refine hK _ _ ?_; clear hK K) | refine ⟨by (first | trivial | assumption | omega | (intros; first | assumption | omega)), ?_⟩ | (apply v_condb; (focus (simp only [w1, ints_length, go_sem]; first | exact pvt | exact pvf)); simp only [cond_true, cond_false]) | fail))
      (first | refine v_fin_n ?_ | refine v_fin_r ?_); simp only [ resK, one, PV.snap, go_sem]
      refine wk_bool ?_
      rw [List.take_of_length_le (by omega)] at h2
      simp [h2]
end Go.V
/- Layer 11: which arcs begin a shortest path; layer 12: the next arcs, as the document has them. -/
set_option linter.unusedVariables false
set_option linter.unusedSimpArgs false
namespace Go.V
open Go.RowKit Go.Proofs
attribute [local irreducible] wp seqK lexK opK callK upd sto Good

theorem Lnk.ok_iff {l : Lnk} {n : Int} (h : l.ok n = true) : 0 ≤ l.a ∧ l.a < n ∧ 0 ≤ l.b ∧ l.b < n ∧ l.a ≠ l.b ∧ 1 ≤ l.c0 ∧ l.c0 ≤ 65535 ∧ 1 ≤ l.c1 ∧ l.c1 ≤ 65535 := by
  simp [Lnk.ok] at h; omega
theorem Topo.tail_in {t : Topo} (ht : t.ok = true) {a : Int} (ha : t.arc a) : 0 ≤ t.tail a ∧ t.tail a < t.n := by
  have := Lnk.ok_iff (t.ok_link ht (t.link_mem ha)); unfold Topo.tail; split <;> omega
theorem Topo.head_in {t : Topo} (ht : t.ok = true) {a : Int} (ha : t.arc a) : 0 ≤ t.head a ∧ t.head a < t.n := by
  have := Lnk.ok_iff (t.ok_link ht (t.link_mem ha)); unfold Topo.head; split <;> omega
theorem Topo.cost_in {t : Topo} (ht : t.ok = true) {a : Int} (ha : t.arc a) : 1 ≤ t.cost a ∧ t.cost a ≤ 65535 := by
  have := Lnk.ok_iff (t.ok_link ht (t.link_mem ha)); unfold Topo.cost; split <;> omega
theorem Topo.tail_ne {t : Topo} (ht : t.ok = true) {a : Int} (ha : t.arc a) : t.tail a ≠ t.head a := by
  have := Lnk.ok_iff (t.ok_link ht (t.link_mem ha)); unfold Topo.tail Topo.head; split <;> omega

/-- Distances of the nodes: small numbers. -/
def distOk (t : Topo) (dist : List Int) : Prop := (dist.length : Int) = t.n ∧ ∀ x ∈ dist, -1 ≤ x ∧ x ≤ 1099511627776
theorem distOk.get {t : Topo} {dist : List Int} (h : distOk t dist) (n : Nat) (hn : n < dist.length) : -1 ≤ dist.getD n 0 ∧ dist.getD n 0 ≤ 1099511627776 :=
  h.2 _ (by simp [List.getD, hn])

def onB (t : Topo) (down : List Bool) (dist : List Int) (a d : Int) : Bool :=
  upB down a && !decide (t.tail a = d) && decide (0 ≤ dist.getD (t.head a).toNat 0) && (decide (t.head a = d) || !t.over (t.head a)) && decide (dist.getD (t.tail a).toNat 0 = dist.getD (t.head a).toNat 0 + t.cost a)

set_option maxHeartbeats 1000000 in
theorem on_good (t : Topo) (down : List Bool) (dist : List Int) (a d : Int) (ht : t.ok = true) (ha : t.arc a) (hm : down.length = 0 ∨ down.length = 2 * t.ls.length) (hd : distOk t dist) :
    Good Try.prog 60 [pvT t, .slc 1 (bools down), .slc 1 (ints dist), .int .i64 a, .int .i64 d] (.bool (onB t down dist a d)) := by
  refine v_enter ttok mixed Try.func60 (by kernel_rfl) rfl Try.ntmps60 Try.results60 (by simp) ?_; rw [fresh_sto]; simp only [argEnv, List.range, List.range.loop, List.length_cons, List.length_nil, List.zip_cons_cons, List.zip_nil_left]
  obtain ⟨x1, x2⟩ := t.tail_in ht ha
  obtain ⟨y1, y2⟩ := t.head_in ht ha
  obtain ⟨c1, c2⟩ := t.cost_in ht ha
  have hl := hd.1
  have e1 : (ints dist).getD (t.tail a).toNat .undef = .int .i64 (dist.getD (t.tail a).toNat 0) := ints_get (by omega)
  have e2 : (ints dist).getD (t.head a).toNat .undef = .int .i64 (dist.getD (t.head a).toNat 0) := ints_get (by omega)
  have b2 := hd.get (t.head a).toNat (by omega)
  have w1 : t.tail a < dist.length := by omega
  have w2 : t.head a < dist.length := by omega
  have u := rup_good down a ha.1 (by rcases hm with h | h; exact .inl h; exact .inr (by have := ha.2; omega))
  have ct := rcost_good t a ht ha
  have tr := transit_good t (t.head a) d ht
  have tl := rtail_good t a ht ha
  have hh := rhead_good t a ht ha
  unfold onB
  generalize dist.getD (t.tail a).toNat 0 = dx at *
  generalize dist.getD (t.head a).toNat 0 = dy at *
  have e3 : IntKind.i64.wrap (dy + t.cost a) = dy + t.cost a := wrap_i64 (by omega) (by omega)
  generalize t.tail a = x at *
  generalize t.head a = y at *
  generalize t.cost a = c at *
  generalize upB down a = ub at *
  generalize t.over y = oy at *
  (repeat (first | refine Stp.go ?_ | refine v_region ?_ | refine v_regionD ?_ | refine v_blocky (by decide) ?_ | ((first | refine v_o rfl ?_ ?_ | refine v_oD rfl ?_ ?_); (focus (simp only [pvT, ite_bool, ints_length, x1, y1, w1, w2, e1, e2, e3, go_sem]; done)); simp only [Env.put]) | ((first | refine v_u rfl fun K hK => ?_ | refine v_g rfl fun K hK => ?_ | refine v_uD rfl fun K hK => ?_ | refine v_gD rfl fun K hK => ?_); simp only [pvT, ite_bool, ints_length, x1, y1, w1, w2, e1, e2, e3, go_sem]) | (first | (refine callK_pure (fun hc => u) rfl ?_; simp only [upds, eq_self, true_or, true_and]) | (refine callK_pure (fun hc => ct) rfl ?_; simp only [upds, eq_self, true_or, true_and]) | (refine callK_pure (fun hc => tr) rfl ?_; simp only [upds, eq_self, true_or, true_and]) | (refine callK_pure (fun hc => tl) rfl ?_; simp only [upds, eq_self, true_or, true_and]) | (refine callK_pure (fun hc => hh) rfl ?_; simp only [upds, eq_self, true_or, true_and])) | refine v_end ?_ | refine v_endD (by kernel_rfl) ?_ | (refine hK _ _ ?_; clear hK K) | refine ⟨by (first | trivial | assumption | omega | (intros; first | assumption | omega)), ?_⟩ | (apply v_condb; (focus (simp only [pvT, ite_bool, ints_length, x1, y1, w1, w2, e1, e2, e3, go_sem]; first | exact pvt | exact pvf)); simp only [cond_true, cond_false]) | fail))
  (first | refine v_fin_n ?_ | refine v_fin_r ?_); simp only [ resK, one, PV.snap, go_sem]
  refine wk_bool ?_
  cases ub <;> simp
end Go.V
