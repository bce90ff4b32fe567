import Derived.Test.YtjadcdikckmooaaM4
/- A part of a proof, with no condition of its own. Merged texts: VY VZ VFZ. -/
/- The value logic, part 25: the rules of a walk. -/
set_option linter.unusedVariables false
set_option linter.unusedSimpArgs false
namespace Go.V
open Go.RowKit

attribute [go_sem] mapK kMakeMap kLookup kMapPut mapFind mapPut found guardK opt_none opt_some Free int_beq int_bne gt_iff_lt ge_iff_le dstOk execK uns_nil uns_cons unc need kMove kPick kAlloc kBox kFill kBuild kBuildSlice kLoad kStore kNilCheck kBin kUn kConvert kMakeFunc kMakeSlice kCut kSlice kFieldAddr kField kIndexAddr kIndex kExtract kLen kMin kMax kAppendTo kAppend kCall wrapK Env.get Env.put Env.eval PV.ofConst PV.cells PV.storable PV.cellish PV.ite intVC elemOf ofCells TK.isAgg upds upd_sto sto_cons sto_nil fillP fillE splice contents sliceArgs bound PV.setCells Op.operands Call.operands List.map_cons List.map_nil List.append_nil List.nil_append List.cons_append List.length_cons List.length_nil List.getD_cons_zero List.getD_cons_succ List.drop_zero List.drop_succ_cons List.take_zero List.take_succ_cons List.zip_cons_cons List.zip_nil_left List.getElem?_cons_zero List.getElem?_cons_succ List.set_cons_zero List.set_cons_succ Option.isSome_some Option.isSome_none Option.map_some Option.map_none Array.toList_append List.flatMap_cons List.flatMap_nil if_true if_false true_and and_true true_implies forall_const true_or or_true Bool.true_eq_false Bool.false_eq_true ne_eq not_false_eq_true not_true eq_self and_self Nat.lt_irrefl Nat.le_refl Nat.zero_le Nat.add_zero Nat.zero_add Nat.zero_mul Nat.mul_one Nat.one_mul Bool.decide_eq_true decide_true decide_false List.getElem?_toArray Int.toNat_zero Int.toNat_natCast Bool.true_and Bool.and_true Bool.and_false Bool.false_and Bool.or_true Bool.true_or Bool.or_false Bool.false_or Bool.not_true Bool.not_false beq_true beq_false Bool.not_eq_true' Bool.not_eq_false' false_implies or_false false_or and_false false_and implies_true List.toList_toArray List.size_toArray List.map_toArray
attribute [go_sem] tt_1  tt_2  tt_3  tt_4  tt_5  tt_6  tt_7  tt_8  tt_9  tt_10  tt_11  tt_12  tt_13  tt_14  tt_15  tt_16  tt_17  tt_18  tt_19  tt_20  tt_21  tt_22  tt_23  tt_24  tt_25  tt_26  tt_27  tt_28  tt_29  tt_30  tt_32  tt_33  tt_34  tt_35  tt_36  tt_37  tt_38  tt_39  tt_40  tt_42  tt_43  tt_44  tt_46  tt_47  tt_48  tt_49  tt_50  tt_51  tt_52  tt_53  tt_54  tt_55  tt_57  tt_58  tt_59  tt_60  tt_61  tt_62  tt_63  tt_65  tt_66  tt_67  tt_69  tt_70  tt_71  tt_72  tt_73  tt_74  tt_75  tt_76  tt_77  tt_78  tt_79  tt_80  tt_81  tt_82  tt_83  tt_84  tt_85  tt_87  tt_88  tt_89  tt_90  tt_91  tt_92  tt_93  tt_94  tt_95  tt_96  tt_97  tt_98  tt_100  tt_102  tt_103  tt_104  tt_105  tt_106  tt_107  tt_109  tt_110  tt_111  tt_112  tt_113  tt_114  tt_115  tt_116  tt_117  tt_119  tt_120  tt_121  tt_122  tt_123  tt_124  tt_126  tt_127  tt_129  tt_131  tt_132  tt_133  tt_134  tt_135  tt_136  tt_137  tt_138  tt_139  tt_140  tt_141  tt_142  tt_143  tt_144  tt_148  tt_149  tt_150  tt_151  tt_152  tt_153  tt_154  tt_155  tt_156  tt_157  tt_158  tt_159
theorem intOp_add (k : IntKind) (x y : Int) : intOp .add k x y = .int k (k.wrap (x + y)) := rfl
theorem intOp_sub (k : IntKind) (x y : Int) : intOp .sub k x y = .int k (k.wrap (x - y)) := rfl
theorem intOp_mul (k : IntKind) (x y : Int) : intOp .mul k x y = .int k (k.wrap (x * y)) := rfl
theorem intOp_quo (k : IntKind) (x y : Int) : intOp .quo k x y = .int k (k.wrap (x.tdiv y)) := rfl
theorem intOp_rem (k : IntKind) (x y : Int) : intOp .rem k x y = .int k (x.tmod y) := rfl
theorem intOp_shl (k : IntKind) (x y : Int) : intOp .shl k x y = .int k (k.wrap (x * 2 ^ min y.toNat k.bits)) := rfl
theorem intOp_shr (k : IntKind) (x y : Int) : intOp .shr k x y = .int k (x.fdiv (2 ^ min y.toNat k.bits)) := rfl
theorem intOp_eql (k : IntKind) (x y : Int) : intOp .eql k x y = .bool (x == y) := rfl
theorem intOp_neq (k : IntKind) (x y : Int) : intOp .neq k x y = .bool (x != y) := rfl
theorem intOp_lss (k : IntKind) (x y : Int) : intOp .lss k x y = .bool (decide (x < y)) := rfl
theorem intOp_leq (k : IntKind) (x y : Int) : intOp .leq k x y = .bool (decide (x ≤ y)) := rfl
theorem intOp_gtr (k : IntKind) (x y : Int) : intOp .gtr k x y = .bool (decide (x > y)) := rfl
theorem intOp_geq (k : IntKind) (x y : Int) : intOp .geq k x y = .bool (decide (x ≥ y)) := rfl
attribute [go_sem] intOp_add intOp_sub intOp_mul intOp_quo intOp_rem intOp_shl intOp_shr intOp_eql intOp_neq intOp_lss intOp_leq intOp_gtr intOp_geq

def dstB (N : Nat) : Option Nat → Bool
  | none => true
  | some d => Nat.blt d N
theorem dstB_ok {N : Nat} {d : Option Nat} (h : dstB N d = true) : dstOk N d := by
  cases d with
  | none => exact trivial
  | some d => simpa [dstB, dstOk] using h
section
variable {P : Program} {tt : TT} {N : Nat} {env : Env} {g : Store} {ds : List (Option Nat)} {d : Option Nat} {p : Op} {T : TypeId} {ps : String} {af} {x : Nat × Bool} {rest : List Oper} {fid : Nat} {acc : List FP}
theorem v_u {Q : Env → Store → Prop} (hd : dstB N d = true)
    (h : ∀ K : Env → Store → Prop, (∀ env' g', seqK P tt N ds rest (fid + 1) env' g' Q → K env' g') → execK P tt true p (p.operands.toList.map env.eval) g fid fun v u => K (env.put d v) (upds g u)) :
    seqK P tt N ds (⟨d, p, T, ps, af, none⟩ :: rest) fid env g Q :=
  v_step fun K hK => opK_of ⟨dstB_ok hd, by simpa [guardK, wrapK] using h K hK⟩
theorem v_g {Q : Env → Store → Prop} (hd : dstB N d = true)
    (h : ∀ K : Env → Store → Prop, (∀ env' g', seqK P tt N ds rest (fid + 1) env' g' Q → K env' g') → guardK ds env (some x) fun c => execK P tt c p (p.operands.toList.map env.eval) g fid fun v u => (u = [] ∨ c = true) ∧ K (env.put d (.cnd c v)) (upds g u)) :
    seqK P tt N ds (⟨d, p, T, ps, af, some x⟩ :: rest) fid env g Q :=
  v_step fun K hK => opK_of ⟨dstB_ok hd, h K hK⟩
theorem v_uD {Q : List FP → Env → Store → Prop} (hd : dstB N d = true)
    (h : ∀ K : Env → Store → Prop, (∀ env' g', lexK P tt N ds rest (fid + 1) env' g' (fpOf p (p.operands.toList.map env.eval) fid :: acc) Q → K env' g') → execK P tt true p (p.operands.toList.map env.eval) g fid fun v u => K (env.put d v) (upds g u)) :
    lexK P tt N ds (⟨d, p, T, ps, af, none⟩ :: rest) fid env g acc Q :=
  v_stepD fun K hK => opK_of ⟨dstB_ok hd, by simpa [guardK, wrapK] using h K hK⟩
theorem v_gD {Q : List FP → Env → Store → Prop} (hd : dstB N d = true)
    (h : ∀ K : Env → Store → Prop, (∀ env' g', lexK P tt N ds rest (fid + 1) env' g' (fpOf p (p.operands.toList.map env.eval) fid :: acc) Q → K env' g') → guardK ds env (some x) fun c => execK P tt c p (p.operands.toList.map env.eval) g fid fun v u => (u = [] ∨ c = true) ∧ K (env.put d (.cnd c v)) (upds g u)) :
    lexK P tt N ds (⟨d, p, T, ps, af, some x⟩ :: rest) fid env g acc Q :=
  v_stepD fun K hK => opK_of ⟨dstB_ok hd, h K hK⟩
theorem v_o {Q : Env → Store → Prop} (hd : dstB N d = true) (hg : guardK ds env (some x) fun c => c = false) (h : seqK P tt N ds rest (fid + 1) (env.put d (.cnd false (.bool false))) g Q) :
    seqK P tt N ds (⟨d, p, T, ps, af, some x⟩ :: rest) fid env g Q := v_off hg (dstB_ok hd) h
theorem v_oD {Q : List FP → Env → Store → Prop} (hd : dstB N d = true) (hg : guardK ds env (some x) fun c => c = false) (h : lexK P tt N ds rest (fid + 1) (env.put d (.cnd false (.bool false))) g (fpOf p (p.operands.toList.map env.eval) fid :: acc) Q) :
    lexK P tt N ds (⟨d, p, T, ps, af, some x⟩ :: rest) fid env g acc Q := v_offD hg (dstB_ok hd) h
end
/-- A condition that is decided. -/
theorem pvt : PV.bool true = PV.bool true := rfl
theorem pvf : PV.bool false = PV.bool false := rfl
theorem v_condb {P : Program} {tt : TT} {N : Nat} {Q : VX → Env → Store → Prop} {env : Env} {g : Store} {c : Operand} {a b : Code} {t : Bool} (hc : env.eval c = .bool t) (h : wp P tt N (bif t then a else b) Q env g) : wp P tt N (.cond c a b) Q env g := by
  cases t
  · exact v_condf hc h
  · exact v_condt hc h
attribute [go_sem] reduceIte Nat.reduceLT Nat.reduceEqDiff Nat.reduceAdd Nat.reduceMul Nat.reduceSub Nat.reduceLeDiff Nat.reduceBEq Nat.reduceMod Nat.reduceDiv Nat.reduceSucc Int.reduceToNat Int.reduceLE Int.reduceLT Int.reduceNeg Int.reduceEq Int.reduceAdd Int.reduceSub Int.reduceMul reduceCtorEq
/-- A step of a walk that leaves one goal. -/
class Stp (G : Prop) (H : outParam Prop) : Prop where
  go : H → G
section
variable {P : Program} {tt : TT} {N : Nat} {Q : VX → Env → Store → Prop} {env : Env} {g : Store}
instance {a b : Code} : Stp (wp P tt N (.seq a b) Q env g) (wp P tt N a (seqQ P tt N b Q) env g) := ⟨v_seq⟩
instance {b : Code} : Stp (seqQ P tt N b Q .normal env g) (wp P tt N b Q env g) := ⟨v_seqn⟩
instance {b : Code} : Stp (seqQ P tt N b Q .ret env g) (Q .ret env g) := ⟨v_seqr⟩
instance {b : Code} {i : Nat} : Stp (seqQ P tt N b Q (.exit i) env g) (Q (.exit i) env g) := ⟨v_seqx⟩
instance {id : Nat} {a : Code} : Stp (wp P tt N (.block id a) Q env g) (wp P tt N a (blockQ id Q) env g) := ⟨v_block⟩
instance {id : Nat} : Stp (blockQ id Q .normal env g) (Q .normal env g) := ⟨v_blockn⟩
instance {id : Nat} : Stp (blockQ id Q .ret env g) (Q .ret env g) := ⟨v_blockr⟩
instance {id : Nat} : Stp (blockQ id Q (.exit id) env g) (Q .normal env g) := ⟨v_blockx⟩
instance : Stp (wp P tt N .skip Q env g) (Q .normal env g) := ⟨v_skip⟩
instance {id : Nat} : Stp (wp P tt N (.exit id) Q env g) (Q (.exit id) env g) := ⟨v_exit⟩
instance : Stp (wp P tt N .ret Q env g) (Q .ret env g) := ⟨v_ret⟩
instance {c : Code} : Stp (wp P tt N (.scope c) Q env g) (wp P tt N c Q env g) := ⟨v_scope⟩
end
end Go.V
/- The value logic, part 24: steps of a walk: ranges over slices.Backward. -/
set_option linter.unusedVariables false
set_option linter.unusedSimpArgs false
namespace Go.V
open Go.RowKit

theorem ren_fresh (f : Nat → Nat) : SC.ren f .fresh = .fresh := rfl
theorem sto_shift : ∀ (l : List (Nat × SC)) (id : Nat), sto (l.map fun x => (x.1 + 100, SC.ren sh x.2)) (id + 100) = SC.ren sh (sto l id)
  | [], id => rfl
  | (a, c) :: l, id => by
    rw [List.map_cons, sto_cons, sto_cons]
    by_cases h : id = a
    · subst h; rw [if_pos rfl, if_pos rfl]
    · rw [if_neg (by simp only; omega), if_neg h]; exact sto_shift l id
theorem shiftS_sto {l : List (Nat × SC)} (h : ∀ x ∈ l, x.1 < 100) : shiftS (sto l) = sto (l.map fun x => (x.1 + 100, SC.ren sh x.2)) := by
  funext id
  unfold shiftS
  split
  · rename_i hc
    have := sto_shift l (id - 100)
    rw [show id - 100 + 100 = id by omega] at this
    exact this.symm
  · rename_i hc
    rw [sto_none]
    intro hm
    simp only [List.map_map, List.mem_map, Function.comp] at hm
    obtain ⟨x, hx, rfl⟩ := hm
    have := h x hx
    omega

/-- What is asked of the end of a round. -/
def rangeQ {α : Type} (D : List Nat) (objs : α → List (Nat × SC)) (I : Nat → α → Prop) (n : Nat) : VX → Env → Store → Prop := fun x _ g'' => x = .normal ∧ ∃ s, I n s ∧ ∀ id ∈ D, g'' id = sto (objs s) id

section
variable {P : Program} {tt : TT} {N : Nat} {Q : VX → Env → Store → Prop} {env : Env} {g : Store}

/-- for i, x := range slices.Backward(zs): a relation for the number of elements that are left. -/
theorem v_range {α : Type} (L : List Nat) (ps0 : List PV) (D : List Nat) (objs : α → List (Nat × SC)) (I : Nat → α → Prop) (s0 : α) {f : Operand} {p1 p2 id : Nat} {ops : List Oper} {body : Code} {k box T : Nat} {zs : List Int}
    (hnr : noRange body = true) (hp1 : p1 < N) (hp2 : p2 < N) (hops : AsgOk N ops) (hseq : BackSeq P k) (hlen : zs.length ≤ 17592186044416) (hD : ∀ x ∈ D, x < 100) (hbx : box < 100)
    (hf : Env.eval (L.zip (PV.renL sh ps0)) f = .fn k [] [.ptr (box + 100) 1 0 0])
    (hfit : Fits env g L (PV.renL sh ps0) (sto ((objs s0).map fun x => (x.1 + 100, SC.ren sh x.2)))) (h0 : I zs.length s0)
    (hk : ∀ s, (objs s).map (·.1) = D) (hok : ∀ s, OkSt D (sto (objs s))) (hbox : ∀ s, sto (objs s) box = .row T 1 [.slc 1 (ints zs)]) (hrefs : ∀ id ∈ PV.refsL ps0, id ∈ D)
    (hround : ∀ (n : Nat) s, n < zs.length → I (n + 1) s → wp P tt N body (rangeQ D objs I n) (asgEnv ops ((Env.put (L.zip ps0) (some p1) (.int .i64 n)).put (some p2) (.int .i64 (zs.getD n 0)))) (sto (objs s)))
    (hend : ∀ s, I 0 s → Q .normal (L.zip (PV.renL sh ps0)) (sto ((objs s).map fun x => (x.1 + 100, SC.ren sh x.2)))) : wp P tt N (.rangeFunc f #[p1, p2] (.region id ops.toArray false) body) Q env g := by
  have hsh : ∀ s, shiftS (sto (objs s)) = sto ((objs s).map fun x => (x.1 + 100, SC.ren sh x.2)) := fun s => shiftS_sto fun x hx => hD _ (by rw [← hk s]; exact List.mem_map_of_mem hx)
  refine ⟨hnr, k, box, T, zs, p1, p2, id, ops, L, ps0, sto (objs s0), D, fun n g' => ∃ s, I n s ∧ g' = sto (objs s), rfl, hp1, hp2, rfl, hops, hseq, hlen, hf, by rw [hsh]; exact hfit, ⟨s0, h0, rfl⟩, hbx, ?_, hrefs, ?_, ?_⟩
  · rintro n g' ⟨s, _, rfl⟩
    exact ⟨hok s, hbox s⟩
  · rintro n g' hn ⟨s, hs, rfl⟩
    have := hround n s hn hs
    have e : rangeQ D objs I n = (fun x (_ : Env) g'' => x = .normal ∧ ∃ g1, (∃ s, I n s ∧ g1 = sto (objs s)) ∧ ∀ id ∈ D, g'' id = g1 id) := by
      funext x _ g''
      simp only [rangeQ, eq_iff_iff]
      exact ⟨fun ⟨h1, s, h2, h3⟩ => ⟨h1, _, ⟨s, h2, rfl⟩, h3⟩, fun ⟨h1, _, ⟨s, h2, h4⟩, h3⟩ => ⟨h1, s, h2, h4 ▸ h3⟩⟩
    rw [e] at this
    exact this
  · rintro g' ⟨s, hs, rfl⟩
    rw [hsh]; exact hend s hs
theorem v_rangeq {α : Type} {D : List Nat} {objs : α → List (Nat × SC)} {I : Nat → α → Prop} {n : Nat} (s : α) (h1 : I n s) (h2 : ∀ id ∈ D, g id = sto (objs s) id) : rangeQ D objs I n .normal env g := ⟨rfl, s, h1, h2⟩
end
attribute [irreducible] rangeQ
end Go.V
/- The value logic, part 26: own objects that are given up: from now on they are read alone. -/
set_option linter.unusedVariables false
set_option linter.unusedSimpArgs false
namespace Go.V
open Go.RowKit

def frzC : SC → SC
  | .fresh => .fresh
  | _ => .dead
def frzS (g : Store) : Store := fun id => frzC (g id)
theorem frzC_live (c : SC) : (frzC c).live = false := by cases c <;> rfl
theorem frzC_fresh (c : SC) : frzC c = .fresh ↔ c = .fresh := by cases c <;> simp [frzC]
theorem frzS_sto : ∀ (l : List (Nat × SC)), frzS (sto l) = sto (l.map fun x => (x.1, frzC x.2))
  | [] => rfl
  | (a, c) :: l => by
    funext b
    have ih := congrFun (frzS_sto l) b
    simp only [frzS] at ih
    simp only [frzS, List.map_cons, sto_cons]
    split
    · rfl
    · exact ih
def frzE (env : Env) (g : Store) (L : List Nat) : Env := L.zip (L.map fun t => PV.snap g 6 (env.get t))

section
variable {P : Program} {tt : TT} {N : Nat}
theorem strel_frz {w0 : World} {K : KA} {B0 : Nat → Prop} {env : Env} {g : Store} {a : Act} {w : World} (L : List Nat) (hK : ∀ b, b < w0.heap.size → K b) (h : StRel w0 K B0 N (env.get, g) a w) :
    StRel w0 K B0 N ((frzE env g L).get, frzS g) a w := by
  obtain ⟨m, μ, hS, hE, hN, hM⟩ := h
  have hlive : ∀ id, (frzS g id).live = true → False := fun id h => by
    have := frzC_live (g id)
    unfold frzS at h
    rw [this] at h; cases h
  have hstab : ∀ b, SF w0 B0 g μ w b → Stab w0 B0 (frzS g) μ w b := by
    rintro b (⟨h1, h2, _⟩ | ⟨id, base, hl, hm⟩)
    · exact ⟨h1, h2, fun ⟨id, base, hl, _⟩ => hlive _ hl⟩
    · obtain ⟨q1, q2⟩ := hS.blk id b base hl hm
      exact ⟨.inr (Nat.le_of_not_lt fun hlt => q2 hlt (hK b hlt)), q1, fun ⟨id, base, hl, _⟩ => hlive _ hl⟩
  refine ⟨m, μ, ⟨fun id _ _ _ _ hl => (hlive _ hl).elim, fun id => (frzC_fresh _).trans (hS.fresh id), fun id _ _ hl => (hlive _ hl).elim, fun id _ _ hl => (hlive _ hl).elim, hS.b0, hS.os, hS.tape, hS.output, hS.size, hS.kept, hS.sized, fun id _ hl => (hlive _ hl).elim, hS.marks⟩, fun t => ?_, hN, hM⟩
  simp only
  rcases zip_get L (L.map fun t => PV.snap g 6 (env.get t)) t with h1 | ⟨j, p, h1, h2, h3⟩
  · unfold frzE; rw [h1]; exact .undef _ _
  · unfold frzE
    rw [h3]
    rw [List.getElem?_map, h1] at h2
    obtain rfl := Option.some.inj h2
    exact (snap_rep hS 6 _ _ (hE t)).step hstab (fun _ _ => rfl) (fun _ _ _ h => by cases h)

/-- Straight statements; behind the z-th all own objects are given up. -/
def wpZ (P : Program) (tt : TT) (N : Nat) : Nat → Code → (VX → Env → Store → Prop) → Env → Store → Prop
  | 0, c, Q, env, g => ∃ L, wp P tt N c Q (frzE env g L) (frzS g)
  | z + 1, .seq a b, Q, env, g => wp P tt N a (fun x env' g' => x = .normal ∧ wpZ P tt N z b Q env' g') env g
  | _, _, _, _, _ => False

theorem wpZ_sound (htt : TTOk P tt) (hm : P.follows .mixedOrders = true) : ∀ (z : Nat) (c : Code) {m : Nat} {w0 : World} {K : KA} {B0 : Nat → Prop} (Q : VX → Env → Store → Prop) (env : Env) (g : Store) (a : Act) (w : World), (∀ b, b < w0.heap.size → K b) → wpZ P tt N z c Q env g → StRel w0 K B0 N (env.get, g) a w → c.wpIn (FR none) m P (XQ w0 K B0 N Q) a w
  | 0, c, m, w0, K, B0, Q, env, g, a, w, hK, h, hs => by
    obtain ⟨L, h⟩ := h
    exact wp_sound htt hm c _ _ _ _ _ (.inl rfl) h (strel_frz L hK hs)
  | z + 1, c, m, w0, K, B0, Q, env, g, a, w, hK, h, hs => by
    cases c with
    | seq x y =>
      refine wpIn_seq (wpIn_mono (wp_sound htt hm x _ env g a w (.inl rfl) h hs) ?_)
      intro e a' w' hq
      cases e with
      | normal => obtain ⟨env', g', ⟨_, h1⟩, h2⟩ := hq; exact wpZ_sound htt hm z y Q env' g' a' w' hK h1 h2
      | exit id => obtain ⟨env', g', ⟨h1, _⟩, h2⟩ := hq; cases h1
      | ret => obtain ⟨env', g', ⟨h1, _⟩, h2⟩ := hq; cases h1
      | goto l => exact hq.elim
      | panic ch => exact hq.elim
      | outgrown => exact hq.elim
    | _ => exact h.elim

theorem good_of_wpZ (z : Nat) (htt : TTOk P tt) (hm : P.follows .mixedOrders = true) {k : FuncId} {fn : Func} {c : Code} (hf : P.funcs[k]? = some fn) (hname : (fn.name == "runtime.NumGoroutine") = false) (hb : fn.body = some c) (hN : fn.ntmps = N)
    {args : List PV} {r : PV} (hlen : args.length ≤ N)
    (h : wpZ P tt N z c (fun x env g => match x with
      | .exit _ => False
      | _ => resK tt fn.results.toList env g fun ps => Wk (PV.snap g 6 (one ps)) r) (argEnv args) (fun _ => .fresh)) : Good P k args r := by
  refine ⟨⟨fn, c, hf, hname, hb⟩, fun w B vs hB hl hr => ?_⟩
  refine callsIn_wide.1 (callsIn_of_wp_marks (n := 0) hf hb trivial ?_)
  have hsim : Sim w ⟨fun _ => True, noMu, fun _ => False⟩ B (fun _ => SC.fresh) noMu w := by
    refine ⟨fun id id' b base base' hl => by simp [SC.live] at hl, fun id => ⟨fun _ => rfl, fun _ => rfl⟩, fun id b base hl => by simp [SC.live] at hl, fun id b base hl => by simp [SC.live] at hl, fun b hb => ⟨trivial, hB b hb⟩, rfl, rfl, rfl, Nat.le_refl _, fun _ _ _ => rfl, fun b => .refl w b, fun id _ hl => by simp [SC.live] at hl, fun _ h => h.elim⟩
  have hstab : ∀ b, B b → Stab w B (fun _ => SC.fresh) noMu w b := fun b hb => ⟨.inl hb, hB b hb, fun ⟨id, base, hl, _⟩ => by simp [SC.live] at hl⟩
  have hst : StRel w ⟨fun _ => True, noMu, fun _ => False⟩ B N ((argEnv args).get, fun _ => SC.fresh) { tmps := vs.toArray ++ Array.replicate (fn.ntmps - vs.toArray.size) Go.undef, defers := [] } w := by
    refine ⟨fun _ => False, noMu, hsim, fun t => ?_, by simp; omega, .nil _ _⟩
    simp only
    rcases zip_get (List.range args.length) args t with h1 | ⟨j, p, h1, h2, h3⟩
    · unfold argEnv; rw [h1]; exact .undef _ _
    · unfold argEnv
      rw [h3]
      have hjl : j < args.length := (List.getElem?_eq_some_iff.1 h2).1
      rw [List.getElem?_range hjl] at h1
      obtain rfl := Option.some.inj h1
      have hjv : j < vs.length := by omega
      have : (vs.toArray ++ Array.replicate (fn.ntmps - vs.toArray.size) Go.undef).getD j Go.undef = vs[j] := by
        rw [Array.getD_eq_getD_getElem?, Array.getElem?_append_left (by simpa using hjv)]
        simp [hjv]
      rw [this]
      exact (hr j p _ h2 (List.getElem?_eq_getElem hjv)).step hstab (fun _ _ => rfl) (fun _ _ _ h => by cases h)
  refine wpIn_mono (F := Fence.wide) (wpZ_sound htt hm z c (m := 0) _ _ _ _ _ (fun _ _ => trivial) h hst) ?_
  have fin : ∀ (a' : Act) (w' : World) (env : Env) (g : Store), (resK tt fn.results.toList env g fun ps => Wk (PV.snap g 6 (one ps)) r) → StRel w ⟨fun _ => True, noMu, fun _ => False⟩ B N (env.get, g) a' w' →
      LeavesInM Fence.wide 0 P fn a'.tmps (fun e w' => ∃ v', e = .returned v' ∧ Below w.heap.size w w' ∧ Rep w' (fun b => b < w'.heap.size ∧ (B b ∨ w.heap.size ≤ b)) noMu r v') a'.defers .returning w' := by
    intro a' w1 env g hres hst1
    refine hst1.leaves ?_
    rintro m0 w' ⟨mm, μ, hS, hE, hN', hD⟩
    obtain ⟨us, ps, h1, h2, h3, h4⟩ := resK_run htt hS hE _ _ hres
    have hbelow : Below w.heap.size w w' := ⟨hS.os, hS.tape, hS.output, hS.size, fun k hk => hS.kept k hk trivial⟩
    have hone : Rep w' (Stab w B g μ w') μ (one ps) (if h : us.toArray.size = 1 then us.toArray[0] else .tuple us.toArray) := by
      by_cases hl1 : us.length = 1
      · obtain ⟨u, rfl⟩ := List.length_eq_one_iff.1 hl1
        obtain ⟨p, rfl⟩ := List.length_eq_one_iff.1 (h2.symm.trans hl1)
        simpa [one] using h3 0 p u rfl rfl
      · rw [dif_neg (by simpa using hl1)]
        have : one ps = .tup ps := by
          unfold one
          split
          · simp at h2; exact absurd h2 hl1
          · rfl
        rw [this]
        exact .tup _ _ _ (by simp [h2]) fun j p u hp hu => h3 j p u hp (by simpa using hu)
    refine ⟨(if h : us.toArray.size = 1 then us.toArray[0] else .tuple us.toArray), ?_, _, rfl, hbelow, ?_⟩
    · unfold results
      rw [Array.mapM_eq_mapM_toList]
      rw [Sem.run_bind, Sem.run_map]
      exact (congrArg (fun q : Result (List Value) => (q.andThen fun a w' => Result.ok a.toArray w').andThen fun a w' => Result.ok (if h : a.size = 1 then a[0] else Value.tuple a) w') h1).trans rfl
    · refine h4 _ _ _ ((snap_rep hS 6 _ _ hone).step (fun b hb => ?_) (fun _ _ => rfl) (fun _ _ _ h => by cases h))
      rcases hb with ⟨a1, a2, a3⟩ | ⟨id, base, hl, hm'⟩
      · exact ⟨a2, a1⟩
      · obtain ⟨q1, q2⟩ := hS.blk id b base hl hm'
        exact ⟨q1, .inr (Nat.le_of_not_lt fun hlt => q2 hlt trivial)⟩
  intro e a' w' hq
  cases e with
  | normal => obtain ⟨env, g, h1, h2⟩ := hq; exact fin a' w' env g h1 h2
  | ret => obtain ⟨env, g, h1, h2⟩ := hq; exact fin a' w' env g h1 h2
  | exit id => obtain ⟨env, g, h1, h2⟩ := hq; exact h1.elim
  | goto l => exact hq.elim
  | panic ch => exact hq.elim
  | outgrown => exact hq.elim


def zQ (P : Program) (tt : TT) (N z : Nat) (b : Code) (Q : VX → Env → Store → Prop) : VX → Env → Store → Prop := fun x env g => x = .normal ∧ wpZ P tt N z b Q env g
section
variable {Q : VX → Env → Store → Prop} {env : Env} {g : Store}
theorem v_zseq {z : Nat} {a b : Code} (h : wp P tt N a (zQ P tt N z b Q) env g) : wpZ P tt N (z + 1) (.seq a b) Q env g := h
theorem v_zn {z : Nat} {b : Code} (h : wpZ P tt N z b Q env g) : zQ P tt N z b Q .normal env g := ⟨rfl, h⟩
theorem v_frz {c : Code} (L : List Nat) (h : wp P tt N c Q (frzE env g L) (frzS g)) : wpZ P tt N 0 c Q env g := ⟨L, h⟩
theorem v_enterZ (z : Nat) (htt : TTOk P tt) (hm : P.follows .mixedOrders = true) {k : FuncId} {fn : Func} {c : Code} {rs : Array ResultVar} (hf : P.funcs[k]? = some fn) (hname : (fn.name == "runtime.NumGoroutine") = false) (hb : fn.body = some c) (hN : fn.ntmps = N) (hrs : fn.results = rs)
    {args : List PV} {r : PV} (hlen : args.length ≤ N) (h : wpZ P tt N z c (finQ tt rs.toList r) (argEnv args) (fun _ => .fresh)) : Good P k args r :=
  good_of_wpZ z htt hm hf hname hb hN hlen (by rw [hrs]; unfold finQ at h; exact h)
end
end
attribute [irreducible] zQ wpZ
end Go.V
