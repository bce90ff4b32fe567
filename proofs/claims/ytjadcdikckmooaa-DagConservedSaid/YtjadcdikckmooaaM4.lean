import Derived.Test.YtjadcdikckmooaaM3
/- A part of a proof, with no condition of its own. Merged texts: VU VTT VV VX. -/
/- The value logic, part 21: tables of types, held against the program by computing. -/
set_option linter.unusedVariables false
set_option linter.unusedSimpArgs false
namespace Go.V
open Go.RowKit

def isConst : PV → Value → Bool
  | .bool b, .bool b' => b == b'
  | .int k n, .int k' n' => k == k' && n == n'
  | .str s, .string s' => s.data.toList.isEmpty && s'.data.toList.isEmpty
  | .nilS, .slice none 0 0 => true
  | .nilP, .pointer none => true
  | .nilF, .nilFunc => true
  | .nilM, .map none => true
  | .nilI, .nilIface => true
  | _, _ => false

theorem isConst_spec {p : PV} {v : Value} (h : isConst p v = true) : p.const = some v := by
  unfold isConst at h
  split at h <;> simp_all [PV.const]
  rename_i s s'
  obtain ⟨h1, h2⟩ := h
  cases s; cases s'
  simp_all

def areConst : List PV → List Value → Bool
  | [], [] => true
  | p :: ps, v :: vs => isConst p v && areConst ps vs
  | _, _ => false

theorem areConst_spec : ∀ {ps : List PV} {vs : List Value}, areConst ps vs = true → ps.map PV.const = vs.map some
  | [], [], _ => rfl
  | p :: ps, v :: vs, h => by
    simp only [areConst, Bool.and_eq_true] at h
    simp only [List.map_cons, isConst_spec h.1, areConst_spec h.2]
  | [], _ :: _, h => by simp [areConst] at h
  | _ :: _, [], h => by simp [areConst] at h

def fieldsB (P : Program) : List Field → List (Nat × Nat × Nat) → Bool
  | [], [] => true
  | f :: fs, x :: xs => f.offset == x.1 && f.type == x.2.1 && ((P.info? f.type).map (·.size)).any (· == x.2.2) && fieldsB P fs xs
  | _, _ => false

theorem fieldsB_spec {P : Program} : ∀ {fs : List Field} {xs : List (Nat × Nat × Nat)}, fieldsB P fs xs = true → (fs.map fun f => (f.offset, f.type, (P.info? f.type).map (·.size))) = xs.map fun f => (f.1, f.2.1, some f.2.2)
  | [], [], _ => rfl
  | f :: fs, x :: xs, h => by
    simp only [fieldsB, Bool.and_eq_true, beq_iff_eq] at h
    obtain ⟨⟨⟨h1, h2⟩, h3⟩, h4⟩ := h
    have : (P.info? f.type).map (·.size) = some x.2.2 := by
      cases hq : (P.info? f.type).map (·.size) with
      | none => rw [hq] at h3; simp at h3
      | some s => rw [hq] at h3; simp at h3; rw [h3]
    simp only [List.map_cons, h1, h2, this, fieldsB_spec h4]
    rw [← h2, this]
  | [], _ :: _, h => by simp [fieldsB] at h
  | _ :: _, [], h => by simp [fieldsB] at h

def fitsB (P : Program) : TK → TypeDesc → Bool
  | .bool, .bool => true
  | .int k, .int k' => k == k'
  | .str, .string => true
  | .ptr e, .pointer e' => e == e'
  | .slc e, .slice e' => e == e'
  | .map k e, .map k' e' => k == k' && e == e'
  | .agg fs, .struct fields => fieldsB P fields.toList fs
  | .arr n e, .array n' e' => n == n' && e == e'
  | .other, .struct _ => false
  | .other, .array _ _ => false
  | .other, _ => true
  | _, _ => false

theorem fitsB_spec {P : Program} {k : TK} {d : TypeDesc} (h : fitsB P k d = true) : k.fits P d := by
  cases k <;> cases d <;> simp only [fitsB, Bool.and_eq_true, beq_iff_eq, Bool.false_eq_true] at h <;> first
    | exact h.elim
    | trivial
    | (subst h; rfl)
    | (obtain ⟨rfl, rfl⟩ := h; rfl)
    | exact ⟨_, rfl, fieldsB_spec h⟩

def tiB (P : Program) (t : Nat) (i : TI) : Bool :=
  match P.info? t, P.underlying t with
  | some info, some d => info.size == i.size && info.bytes == i.bytes && (match info.zero with | some zv => areConst i.zero zv.cells.toList && (aggV zv == i.kind.isAgg) | none => false) && fitsB P i.kind d && i.zero.length == i.size && (i.kind.isAgg || i.size == 1)
  | _, _ => false

theorem tiB_spec {P : Program} {t : Nat} {i : TI} (h : tiB P t i = true) : ∃ info d zv, P.info? t = some info ∧ P.underlying t = some d ∧ info.size = i.size ∧ info.bytes = i.bytes ∧
    info.zero = some zv ∧ i.zero.map PV.const = zv.cells.toList.map some ∧ i.kind.fits P d ∧ i.zero.length = i.size ∧ (i.kind.isAgg = false → i.size = 1) := by
  unfold tiB at h
  split at h
  · rename_i info d hi hd
    simp only [Bool.and_eq_true, beq_iff_eq, Bool.or_eq_true] at h
    obtain ⟨⟨⟨⟨⟨h1, h2⟩, h3⟩, h4⟩, h5⟩, h6⟩ := h
    split at h3
    · rename_i zv hz
      simp only [Bool.and_eq_true] at h3
      exact ⟨info, d, zv, hi, hd, h1, h2, hz, areConst_spec h3.1, fitsB_spec h4, h5, fun hk => by rcases h6 with h6 | h6; rw [hk] at h6; cases h6; exact h6⟩
    · cases h3
  · cases h

theorem tiB_agg {P : Program} {t : Nat} {i : TI} (h : tiB P t i = true) {info : TypeInfo} {zv : Value} (h1 : P.info? t = some info) (h2 : info.zero = some zv) : aggV zv = i.kind.isAgg := by
  unfold tiB at h
  rw [h1] at h
  cases hd : P.underlying t with
  | none => rw [hd] at h; simp at h
  | some d =>
    rw [hd] at h
    simp only [h2, Bool.and_eq_true, beq_iff_eq] at h
    exact h.1.1.1.2.2

/-- A table out of a list. -/
def ttOf : List (Nat × TI) → TT
  | [], _ => none
  | (k, i) :: r, t => if k = t then some i else ttOf r t

theorem ttOf_ok0 {P : Program} : ∀ {l : List (Nat × TI)}, (l.all fun x => tiB P x.1 x.2) = true → TTOk0 P (ttOf l)
  | [], _, t, i, h => by cases h
  | (k, j) :: l, hl, t, i, h => by
    simp only [List.all_cons, Bool.and_eq_true] at hl
    simp only [ttOf] at h
    split at h
    · rename_i hk
      subst hk
      obtain rfl := Option.some.inj h
      exact tiB_spec hl.1
    · exact ttOf_ok0 hl.2 t i h
theorem ttOf_agg {P : Program} : ∀ {l : List (Nat × TI)}, (l.all fun x => tiB P x.1 x.2) = true → ∀ t i info zv, ttOf l t = some i → P.info? t = some info → info.zero = some zv → aggV zv = i.kind.isAgg
  | [], _, t, i, _, _, h, _, _ => by cases h
  | (k, j) :: l, hl, t, i, info, zv, h, h1, h2 => by
    simp only [List.all_cons, Bool.and_eq_true] at hl
    simp only [ttOf] at h
    split at h
    · rename_i hk
      subst hk
      obtain rfl := Option.some.inj h
      exact tiB_agg hl.1 h1 h2
    · exact ttOf_agg hl.2 t i info zv h h1 h2
theorem ttOf_ok {P : Program} {l : List (Nat × TI)} (h : (l.all fun x => tiB P x.1 x.2) = true) : TTOk P (ttOf l) := ⟨ttOf_ok0 h, ttOf_agg h⟩
end Go.V
/- The table of types of the seat. -/
set_option linter.unusedVariables false
set_option linter.unusedSimpArgs false
namespace Go.V
open Go.Proofs

def typeList : List (Nat × TI) := [
  (1, ⟨.other, 1, 8, [.nilF]⟩),
  (2, ⟨.int .i64, 1, 8, [.int .i64 0]⟩),
  (3, ⟨.int .i64, 1, 8, [.int .i64 0]⟩),
  (4, ⟨.bool, 1, 1, [.bool false]⟩),
  (5, ⟨.int .u8, 1, 1, [.int .u8 0]⟩),
  (6, ⟨.int .u8, 1, 1, [.int .u8 0]⟩),
  (7, ⟨.agg [(0, 2, 1), (1, 3, 1), (2, 4, 1), (3, 6, 1)], 4, 24, [.int .i64 0, .int .i64 0, .bool false, .int .u8 0]⟩),
  (8, ⟨.agg [(0, 2, 1), (1, 3, 1), (2, 4, 1), (3, 6, 1)], 4, 24, [.int .i64 0, .int .i64 0, .bool false, .int .u8 0]⟩),
  (9, ⟨.str, 1, 16, [.str ⟨#[]⟩]⟩),
  (10, ⟨.str, 1, 16, [.str ⟨#[]⟩]⟩),
  (11, ⟨.str, 1, 16, [.str ⟨#[]⟩]⟩),
  (12, ⟨.int .u64, 1, 8, [.int .u64 0]⟩),
  (13, ⟨.agg [(0, 9, 1), (1, 12, 1)], 2, 24, [.str ⟨#[]⟩, .int .u64 0]⟩),
  (14, ⟨.agg [(0, 9, 1), (1, 12, 1)], 2, 24, [.str ⟨#[]⟩, .int .u64 0]⟩),
  (15, ⟨.ptr 144, 1, 8, [.nilP]⟩),
  (16, ⟨.ptr 147, 1, 8, [.nilP]⟩),
  (17, ⟨.ptr 156, 1, 8, [.nilP]⟩),
  (18, ⟨.agg [(0, 17, 1)], 1, 8, [.nilP]⟩),
  (19, ⟨.agg [(0, 17, 1)], 1, 8, [.nilP]⟩),
  (20, ⟨.other, 1, 16, [.nilI]⟩),
  (21, ⟨.int .i32, 1, 4, [.int .i32 0]⟩),
  (22, ⟨.slc 4, 1, 24, [.nilS]⟩),
  (23, ⟨.slc 63, 1, 24, [.nilS]⟩),
  (24, ⟨.agg [(0, 3, 1), (1, 22, 1), (2, 23, 1)], 3, 56, [.int .i64 0, .nilS, .nilS]⟩),
  (25, ⟨.agg [(0, 3, 1), (1, 22, 1), (2, 23, 1)], 3, 56, [.int .i64 0, .nilS, .nilS]⟩),
  (26, ⟨.arr 2 3, 2, 16, [.int .i64 0, .int .i64 0]⟩),
  (27, ⟨.other, 1, 8, [.nilF]⟩),
  (28, ⟨.other, 1, 8, [.nilF]⟩),
  (29, ⟨.slc 3, 1, 24, [.nilS]⟩),
  (30, ⟨.int .i64, 1, 8, [.int .i64 0]⟩),
  (32, ⟨.other, 1, 8, [.nilF]⟩),
  (33, ⟨.other, 1, 8, [.nilF]⟩),
  (34, ⟨.other, 1, 8, [.nilF]⟩),
  (35, ⟨.other, 1, 8, [.nilF]⟩),
  (36, ⟨.other, 1, 8, [.nilF]⟩),
  (37, ⟨.other, 1, 8, [.nilF]⟩),
  (38, ⟨.other, 1, 8, [.nilF]⟩),
  (39, ⟨.slc 5, 1, 24, [.nilS]⟩),
  (40, ⟨.other, 1, 8, [.nilF]⟩),
  (42, ⟨.other, 1, 8, [.nilF]⟩),
  (43, ⟨.other, 1, 8, [.nilF]⟩),
  (44, ⟨.slc 51, 1, 24, [.nilS]⟩),
  (46, ⟨.other, 1, 8, [.nilF]⟩),
  (47, ⟨.slc 105, 1, 24, [.nilS]⟩),
  (48, ⟨.agg [(0, 47, 1)], 1, 24, [.nilS]⟩),
  (49, ⟨.agg [(0, 47, 1)], 1, 24, [.nilS]⟩),
  (50, ⟨.agg [(0, 4, 1), (1, 49, 1), (2, 49, 1)], 3, 56, [.bool false, .nilS, .nilS]⟩),
  (51, ⟨.agg [(0, 4, 1), (1, 49, 1), (2, 49, 1)], 3, 56, [.bool false, .nilS, .nilS]⟩),
  (52, ⟨.other, 1, 8, [.nilF]⟩),
  (53, ⟨.other, 1, 8, [.nilF]⟩),
  (54, ⟨.other, 1, 8, [.nilF]⟩),
  (55, ⟨.other, 1, 8, [.nilF]⟩),
  (57, ⟨.other, 1, 8, [.nilF]⟩),
  (58, ⟨.arr 3 3, 3, 24, [.int .i64 0, .int .i64 0, .int .i64 0]⟩),
  (59, ⟨.other, 1, 8, [.nilF]⟩),
  (60, ⟨.other, 1, 8, [.nilF]⟩),
  (61, ⟨.other, 1, 8, [.nilF]⟩),
  (62, ⟨.agg [(0, 3, 1), (1, 3, 1), (2, 26, 2), (4, 3, 1), (5, 3, 1), (6, 3, 1)], 7, 56, [.int .i64 0, .int .i64 0, .int .i64 0, .int .i64 0, .int .i64 0, .int .i64 0, .int .i64 0]⟩),
  (63, ⟨.agg [(0, 3, 1), (1, 3, 1), (2, 26, 2), (4, 3, 1), (5, 3, 1), (6, 3, 1)], 7, 56, [.int .i64 0, .int .i64 0, .int .i64 0, .int .i64 0, .int .i64 0, .int .i64 0, .int .i64 0]⟩),
  (65, ⟨.other, 1, 8, [.nilF]⟩),
  (66, ⟨.agg [(0, 25, 3), (3, 22, 1), (4, 3, 1), (5, 29, 1)], 6, 112, [.int .i64 0, .nilS, .nilS, .nilS, .int .i64 0, .nilS]⟩),
  (67, ⟨.agg [(0, 25, 3), (3, 22, 1), (4, 3, 1), (5, 29, 1)], 6, 112, [.int .i64 0, .nilS, .nilS, .nilS, .int .i64 0, .nilS]⟩),
  (69, ⟨.other, 1, 8, [.nilF]⟩),
  (70, ⟨.other, 1, 8, [.nilF]⟩),
  (71, ⟨.other, 1, 8, [.nilF]⟩),
  (72, ⟨.other, 1, 8, [.nilF]⟩),
  (73, ⟨.other, 1, 8, [.nilF]⟩),
  (74, ⟨.other, 1, 8, [.nilF]⟩),
  (75, ⟨.other, 1, 8, [.nilF]⟩),
  (76, ⟨.other, 1, 8, [.nilF]⟩),
  (77, ⟨.map 3 51, 1, 8, [.nilM]⟩),
  (78, ⟨.other, 1, 8, [.nilF]⟩),
  (79, ⟨.other, 1, 8, [.nilF]⟩),
  (80, ⟨.other, 1, 8, [.nilF]⟩),
  (81, ⟨.other, 1, 8, [.nilF]⟩),
  (82, ⟨.other, 1, 8, [.nilF]⟩),
  (83, ⟨.other, 1, 8, [.nilF]⟩),
  (84, ⟨.other, 1, 8, [.nilF]⟩),
  (85, ⟨.other, 1, 8, [.nilF]⟩),
  (87, ⟨.other, 1, 8, [.nilF]⟩),
  (88, ⟨.other, 1, 8, [.nilF]⟩),
  (89, ⟨.other, 1, 8, [.nilF]⟩),
  (90, ⟨.other, 1, 8, [.nilF]⟩),
  (91, ⟨.other, 1, 8, [.nilF]⟩),
  (92, ⟨.other, 1, 8, [.nilF]⟩),
  (93, ⟨.other, 1, 8, [.nilF]⟩),
  (94, ⟨.other, 1, 8, [.nilF]⟩),
  (95, ⟨.other, 1, 8, [.nilF]⟩),
  (96, ⟨.other, 1, 8, [.nilF]⟩),
  (97, ⟨.other, 1, 8, [.nilF]⟩),
  (98, ⟨.other, 1, 8, [.nilF]⟩),
  (100, ⟨.other, 1, 8, [.nilF]⟩),
  (102, ⟨.other, 1, 8, [.nilF]⟩),
  (103, ⟨.other, 1, 8, [.nilF]⟩),
  (104, ⟨.int .u64, 1, 8, [.int .u64 0]⟩),
  (105, ⟨.int .u32, 1, 4, [.int .u32 0]⟩),
  (106, ⟨.int .u64, 1, 8, [.int .u64 0]⟩),
  (107, ⟨.other, 1, 8, [.nilF]⟩),
  (109, ⟨.other, 1, 8, [.nilF]⟩),
  (110, ⟨.other, 1, 8, [.nilF]⟩),
  (111, ⟨.other, 1, 8, [.nilF]⟩),
  (112, ⟨.other, 1, 8, [.nilF]⟩),
  (113, ⟨.agg [(0, 94, 1), (1, 37, 1)], 2, 16, [.nilF, .nilF]⟩),
  (114, ⟨.agg [(0, 94, 1), (1, 37, 1)], 2, 16, [.nilF, .nilF]⟩),
  (115, ⟨.other, 1, 8, [.nilF]⟩),
  (116, ⟨.other, 1, 8, [.nilF]⟩),
  (117, ⟨.other, 1, 8, [.nilF]⟩),
  (119, ⟨.other, 1, 8, [.nilF]⟩),
  (120, ⟨.other, 1, 8, [.nilF]⟩),
  (121, ⟨.other, 1, 8, [.nilF]⟩),
  (122, ⟨.other, 1, 8, [.nilF]⟩),
  (123, ⟨.other, 1, 8, [.nilF]⟩),
  (124, ⟨.ptr 136, 1, 8, [.nilP]⟩),
  (126, ⟨.other, 1, 8, [.nilF]⟩),
  (127, ⟨.other, 1, 8, [.nilF]⟩),
  (129, ⟨.other, 1, 8, [.nilF]⟩),
  (131, ⟨.other, 1, 8, [.nilF]⟩),
  (132, ⟨.other, 1, 8, [.nilF]⟩),
  (133, ⟨.other, 1, 8, [.nilF]⟩),
  (134, ⟨.other, 1, 8, [.nilF]⟩),
  (135, ⟨.agg [(0, 29, 1), (1, 29, 1), (2, 29, 1)], 3, 72, [.nilS, .nilS, .nilS]⟩),
  (136, ⟨.agg [(0, 29, 1), (1, 29, 1), (2, 29, 1)], 3, 72, [.nilS, .nilS, .nilS]⟩),
  (137, ⟨.other, 1, 8, [.nilF]⟩),
  (138, ⟨.other, 1, 16, [.nilI]⟩),
  (139, ⟨.other, 1, 16, [.nilI]⟩),
  (140, ⟨.other, 1, 8, [.nilF]⟩),
  (141, ⟨.ptr 158, 1, 8, [.nilP]⟩),
  (142, ⟨.other, 1, 8, [.nilF]⟩),
  (143, ⟨.agg [(0, 17, 1), (1, 17, 1), (2, 17, 1), (3, 9, 1)], 4, 40, [.nilP, .nilP, .nilP, .str ⟨#[]⟩]⟩),
  (144, ⟨.agg [(0, 17, 1), (1, 17, 1), (2, 17, 1), (3, 9, 1)], 4, 40, [.nilP, .nilP, .nilP, .str ⟨#[]⟩]⟩),
  (148, ⟨.other, 1, 8, [.nilF]⟩),
  (149, ⟨.int .u8, 1, 1, [.int .u8 0]⟩),
  (150, ⟨.int .u8, 1, 1, [.int .u8 0]⟩),
  (151, ⟨.other, 1, 8, [.nilF]⟩),
  (152, ⟨.ptr 5, 1, 8, [.nilP]⟩),
  (153, ⟨.int .i32, 1, 4, [.int .i32 0]⟩),
  (154, ⟨.int .i32, 1, 4, [.int .i32 0]⟩),
  (155, ⟨.agg [(0, 12, 1), (1, 12, 1), (2, 105, 1), (3, 149, 1), (4, 5, 1), (5, 5, 1), (6, 150, 1), (7, 151, 1), (8, 152, 1), (9, 153, 1), (10, 154, 1)], 11, 48, [.int .u64 0, .int .u64 0, .int .u32 0, .int .u8 0, .int .u8 0, .int .u8 0, .int .u8 0, .nilF, .nilP, .int .i32 0, .int .i32 0]⟩),
  (156, ⟨.agg [(0, 12, 1), (1, 12, 1), (2, 105, 1), (3, 149, 1), (4, 5, 1), (5, 5, 1), (6, 150, 1), (7, 151, 1), (8, 152, 1), (9, 153, 1), (10, 154, 1)], 11, 48, [.int .u64 0, .int .u64 0, .int .u32 0, .int .u8 0, .int .u8 0, .int .u8 0, .int .u8 0, .nilF, .nilP, .int .i32 0, .int .i32 0]⟩),
  (157, ⟨.agg [(0, 9, 1)], 1, 16, [.str ⟨#[]⟩]⟩),
  (158, ⟨.agg [(0, 9, 1)], 1, 16, [.str ⟨#[]⟩]⟩),
  (159, ⟨.other, 1, 8, [.nilP]⟩)]
def tt : TT := ttOf typeList
theorem ttok : TTOk Try.prog tt := ttOf_ok (by kernel_rfl)
theorem tt_1 : tt 1 = some ⟨.other, 1, 8, [.nilF]⟩ := by kernel_rfl
theorem tt_2 : tt 2 = some ⟨.int .i64, 1, 8, [.int .i64 0]⟩ := by kernel_rfl
theorem tt_3 : tt 3 = some ⟨.int .i64, 1, 8, [.int .i64 0]⟩ := by kernel_rfl
theorem tt_4 : tt 4 = some ⟨.bool, 1, 1, [.bool false]⟩ := by kernel_rfl
theorem tt_5 : tt 5 = some ⟨.int .u8, 1, 1, [.int .u8 0]⟩ := by kernel_rfl
theorem tt_6 : tt 6 = some ⟨.int .u8, 1, 1, [.int .u8 0]⟩ := by kernel_rfl
theorem tt_7 : tt 7 = some ⟨.agg [(0, 2, 1), (1, 3, 1), (2, 4, 1), (3, 6, 1)], 4, 24, [.int .i64 0, .int .i64 0, .bool false, .int .u8 0]⟩ := by kernel_rfl
theorem tt_8 : tt 8 = some ⟨.agg [(0, 2, 1), (1, 3, 1), (2, 4, 1), (3, 6, 1)], 4, 24, [.int .i64 0, .int .i64 0, .bool false, .int .u8 0]⟩ := by kernel_rfl
theorem tt_9 : tt 9 = some ⟨.str, 1, 16, [.str ⟨#[]⟩]⟩ := by kernel_rfl
theorem tt_10 : tt 10 = some ⟨.str, 1, 16, [.str ⟨#[]⟩]⟩ := by kernel_rfl
theorem tt_11 : tt 11 = some ⟨.str, 1, 16, [.str ⟨#[]⟩]⟩ := by kernel_rfl
theorem tt_12 : tt 12 = some ⟨.int .u64, 1, 8, [.int .u64 0]⟩ := by kernel_rfl
theorem tt_13 : tt 13 = some ⟨.agg [(0, 9, 1), (1, 12, 1)], 2, 24, [.str ⟨#[]⟩, .int .u64 0]⟩ := by kernel_rfl
theorem tt_14 : tt 14 = some ⟨.agg [(0, 9, 1), (1, 12, 1)], 2, 24, [.str ⟨#[]⟩, .int .u64 0]⟩ := by kernel_rfl
theorem tt_15 : tt 15 = some ⟨.ptr 144, 1, 8, [.nilP]⟩ := by kernel_rfl
theorem tt_16 : tt 16 = some ⟨.ptr 147, 1, 8, [.nilP]⟩ := by kernel_rfl
theorem tt_17 : tt 17 = some ⟨.ptr 156, 1, 8, [.nilP]⟩ := by kernel_rfl
theorem tt_18 : tt 18 = some ⟨.agg [(0, 17, 1)], 1, 8, [.nilP]⟩ := by kernel_rfl
theorem tt_19 : tt 19 = some ⟨.agg [(0, 17, 1)], 1, 8, [.nilP]⟩ := by kernel_rfl
theorem tt_20 : tt 20 = some ⟨.other, 1, 16, [.nilI]⟩ := by kernel_rfl
theorem tt_21 : tt 21 = some ⟨.int .i32, 1, 4, [.int .i32 0]⟩ := by kernel_rfl
theorem tt_22 : tt 22 = some ⟨.slc 4, 1, 24, [.nilS]⟩ := by kernel_rfl
theorem tt_23 : tt 23 = some ⟨.slc 63, 1, 24, [.nilS]⟩ := by kernel_rfl
theorem tt_24 : tt 24 = some ⟨.agg [(0, 3, 1), (1, 22, 1), (2, 23, 1)], 3, 56, [.int .i64 0, .nilS, .nilS]⟩ := by kernel_rfl
theorem tt_25 : tt 25 = some ⟨.agg [(0, 3, 1), (1, 22, 1), (2, 23, 1)], 3, 56, [.int .i64 0, .nilS, .nilS]⟩ := by kernel_rfl
theorem tt_26 : tt 26 = some ⟨.arr 2 3, 2, 16, [.int .i64 0, .int .i64 0]⟩ := by kernel_rfl
theorem tt_27 : tt 27 = some ⟨.other, 1, 8, [.nilF]⟩ := by kernel_rfl
theorem tt_28 : tt 28 = some ⟨.other, 1, 8, [.nilF]⟩ := by kernel_rfl
theorem tt_29 : tt 29 = some ⟨.slc 3, 1, 24, [.nilS]⟩ := by kernel_rfl
theorem tt_30 : tt 30 = some ⟨.int .i64, 1, 8, [.int .i64 0]⟩ := by kernel_rfl
theorem tt_32 : tt 32 = some ⟨.other, 1, 8, [.nilF]⟩ := by kernel_rfl
theorem tt_33 : tt 33 = some ⟨.other, 1, 8, [.nilF]⟩ := by kernel_rfl
theorem tt_34 : tt 34 = some ⟨.other, 1, 8, [.nilF]⟩ := by kernel_rfl
theorem tt_35 : tt 35 = some ⟨.other, 1, 8, [.nilF]⟩ := by kernel_rfl
theorem tt_36 : tt 36 = some ⟨.other, 1, 8, [.nilF]⟩ := by kernel_rfl
theorem tt_37 : tt 37 = some ⟨.other, 1, 8, [.nilF]⟩ := by kernel_rfl
theorem tt_38 : tt 38 = some ⟨.other, 1, 8, [.nilF]⟩ := by kernel_rfl
theorem tt_39 : tt 39 = some ⟨.slc 5, 1, 24, [.nilS]⟩ := by kernel_rfl
theorem tt_40 : tt 40 = some ⟨.other, 1, 8, [.nilF]⟩ := by kernel_rfl
theorem tt_42 : tt 42 = some ⟨.other, 1, 8, [.nilF]⟩ := by kernel_rfl
theorem tt_43 : tt 43 = some ⟨.other, 1, 8, [.nilF]⟩ := by kernel_rfl
theorem tt_44 : tt 44 = some ⟨.slc 51, 1, 24, [.nilS]⟩ := by kernel_rfl
theorem tt_46 : tt 46 = some ⟨.other, 1, 8, [.nilF]⟩ := by kernel_rfl
theorem tt_47 : tt 47 = some ⟨.slc 105, 1, 24, [.nilS]⟩ := by kernel_rfl
theorem tt_48 : tt 48 = some ⟨.agg [(0, 47, 1)], 1, 24, [.nilS]⟩ := by kernel_rfl
theorem tt_49 : tt 49 = some ⟨.agg [(0, 47, 1)], 1, 24, [.nilS]⟩ := by kernel_rfl
theorem tt_50 : tt 50 = some ⟨.agg [(0, 4, 1), (1, 49, 1), (2, 49, 1)], 3, 56, [.bool false, .nilS, .nilS]⟩ := by kernel_rfl
theorem tt_51 : tt 51 = some ⟨.agg [(0, 4, 1), (1, 49, 1), (2, 49, 1)], 3, 56, [.bool false, .nilS, .nilS]⟩ := by kernel_rfl
theorem tt_52 : tt 52 = some ⟨.other, 1, 8, [.nilF]⟩ := by kernel_rfl
theorem tt_53 : tt 53 = some ⟨.other, 1, 8, [.nilF]⟩ := by kernel_rfl
theorem tt_54 : tt 54 = some ⟨.other, 1, 8, [.nilF]⟩ := by kernel_rfl
theorem tt_55 : tt 55 = some ⟨.other, 1, 8, [.nilF]⟩ := by kernel_rfl
theorem tt_57 : tt 57 = some ⟨.other, 1, 8, [.nilF]⟩ := by kernel_rfl
theorem tt_58 : tt 58 = some ⟨.arr 3 3, 3, 24, [.int .i64 0, .int .i64 0, .int .i64 0]⟩ := by kernel_rfl
theorem tt_59 : tt 59 = some ⟨.other, 1, 8, [.nilF]⟩ := by kernel_rfl
theorem tt_60 : tt 60 = some ⟨.other, 1, 8, [.nilF]⟩ := by kernel_rfl
theorem tt_61 : tt 61 = some ⟨.other, 1, 8, [.nilF]⟩ := by kernel_rfl
theorem tt_62 : tt 62 = some ⟨.agg [(0, 3, 1), (1, 3, 1), (2, 26, 2), (4, 3, 1), (5, 3, 1), (6, 3, 1)], 7, 56, [.int .i64 0, .int .i64 0, .int .i64 0, .int .i64 0, .int .i64 0, .int .i64 0, .int .i64 0]⟩ := by kernel_rfl
theorem tt_63 : tt 63 = some ⟨.agg [(0, 3, 1), (1, 3, 1), (2, 26, 2), (4, 3, 1), (5, 3, 1), (6, 3, 1)], 7, 56, [.int .i64 0, .int .i64 0, .int .i64 0, .int .i64 0, .int .i64 0, .int .i64 0, .int .i64 0]⟩ := by kernel_rfl
theorem tt_65 : tt 65 = some ⟨.other, 1, 8, [.nilF]⟩ := by kernel_rfl
theorem tt_66 : tt 66 = some ⟨.agg [(0, 25, 3), (3, 22, 1), (4, 3, 1), (5, 29, 1)], 6, 112, [.int .i64 0, .nilS, .nilS, .nilS, .int .i64 0, .nilS]⟩ := by kernel_rfl
theorem tt_67 : tt 67 = some ⟨.agg [(0, 25, 3), (3, 22, 1), (4, 3, 1), (5, 29, 1)], 6, 112, [.int .i64 0, .nilS, .nilS, .nilS, .int .i64 0, .nilS]⟩ := by kernel_rfl
theorem tt_69 : tt 69 = some ⟨.other, 1, 8, [.nilF]⟩ := by kernel_rfl
theorem tt_70 : tt 70 = some ⟨.other, 1, 8, [.nilF]⟩ := by kernel_rfl
theorem tt_71 : tt 71 = some ⟨.other, 1, 8, [.nilF]⟩ := by kernel_rfl
theorem tt_72 : tt 72 = some ⟨.other, 1, 8, [.nilF]⟩ := by kernel_rfl
theorem tt_73 : tt 73 = some ⟨.other, 1, 8, [.nilF]⟩ := by kernel_rfl
theorem tt_74 : tt 74 = some ⟨.other, 1, 8, [.nilF]⟩ := by kernel_rfl
theorem tt_75 : tt 75 = some ⟨.other, 1, 8, [.nilF]⟩ := by kernel_rfl
theorem tt_76 : tt 76 = some ⟨.other, 1, 8, [.nilF]⟩ := by kernel_rfl
theorem tt_77 : tt 77 = some ⟨.map 3 51, 1, 8, [.nilM]⟩ := by kernel_rfl
theorem tt_78 : tt 78 = some ⟨.other, 1, 8, [.nilF]⟩ := by kernel_rfl
theorem tt_79 : tt 79 = some ⟨.other, 1, 8, [.nilF]⟩ := by kernel_rfl
theorem tt_80 : tt 80 = some ⟨.other, 1, 8, [.nilF]⟩ := by kernel_rfl
theorem tt_81 : tt 81 = some ⟨.other, 1, 8, [.nilF]⟩ := by kernel_rfl
theorem tt_82 : tt 82 = some ⟨.other, 1, 8, [.nilF]⟩ := by kernel_rfl
theorem tt_83 : tt 83 = some ⟨.other, 1, 8, [.nilF]⟩ := by kernel_rfl
theorem tt_84 : tt 84 = some ⟨.other, 1, 8, [.nilF]⟩ := by kernel_rfl
theorem tt_85 : tt 85 = some ⟨.other, 1, 8, [.nilF]⟩ := by kernel_rfl
theorem tt_87 : tt 87 = some ⟨.other, 1, 8, [.nilF]⟩ := by kernel_rfl
theorem tt_88 : tt 88 = some ⟨.other, 1, 8, [.nilF]⟩ := by kernel_rfl
theorem tt_89 : tt 89 = some ⟨.other, 1, 8, [.nilF]⟩ := by kernel_rfl
theorem tt_90 : tt 90 = some ⟨.other, 1, 8, [.nilF]⟩ := by kernel_rfl
theorem tt_91 : tt 91 = some ⟨.other, 1, 8, [.nilF]⟩ := by kernel_rfl
theorem tt_92 : tt 92 = some ⟨.other, 1, 8, [.nilF]⟩ := by kernel_rfl
theorem tt_93 : tt 93 = some ⟨.other, 1, 8, [.nilF]⟩ := by kernel_rfl
theorem tt_94 : tt 94 = some ⟨.other, 1, 8, [.nilF]⟩ := by kernel_rfl
theorem tt_95 : tt 95 = some ⟨.other, 1, 8, [.nilF]⟩ := by kernel_rfl
theorem tt_96 : tt 96 = some ⟨.other, 1, 8, [.nilF]⟩ := by kernel_rfl
theorem tt_97 : tt 97 = some ⟨.other, 1, 8, [.nilF]⟩ := by kernel_rfl
theorem tt_98 : tt 98 = some ⟨.other, 1, 8, [.nilF]⟩ := by kernel_rfl
theorem tt_100 : tt 100 = some ⟨.other, 1, 8, [.nilF]⟩ := by kernel_rfl
theorem tt_102 : tt 102 = some ⟨.other, 1, 8, [.nilF]⟩ := by kernel_rfl
theorem tt_103 : tt 103 = some ⟨.other, 1, 8, [.nilF]⟩ := by kernel_rfl
theorem tt_104 : tt 104 = some ⟨.int .u64, 1, 8, [.int .u64 0]⟩ := by kernel_rfl
theorem tt_105 : tt 105 = some ⟨.int .u32, 1, 4, [.int .u32 0]⟩ := by kernel_rfl
theorem tt_106 : tt 106 = some ⟨.int .u64, 1, 8, [.int .u64 0]⟩ := by kernel_rfl
theorem tt_107 : tt 107 = some ⟨.other, 1, 8, [.nilF]⟩ := by kernel_rfl
theorem tt_109 : tt 109 = some ⟨.other, 1, 8, [.nilF]⟩ := by kernel_rfl
theorem tt_110 : tt 110 = some ⟨.other, 1, 8, [.nilF]⟩ := by kernel_rfl
theorem tt_111 : tt 111 = some ⟨.other, 1, 8, [.nilF]⟩ := by kernel_rfl
theorem tt_112 : tt 112 = some ⟨.other, 1, 8, [.nilF]⟩ := by kernel_rfl
theorem tt_113 : tt 113 = some ⟨.agg [(0, 94, 1), (1, 37, 1)], 2, 16, [.nilF, .nilF]⟩ := by kernel_rfl
theorem tt_114 : tt 114 = some ⟨.agg [(0, 94, 1), (1, 37, 1)], 2, 16, [.nilF, .nilF]⟩ := by kernel_rfl
theorem tt_115 : tt 115 = some ⟨.other, 1, 8, [.nilF]⟩ := by kernel_rfl
theorem tt_116 : tt 116 = some ⟨.other, 1, 8, [.nilF]⟩ := by kernel_rfl
theorem tt_117 : tt 117 = some ⟨.other, 1, 8, [.nilF]⟩ := by kernel_rfl
theorem tt_119 : tt 119 = some ⟨.other, 1, 8, [.nilF]⟩ := by kernel_rfl
theorem tt_120 : tt 120 = some ⟨.other, 1, 8, [.nilF]⟩ := by kernel_rfl
theorem tt_121 : tt 121 = some ⟨.other, 1, 8, [.nilF]⟩ := by kernel_rfl
theorem tt_122 : tt 122 = some ⟨.other, 1, 8, [.nilF]⟩ := by kernel_rfl
theorem tt_123 : tt 123 = some ⟨.other, 1, 8, [.nilF]⟩ := by kernel_rfl
theorem tt_124 : tt 124 = some ⟨.ptr 136, 1, 8, [.nilP]⟩ := by kernel_rfl
theorem tt_126 : tt 126 = some ⟨.other, 1, 8, [.nilF]⟩ := by kernel_rfl
theorem tt_127 : tt 127 = some ⟨.other, 1, 8, [.nilF]⟩ := by kernel_rfl
theorem tt_129 : tt 129 = some ⟨.other, 1, 8, [.nilF]⟩ := by kernel_rfl
theorem tt_131 : tt 131 = some ⟨.other, 1, 8, [.nilF]⟩ := by kernel_rfl
theorem tt_132 : tt 132 = some ⟨.other, 1, 8, [.nilF]⟩ := by kernel_rfl
theorem tt_133 : tt 133 = some ⟨.other, 1, 8, [.nilF]⟩ := by kernel_rfl
theorem tt_134 : tt 134 = some ⟨.other, 1, 8, [.nilF]⟩ := by kernel_rfl
theorem tt_135 : tt 135 = some ⟨.agg [(0, 29, 1), (1, 29, 1), (2, 29, 1)], 3, 72, [.nilS, .nilS, .nilS]⟩ := by kernel_rfl
theorem tt_136 : tt 136 = some ⟨.agg [(0, 29, 1), (1, 29, 1), (2, 29, 1)], 3, 72, [.nilS, .nilS, .nilS]⟩ := by kernel_rfl
theorem tt_137 : tt 137 = some ⟨.other, 1, 8, [.nilF]⟩ := by kernel_rfl
theorem tt_138 : tt 138 = some ⟨.other, 1, 16, [.nilI]⟩ := by kernel_rfl
theorem tt_139 : tt 139 = some ⟨.other, 1, 16, [.nilI]⟩ := by kernel_rfl
theorem tt_140 : tt 140 = some ⟨.other, 1, 8, [.nilF]⟩ := by kernel_rfl
theorem tt_141 : tt 141 = some ⟨.ptr 158, 1, 8, [.nilP]⟩ := by kernel_rfl
theorem tt_142 : tt 142 = some ⟨.other, 1, 8, [.nilF]⟩ := by kernel_rfl
theorem tt_143 : tt 143 = some ⟨.agg [(0, 17, 1), (1, 17, 1), (2, 17, 1), (3, 9, 1)], 4, 40, [.nilP, .nilP, .nilP, .str ⟨#[]⟩]⟩ := by kernel_rfl
theorem tt_144 : tt 144 = some ⟨.agg [(0, 17, 1), (1, 17, 1), (2, 17, 1), (3, 9, 1)], 4, 40, [.nilP, .nilP, .nilP, .str ⟨#[]⟩]⟩ := by kernel_rfl
theorem tt_148 : tt 148 = some ⟨.other, 1, 8, [.nilF]⟩ := by kernel_rfl
theorem tt_149 : tt 149 = some ⟨.int .u8, 1, 1, [.int .u8 0]⟩ := by kernel_rfl
theorem tt_150 : tt 150 = some ⟨.int .u8, 1, 1, [.int .u8 0]⟩ := by kernel_rfl
theorem tt_151 : tt 151 = some ⟨.other, 1, 8, [.nilF]⟩ := by kernel_rfl
theorem tt_152 : tt 152 = some ⟨.ptr 5, 1, 8, [.nilP]⟩ := by kernel_rfl
theorem tt_153 : tt 153 = some ⟨.int .i32, 1, 4, [.int .i32 0]⟩ := by kernel_rfl
theorem tt_154 : tt 154 = some ⟨.int .i32, 1, 4, [.int .i32 0]⟩ := by kernel_rfl
theorem tt_155 : tt 155 = some ⟨.agg [(0, 12, 1), (1, 12, 1), (2, 105, 1), (3, 149, 1), (4, 5, 1), (5, 5, 1), (6, 150, 1), (7, 151, 1), (8, 152, 1), (9, 153, 1), (10, 154, 1)], 11, 48, [.int .u64 0, .int .u64 0, .int .u32 0, .int .u8 0, .int .u8 0, .int .u8 0, .int .u8 0, .nilF, .nilP, .int .i32 0, .int .i32 0]⟩ := by kernel_rfl
theorem tt_156 : tt 156 = some ⟨.agg [(0, 12, 1), (1, 12, 1), (2, 105, 1), (3, 149, 1), (4, 5, 1), (5, 5, 1), (6, 150, 1), (7, 151, 1), (8, 152, 1), (9, 153, 1), (10, 154, 1)], 11, 48, [.int .u64 0, .int .u64 0, .int .u32 0, .int .u8 0, .int .u8 0, .int .u8 0, .int .u8 0, .nilF, .nilP, .int .i32 0, .int .i32 0]⟩ := by kernel_rfl
theorem tt_157 : tt 157 = some ⟨.agg [(0, 9, 1)], 1, 16, [.str ⟨#[]⟩]⟩ := by kernel_rfl
theorem tt_158 : tt 158 = some ⟨.agg [(0, 9, 1)], 1, 16, [.str ⟨#[]⟩]⟩ := by kernel_rfl
theorem tt_159 : tt 159 = some ⟨.other, 1, 8, [.nilP]⟩ := by kernel_rfl
theorem mixed : Try.prog.follows .mixedOrders = true := by kernel_rfl
end Go.V
/- The value logic, part 22: steps of a walk. -/
set_option linter.unusedVariables false
set_option linter.unusedSimpArgs false
namespace Go.V
open Go.RowKit

section
variable {P : Program} {tt : TT} {N : Nat} {Q : VX → Env → Store → Prop} {env : Env} {g : Store}

def seqQ (P : Program) (tt : TT) (N : Nat) (b : Code) (Q : VX → Env → Store → Prop) : VX → Env → Store → Prop := fun x env g =>
  match x with
  | .normal => wp P tt N b Q env g
  | x => Q x env g
def blockQ (id : Nat) (Q : VX → Env → Store → Prop) : VX → Env → Store → Prop := fun x env g =>
  match x with
  | .exit id' => if id' = id then Q .normal env g else Q (.exit id') env g
  | x => Q x env g

theorem v_seq {a b : Code} (h : wp P tt N a (seqQ P tt N b Q) env g) : wp P tt N (.seq a b) Q env g := h
theorem v_seqn {b : Code} (h : wp P tt N b Q env g) : seqQ P tt N b Q .normal env g := h
theorem v_seqx {b : Code} {i : Nat} (h : Q (.exit i) env g) : seqQ P tt N b Q (.exit i) env g := h
theorem v_seqr {b : Code} (h : Q .ret env g) : seqQ P tt N b Q .ret env g := h
theorem v_block {id : Nat} {a : Code} (h : wp P tt N a (blockQ id Q) env g) : wp P tt N (.block id a) Q env g := h
theorem v_blockn {id : Nat} (h : Q .normal env g) : blockQ id Q .normal env g := h
theorem v_blockr {id : Nat} (h : Q .ret env g) : blockQ id Q .ret env g := h
theorem v_blockx {id : Nat} (h : Q .normal env g) : blockQ id Q (.exit id) env g := by simp only [blockQ, if_true]; exact h
theorem v_blocky {id i : Nat} (hne : i ≠ id) (h : Q (.exit i) env g) : blockQ id Q (.exit i) env g := by simp only [blockQ, if_neg hne]; exact h
theorem v_skip (h : Q .normal env g) : wp P tt N .skip Q env g := h
theorem v_exit {id : Nat} (h : Q (.exit id) env g) : wp P tt N (.exit id) Q env g := h
theorem v_ret (h : Q .ret env g) : wp P tt N .ret Q env g := h
theorem v_scope {c : Code} (h : wp P tt N c Q env g) : wp P tt N (.scope c) Q env g := h
theorem v_cond {c : Operand} {a b : Code} {t : Bool} (hc : env.eval c = .bool t) (h1 : t = true → wp P tt N a Q env g) (h2 : t = false → wp P tt N b Q env g) : wp P tt N (.cond c a b) Q env g := ⟨t, hc, h1, h2⟩
theorem v_condt {c : Operand} {a b : Code} (hc : env.eval c = .bool true) (h : wp P tt N a Q env g) : wp P tt N (.cond c a b) Q env g := v_cond hc (fun _ => h) (fun h => Bool.noConfusion h)
theorem v_condf {c : Operand} {a b : Code} (hc : env.eval c = .bool false) (h : wp P tt N b Q env g) : wp P tt N (.cond c a b) Q env g := v_cond hc (fun h => Bool.noConfusion h) (fun _ => h)
theorem v_region {id : Nat} {l : List Oper} (h : seqK P tt N (l.map (·.dst)) l (1000 * (id + 1)) env g (Q .normal)) : wp P tt N (.region id l.toArray false) Q env g := by simpa [wp] using h
theorem v_regionD {id : Nat} {l : List Oper} (h : lexK P tt N (l.map (·.dst)) l (1000 * (id + 1)) env g [] fun acc env' g' => regionOk l.toArray acc.reverse = true ∧ Q .normal env' g') : wp P tt N (.region id l.toArray true) Q env g := by simpa [wp] using h

theorem opK_of {P : Program} {tt : TT} {N : Nat} {ds : List (Option Nat)} {fid : Nat} {o : Oper} {env : Env} {g : Store} {K : Env → Store → Prop}
    (h : dstOk N o.dst ∧ guardK ds env o.guard fun c =>
      execK P tt c o.op (o.op.operands.toList.map env.eval) g fid fun v u => (u = [] ∨ c = true) ∧ K (env.put o.dst (wrapK o.guard c v)) (upds g u)) : opK P tt N ds fid o env g K :=
  ⟨h.1, guardK_mono h.2 fun _ h => .inr h⟩
theorem opK_off {P : Program} {tt : TT} {N : Nat} {ds : List (Option Nat)} {fid : Nat} {o : Oper} {env : Env} {g : Store} {K : Env → Store → Prop}
    (h : guardK ds env o.guard fun c => c = false) (h1 : dstOk N o.dst) (h2 : K (env.put o.dst (.cnd false (.bool false))) g) : opK P tt N ds fid o env g K :=
  ⟨h1, guardK_mono h fun _ h => .inl ⟨h, h2⟩⟩
theorem v_step {ds : List (Option Nat)} {o : Oper} {rest : List Oper} {fid : Nat} {Q : Env → Store → Prop}
    (h : ∀ K : Env → Store → Prop, (∀ env' g', seqK P tt N ds rest (fid + 1) env' g' Q → K env' g') → opK P tt N ds fid o env g K) : seqK P tt N ds (o :: rest) fid env g Q := .inl (h _ fun _ _ h => h)
theorem v_stepR {ds : List (Option Nat)} {o : Oper} {rest : List Oper} {fid : Nat} {Q : Env → Store → Prop}
    (h : opR P N o env g fun env' g' => seqK P tt N ds rest (fid + 1) env' g' Q) : seqK P tt N ds (o :: rest) fid env g Q := .inr h
theorem v_end {ds : List (Option Nat)} {fid : Nat} {Q : Env → Store → Prop} (h : Q env g) : seqK P tt N ds [] fid env g Q := h
theorem v_stepD {ds : List (Option Nat)} {o : Oper} {rest : List Oper} {fid : Nat} {acc : List FP} {Q : List FP → Env → Store → Prop}
    (h : ∀ K : Env → Store → Prop, (∀ env' g', lexK P tt N ds rest (fid + 1) env' g' (fpOf o.op (o.op.operands.toList.map env.eval) fid :: acc) Q → K env' g') → opK P tt N ds fid o env g K) : lexK P tt N ds (o :: rest) fid env g acc Q := h _ fun _ _ h => h
/-- A guarded operation that is not made. -/
theorem v_off {ds : List (Option Nat)} {d : Option Nat} {p : Op} {T : TypeId} {ps : String} {af} {x : Nat × Bool} {rest : List Oper} {fid : Nat} {Q : Env → Store → Prop}
    (hg : guardK ds env (some x) fun c => c = false) (hd : dstOk N d) (h : seqK P tt N ds rest (fid + 1) (env.put d (.cnd false (.bool false))) g Q) :
    seqK P tt N ds (⟨d, p, T, ps, af, some x⟩ :: rest) fid env g Q := .inl (opK_off hg hd h)
theorem v_offD {ds : List (Option Nat)} {d : Option Nat} {p : Op} {T : TypeId} {ps : String} {af} {x : Nat × Bool} {rest : List Oper} {fid : Nat} {acc : List FP} {Q : List FP → Env → Store → Prop}
    (hg : guardK ds env (some x) fun c => c = false) (hd : dstOk N d) (h : lexK P tt N ds rest (fid + 1) (env.put d (.cnd false (.bool false))) g (fpOf p (p.operands.toList.map env.eval) fid :: acc) Q) :
    lexK P tt N ds (⟨d, p, T, ps, af, some x⟩ :: rest) fid env g acc Q := opK_off hg hd h
theorem v_endD {ds : List (Option Nat)} {fid : Nat} {acc : List FP} {l : Array Oper} {Q : Env → Store → Prop} (hok : regionOk l acc.reverse = true) (h : Q env g) :
    lexK P tt N ds [] fid env g acc (fun acc env' g' => regionOk l acc.reverse = true ∧ Q env' g') := ⟨hok, h⟩

/-- What is asked of the end of a function. -/
def finQ (tt : TT) (rs : List ResultVar) (r : PV) : VX → Env → Store → Prop := fun x env g =>
  match x with
  | .exit _ => False
  | _ => resK tt rs env g fun ps => Wk (PV.snap g 6 (one ps)) r
theorem v_fin_n {rs : List ResultVar} {r : PV} (h : resK tt rs env g fun ps => Wk (PV.snap g 6 (one ps)) r) : finQ tt rs r .normal env g := h
theorem v_fin_r {rs : List ResultVar} {r : PV} (h : resK tt rs env g fun ps => Wk (PV.snap g 6 (one ps)) r) : finQ tt rs r .ret env g := h

theorem v_enter (htt : TTOk P tt) (hm : P.follows .mixedOrders = true) {k : FuncId} {fn : Func} {c : Code} {rs : Array ResultVar} (hf : P.funcs[k]? = some fn) (hname : (fn.name == "runtime.NumGoroutine") = false) (hb : fn.body = some c) (hN : fn.ntmps = N) (hrs : fn.results = rs)
    {args : List PV} {r : PV} (hlen : args.length ≤ N) (h : wp P tt N c (finQ tt rs.toList r) (argEnv args) (fun _ => .fresh)) : Good P k args r :=
  good_of_wp htt hm hf hname hb hN hlen (by rw [hrs]; exact h)

theorem upd_apply (g : Store) (a b : Nat) (c : SC) : upd g a c b = if b = a then c else g b := rfl
end

theorem uns_nil (c : Bool) (K : List PV → Prop) : uns c [] K = K [] := rfl
theorem uns_cons (c : Bool) (p : PV) (ps : List PV) (K : List PV → Prop) : uns c (p :: ps) K = unc c p (fun q => uns c ps fun qs => K (q :: qs)) := rfl

/-- Nothing is given up. -/
theorem wk_list_nil : ∀ l : List PV, Wk (.slc 1 l) (.slc 1 l) := fun _ => .refl _

attribute [irreducible] seqQ blockQ finQ
end Go.V
/- The value logic, part 23: stores as lists, loops, slices that grow. -/
set_option linter.unusedVariables false
set_option linter.unusedSimpArgs false
namespace Go.V
open Go.RowKit

/-- A store, as a list of its objects. -/
def sto : List (Nat × SC) → Store
  | [], _ => .fresh
  | (a, c) :: l, b => if b = a then c else sto l b

theorem sto_nil (b : Nat) : sto [] b = .fresh := rfl
theorem sto_cons (a : Nat) (c : SC) (l : List (Nat × SC)) (b : Nat) : sto ((a, c) :: l) b = if b = a then c else sto l b := rfl
theorem fresh_sto : (fun _ => SC.fresh) = sto [] := rfl
theorem upd_sto (l : List (Nat × SC)) (a : Nat) (c : SC) : upd (sto l) a c = sto ((a, c) :: l) := by funext b; simp only [upd_apply, sto_cons]

theorem sto_mem {l : List (Nat × SC)} {b : Nat} (h : b ∈ l.map (·.1)) : (b, sto l b) ∈ l := by
  induction l with
  | nil => cases h
  | cons x l ih =>
    obtain ⟨a, c⟩ := x
    rw [sto_cons]
    by_cases hb : b = a
    · subst hb; rw [if_pos rfl]; exact List.mem_cons_self ..
    · rw [if_neg hb]
      simp only [List.map_cons, List.mem_cons] at h
      exact List.mem_cons_of_mem _ (ih (h.resolve_left hb))

theorem sto_none {l : List (Nat × SC)} {b : Nat} (h : b ∉ l.map (·.1)) : sto l b = .fresh := by
  induction l with
  | nil => rfl
  | cons x l ih =>
    obtain ⟨a, c⟩ := x
    simp only [List.map_cons, List.mem_cons, not_or] at h
    rw [sto_cons, if_neg h.1, ih h.2]

mutual
theorem PV.ren_none (f : Nat → Nat) : ∀ p : PV, PV.refs p = [] → PV.ren f p = p
  | .sref .., h => by simp [PV.refs] at h
  | .ptr .., h => by simp [PV.refs] at h
  | .mref _, h => by simp [PV.refs] at h
  | .agg cs, h => by simp only [PV.ren, PV.renL_none f cs h]
  | .tup cs, h => by simp only [PV.ren, PV.renL_none f cs h]
  | .fn _ fs cs, h => by
    simp only [PV.refs, List.append_eq_nil_iff] at h
    simp only [PV.ren, PV.renL_none f fs h.1, PV.renL_none f cs h.2]
  | .ifc _ p, h => by simp only [PV.ren, PV.ren_none f p h]
  | .cnd _ p, h => by simp only [PV.ren, PV.ren_none f p h]
  | .undef, _ => rfl
  | .bool _, _ => rfl
  | .int .., _ => rfl
  | .str _, _ => rfl
  | .nilS, _ => rfl
  | .slc .., _ => rfl
  | .vptr .., _ => rfl
  | .nilP, _ => rfl
  | .nilF, _ => rfl
  | .nilM, _ => rfl
  | .nilI, _ => rfl
theorem PV.renL_none (f : Nat → Nat) : ∀ l : List PV, PV.refsL l = [] → PV.renL f l = l
  | [], _ => rfl
  | p :: ps, h => by
    simp only [PV.refsL, List.append_eq_nil_iff] at h
    simp only [PV.renL, PV.ren_none f p h.1, PV.renL_none f ps h.2]
end

theorem renL_get (f : Nat → Nat) : ∀ (l : List PV) (j : Nat), (PV.renL f l)[j]? = (l[j]?).map (PV.ren f)
  | [], j => rfl
  | p :: ps, 0 => rfl
  | p :: ps, j + 1 => by simpa [PV.renL] using renL_get f ps j
theorem renL_length (f : Nat → Nat) : ∀ (l : List PV), (PV.renL f l).length = l.length
  | [] => rfl
  | p :: ps => by simp only [PV.renL, List.length_cons, renL_length f ps]
theorem refsL_of_get : ∀ (l : List PV) (j : Nat) (p : PV), l[j]? = some p → ∀ id ∈ p.refs, id ∈ PV.refsL l
  | [], j, p, h => by cases h
  | q :: l, 0, p, h => by cases h; intro id hid; exact List.mem_append_left _ hid
  | q :: l, j + 1, p, h => fun id hid => List.mem_append_right _ (refsL_of_get l j p h id hid)

theorem fits_sto {env : Env} {g : Store} {L : List Nat} {ps : List PV} (l : List (Nat × SC)) (f : Nat → Nat)
    (h1 : L.map env.get = PV.renL f ps) (h2 : ∀ id ∈ PV.refsL ps, id ∈ l.map (·.1))
    (h3 : ∀ x ∈ l, x.2.live = true ∧ g (f x.1) = SC.ren f x.2 ∧ ∀ j ∈ x.2.refs, j ∈ l.map (·.1))
    (h4 : (∀ x ∈ l.map (·.1), ∀ y ∈ l.map (·.1), f x = f y → x = y) ∧ ∀ x ∈ l.map (·.1), x < 100 → f x = x) : Fits env g L ps (sto l) := by
  have live : ∀ id, id ∈ l.map (·.1) → (sto l id).live = true := fun id h => (h3 _ (sto_mem h)).1
  have key : ∀ id, (sto l id).live = true → id ∈ l.map (·.1) := fun id h => by
    by_cases hm : id ∈ l.map (·.1)
    · exact hm
    · rw [sto_none hm] at h; cases h
  refine ⟨f, ?_, ?_, ?_, ?_, fun a ha hl => h4.2 a (key a hl) ha⟩
  · have := congrArg List.length h1
    rw [List.length_map, renL_length] at this
    exact this.symm
  · intro j t p ht hp
    refine ⟨?_, fun id hid => live id (h2 id (refsL_of_get _ j p hp id hid))⟩
    have := congrArg (fun q => q[j]?) h1
    simp only [List.getElem?_map, ht, renL_get, hp, Option.map_some, Option.some.injEq] at this
    exact this
  · intro id
    by_cases hm : id ∈ l.map (·.1)
    · have := h3 _ (sto_mem hm)
      exact .inr ⟨this.1, this.2.1, fun j hj => live j (this.2.2 j hj)⟩
    · exact .inl (sto_none hm)
  · exact fun a b ha hb h => h4.1 a (key a ha) b (key b hb) h

section
variable {P : Program} {tt : TT} {N : Nat} {Q : VX → Env → Store → Prop} {env : Env} {g : Store}

/-- The states at the head of a loop. -/
def loopI {α : Type} (good : α → Prop) (meas : α → Nat) (vals : α → List PV) (objs : α → List (Nat × SC)) : Nat → List PV → Store → Prop :=
  fun m ps g => ∃ a, good a ∧ m = meas a ∧ ps = vals a ∧ g = sto (objs a)
/-- What a round of a loop must end with. -/
def loopQ {α : Type} (L : List Nat) (good : α → Prop) (meas : α → Nat) (vals : α → List PV) (objs : α → List (Nat × SC)) (a : α) (Q : VX → Env → Store → Prop) : VX → Env → Store → Prop := fun x env' g'' =>
  match x with
  | .normal => ∃ m', m' < meas a ∧ ∃ ps' g1, loopI good meas vals objs m' ps' g1 ∧ Fits env' g'' L ps' g1
  | x => Q x env' g''

theorem v_loop {α : Type} {body : Code} (L : List Nat) (good : α → Prop) (meas : α → Nat) (vals : α → List PV) (objs : α → List (Nat × SC)) (a0 : α) (h0 : good a0)
    (hf : Fits env g L (vals a0) (sto (objs a0))) (hb : ∀ a, good a → wp P tt N body (loopQ L good meas vals objs a Q) (L.zip (vals a)) (sto (objs a))) : wp P tt N (.loop body) Q env g := by
  show LoopV _ _ _ _
  refine ⟨L, loopI good meas vals objs, meas a0, ⟨_, _, ⟨a0, h0, rfl, rfl, rfl⟩, hf⟩, ?_⟩
  rintro m ps g' ⟨a, ha, rfl, rfl, rfl⟩
  exact hb a ha
theorem v_round {α : Type} {L : List Nat} {good : α → Prop} {meas : α → Nat} {vals : α → List PV} {objs : α → List (Nat × SC)} {a : α} (a' : α) (h : good a') (hm : meas a' < meas a)
    (hf : Fits env g L (vals a') (sto (objs a'))) : loopQ L good meas vals objs a Q .normal env g := ⟨_, hm, _, _, ⟨a', h, rfl, rfl, rfl⟩, hf⟩
theorem v_loopx {α : Type} {L : List Nat} {good : α → Prop} {meas : α → Nat} {vals : α → List PV} {objs : α → List (Nat × SC)} {a : α} {i : Nat} (h : Q (.exit i) env g) : loopQ L good meas vals objs a Q (.exit i) env g := h
theorem v_loopr {α : Type} {L : List Nat} {good : α → Prop} {meas : α → Nat} {vals : α → List PV} {objs : α → List (Nat × SC)} {a : α} (h : Q .ret env g) : loopQ L good meas vals objs a Q .ret env g := h
end
attribute [irreducible] loopQ

/-- What is asked of the end of a function that was lent own objects. -/
def finRQ (tt : TT) (rs : List ResultVar) (post : PV → Store → Prop) : VX → Env → Store → Prop := fun x env g =>
  match x with
  | .exit _ => False
  | _ => resK tt rs env g fun ps => FinR g ps post
section
variable {P : Program} {tt : TT} {N : Nat} {Q : VX → Env → Store → Prop} {env : Env} {g : Store}
theorem v_finR_n {rs : List ResultVar} {post : PV → Store → Prop} (h : resK tt rs env g fun ps => FinR g ps post) : finRQ tt rs post .normal env g := h
theorem v_finR_r {rs : List ResultVar} {post : PV → Store → Prop} (h : resK tt rs env g fun ps => FinR g ps post) : finRQ tt rs post .ret env g := h
theorem v_enterR (htt : TTOk P tt) (hm : P.follows .mixedOrders = true) {k : FuncId} {fn : Func} {c : Code} {rs : Array ResultVar} (hf : P.funcs[k]? = some fn) (hname : (fn.name == "runtime.NumGoroutine") = false) (hb : fn.body = some c) (hN : fn.ntmps = N) (hrs : fn.results = rs)
    {args : List PV} {g0 : Store} {post : PV → Store → Prop} (hlen : args.length ≤ N) (h : wp P tt N c (finRQ tt rs.toList post) (argEnv args) g0) : GoodR P k args g0 post :=
  goodR_of_wp htt hm hf hname hb hN hlen (by rw [hrs]; exact h)

theorem v_callR {ds : List (Option Nat)} {d : Option Nat} {x : Operand} {xs : Array Operand} {ats : Array TypeId} {T : TypeId} {ps : String} {af} {rest : List Oper} {fid : Nat} {Q : Env → Store → Prop} {k : FuncId} {fs cap args : List PV} (hd : dstOk N d)
    (he : (x :: xs.toList).map env.eval = .fn k fs cap :: args) (h : callR P k (fs ++ args ++ cap) g fun v g' => seqK P tt N ds rest (fid + 1) (env.put d v) g' Q) :
    seqK P tt N ds (⟨d, .call { callee := .value x, args := xs, argTypes := ats }, T, ps, af, none⟩ :: rest) fid env g Q :=
  v_stepR ⟨rfl, hd, _, x, k, fs, cap, args, rfl, rfl, by rw [← he]; simp [Op.operands, Call.operands], h⟩

theorem sto_live {l : List (Nat × SC)} (hl : ∀ x ∈ l, x.2.live = true) (id : Nat) : (sto l id).live = true ↔ id ∈ l.map (·.1) :=
  ⟨fun h => Classical.byContradiction fun hm => (by rw [sto_none hm] at h; exact Bool.noConfusion h), fun h => hl _ (sto_mem h)⟩

/-- The end of a function that was lent own objects. -/
theorem finR_sto {ps : List PV} {post : PV → Store → Prop} (f : Nat → Nat) (r : PV) (l1 : List (Nat × SC)) (hp : post r (sto l1)) (h1 : one ps = PV.ren f r) (h2 : ∀ id ∈ r.refs, id ∈ l1.map (·.1))
    (h3 : ∀ x ∈ l1, x.2.live = true ∧ g (f x.1) = SC.ren f x.2 ∧ ∀ j ∈ x.2.refs, j ∈ l1.map (·.1))
    (h4 : (∀ x ∈ l1.map (·.1), ∀ y ∈ l1.map (·.1), f x = f y → x = y) ∧ ∀ x ∈ l1.map (·.1), x < 100 → f x = x) : FinR g ps post := by
  have hl := sto_live (l := l1) fun x hx => (h3 x hx).1
  refine ⟨f, r, sto l1, hp, h1, fun id hid => (hl id).2 (h2 id hid), fun id => ?_, fun a b ha hb => h4.1 a ((hl a).1 ha) b ((hl b).1 hb), fun a ha hla => h4.2 a ((hl a).1 hla) ha⟩
  by_cases hm : id ∈ l1.map (·.1)
  · have := h3 _ (sto_mem hm)
    exact .inr ⟨this.1, this.2.1, fun j hj => (hl j).2 (this.2.2 j hj)⟩
  · exact .inl (sto_none hm)

/-- The store after a call that was lent own objects. -/
def backL (l l0 : List (Nat × SC)) (σ : Nat → Nat) (l1 : List (Nat × SC)) (τ : Nat → Nat) : List (Nat × SC) :=
  l1.map (fun x => (τ x.1, SC.ren τ x.2)) ++ (l0.map (fun x => (σ x.1, SC.dead)) ++ l)

theorem sto_append (a b : List (Nat × SC)) (j : Nat) : sto (a ++ b) j = if j ∈ a.map (·.1) then sto a j else sto b j := by
  induction a with
  | nil => simp
  | cons x a ih =>
    obtain ⟨i, c⟩ := x
    simp only [List.cons_append, sto_cons, List.map_cons, List.mem_cons, ih]
    by_cases h : j = i
    · simp only [h, if_true, true_or]
    · simp only [h, if_false, false_or]

theorem sto_map_inj {l1 : List (Nat × SC)} {τ : Nat → Nat} (hinj : ∀ x ∈ l1.map (·.1), ∀ y ∈ l1.map (·.1), τ x = τ y → x = y) {id : Nat} (h : id ∈ l1.map (·.1)) :
    sto (l1.map (fun x => (τ x.1, SC.ren τ x.2))) (τ id) = SC.ren τ (sto l1 id) := by
  induction l1 with
  | nil => cases h
  | cons x l1 ih =>
    obtain ⟨a, c⟩ := x
    simp only [List.map_cons, sto_cons]
    by_cases e : id = a
    · subst e; simp
    · have hm : id ∈ l1.map (·.1) := by simp only [List.map_cons, List.mem_cons] at h; exact h.resolve_left e
      have hne : τ id ≠ τ a := fun he => e (hinj id h a (by simp only [List.map_cons, List.mem_cons, true_or]) he)
      rw [if_neg hne, if_neg e]
      exact ih (fun x hx y hy => hinj x (by simp only [List.map_cons, List.mem_cons]; exact .inr hx) y (by simp only [List.map_cons, List.mem_cons]; exact .inr hy)) hm

theorem callR_sto {k : FuncId} {args : List PV} {l : List (Nat × SC)} {K : PV → Store → Prop} {post : PV → Store → Prop} (args0 : List PV) (l0 : List (Nat × SC)) (σ : Nat → Nat) (hg : GoodR P k args0 (sto l0) post)
    (h1 : args = PV.renL σ args0) (h2 : ∀ id ∈ PV.refsL args0, id ∈ l0.map (·.1))
    (h3 : ∀ x ∈ l0, x.2.live = true ∧ sto l (σ x.1) = SC.ren σ x.2 ∧ ∀ j ∈ x.2.refs, j ∈ l0.map (·.1))
    (h4 : ∀ x ∈ l0.map (·.1), ∀ y ∈ l0.map (·.1), σ x = σ y → x = y)
    (hk : ∀ r g1, post r g1 → ∃ l1 τ, g1 = sto l1 ∧ (∀ x ∈ l1, x.2.live = true ∧ ∀ j ∈ x.2.refs, j ∈ l1.map (·.1)) ∧ (∀ id ∈ r.refs, id ∈ l1.map (·.1)) ∧
      (∀ id ∈ l1.map (·.1), (id < 100 → τ id = σ id ∧ id ∈ l0.map (·.1)) ∧ (100 ≤ id → Free (sto l) (τ id))) ∧
      (∀ x ∈ l1.map (·.1), ∀ y ∈ l1.map (·.1), τ x = τ y → x = y) ∧ K (PV.ren τ r) (sto (backL l l0 σ l1 τ))) : callR P k args (sto l) K := by
  have hl0 := sto_live (l := l0) fun x hx => (h3 x hx).1
  refine ⟨args0, sto l0, post, σ, hg, ⟨h1, fun id hid => (hl0 id).2 (h2 id hid), fun id => ?_, fun a b ha hb => h4 a ((hl0 a).1 ha) b ((hl0 b).1 hb)⟩, fun r g1 hp => ?_⟩
  · by_cases hm : id ∈ l0.map (·.1)
    · have := h3 _ (sto_mem hm)
      exact .inr ⟨this.1, this.2.1, fun j hj => (hl0 j).2 (this.2.2 j hj)⟩
    · exact .inl (sto_none hm)
  · obtain ⟨l1, τ, rfl, a1, a2, a3, a4, a5⟩ := hk r g1 hp
    have hl1 := sto_live (l := l1) fun x hx => (a1 x hx).1
    have hin : ∀ j, j ∈ (l1.map (fun x => (τ x.1, SC.ren τ x.2))).map (·.1) ↔ ∃ i, (sto l1 i).live = true ∧ τ i = j := fun j => by
      simp only [List.map_map, List.mem_map, Function.comp_apply]
      constructor
      · rintro ⟨x, hx, rfl⟩; exact ⟨x.1, (hl1 _).2 (List.mem_map_of_mem hx), rfl⟩
      · rintro ⟨i, hi, rfl⟩
        obtain ⟨x, hx, rfl⟩ := List.mem_map.1 ((hl1 i).1 hi)
        exact ⟨x, hx, rfl⟩
    have hin0 : ∀ j, j ∈ (l0.map (fun x => (σ x.1, SC.dead))).map (·.1) ↔ ∃ i, (sto l0 i).live = true ∧ σ i = j := fun j => by
      simp only [List.map_map, List.mem_map, Function.comp_apply]
      constructor
      · rintro ⟨x, hx, rfl⟩; exact ⟨x.1, (hl0 _).2 (List.mem_map_of_mem hx), rfl⟩
      · rintro ⟨i, hi, rfl⟩
        obtain ⟨x, hx, rfl⟩ := List.mem_map.1 ((hl0 i).1 hi)
        exact ⟨x, hx, rfl⟩
    refine ⟨τ, _, ⟨fun id hlt hl => ?_, fun id hge hl => (a3 id ((hl1 id).1 hl)).2 hge, fun a b ha hb => a4 a ((hl1 a).1 ha) b ((hl1 b).1 hb), fun id hl => ⟨?_, fun j hj => ?_⟩, fun id hid => (hl1 id).2 (a2 id hid), fun id hl hn => ?_, fun j hn hn' => ?_⟩, a5⟩
    · have := (a3 id ((hl1 id).1 hl)).1 hlt
      exact ⟨this.1, (hl0 id).2 this.2⟩
    · unfold backL
      rw [sto_append, if_pos ((hin _).2 ⟨id, hl, rfl⟩)]
      exact sto_map_inj a4 ((hl1 id).1 hl)
    · exact (hl1 j).2 ((a1 _ (sto_mem ((hl1 id).1 hl))).2 j hj)
    · unfold backL
      rw [sto_append, if_neg (fun h => by obtain ⟨i, h5, h6⟩ := (hin _).1 h; exact hn i h5 h6), sto_append, if_pos ((hin0 _).2 ⟨id, hl, rfl⟩)]
      have hm := (hin0 (σ id)).2 ⟨id, hl, rfl⟩
      obtain ⟨x, hx, he⟩ := List.mem_map.1 (sto_mem hm)
      exact (congrArg Prod.snd he).symm
    · unfold backL
      rw [sto_append, if_neg (fun h => by obtain ⟨i, h5, h6⟩ := (hin _).1 h; exact hn i h5 h6), sto_append, if_neg (fun h => by obtain ⟨i, h5, h6⟩ := (hin0 _).1 h; exact hn' i h5 h6)]
end
attribute [irreducible] finRQ

theorem opt_none {α : Type} : (none : Option α).toArray.toList = [] := rfl
theorem opt_some {α : Type} (a : α) : (some a).toArray.toList = [a] := rfl
theorem int_beq (a b : Int) : (a == b) = decide (a = b) := by by_cases h : a = b <;> simp [h]
theorem int_bne (a b : Int) : (a != b) = !decide (a = b) := by simp only [bne, int_beq]

def ints (l : List Int) : List PV := l.map (.int .i64)
def bools (l : List Bool) : List PV := l.map .bool
theorem ints_length (l : List Int) : (ints l).length = l.length := List.length_map ..
theorem bools_length (l : List Bool) : (bools l).length = l.length := List.length_map ..
theorem ints_get {l : List Int} {j : Nat} (h : j < l.length) : (ints l).getD j .undef = .int .i64 (l.getD j 0) := by
  simp [ints, List.getD, h]
theorem bools_get {l : List Bool} {j : Nat} (h : j < l.length) : (bools l).getD j .undef = .bool (l.getD j false) := by
  simp [bools, List.getD, h]
theorem ints_append (a b : List Int) : ints (a ++ b) = ints a ++ ints b := List.map_append ..
theorem ints_set (l : List Int) (j : Nat) (x : Int) : (ints l).set j (.int .i64 x) = ints (l.set j x) := by simp [ints, List.map_set]
theorem refsL_ints (l : List Int) : PV.refsL (ints l) = [] := by
  induction l with
  | nil => rfl
  | cons x l ih => simpa [ints, PV.refsL, PV.refs] using ih
theorem refsL_bools (l : List Bool) : PV.refsL (bools l) = [] := by
  induction l with
  | nil => rfl
  | cons x l ih => simpa [bools, PV.refsL, PV.refs] using ih
theorem renL_ints (f : Nat → Nat) (l : List Int) : PV.renL f (ints l) = ints l := PV.renL_none f _ (refsL_ints l)
theorem snap_ints (g : Store) (d : Nat) (l : List Int) : (ints l).map (PV.snap g d) = ints l := by
  induction l with
  | nil => rfl
  | cons x l ih =>
    simp only [ints, List.map_cons, List.map_map] at ih ⊢
    rw [ih]
    cases d <;> rfl
theorem snap_bools (g : Store) (d : Nat) (l : List Bool) : (bools l).map (PV.snap g d) = bools l := by
  induction l with
  | nil => rfl
  | cons x l ih =>
    simp only [bools, List.map_cons, List.map_map] at ih ⊢
    rw [ih]
    cases d <;> rfl
theorem ints_take (l : List Int) (n : Nat) : (ints l).take n = ints (l.take n) := by simp [ints, List.map_take]
theorem ints_drop (l : List Int) (n : Nat) : (ints l).drop n = ints (l.drop n) := by simp [ints, List.map_drop]
theorem ints_replicate (n : Nat) (x : Int) : List.replicate n (PV.int .i64 x) = ints (List.replicate n x) := by simp [ints, List.map_replicate]

/-- A slice that was made by appending, or none yet. -/
def osl (id : Nat) (l : List Int) : PV := if l = [] then .nilS else .sref id 1 0 l.length false
def oslG (id T : Nat) (l : List Int) : List (Nat × SC) := if l = [] then [] else [(id, .row T 1 (ints l))]
theorem wk_osl {g : Store} {d id T : Nat} {l : List Int} (h : l ≠ [] → g id = .row T 1 (ints l)) : Wk (PV.snap g (d + 1) (osl id l)) (.slc 1 (ints l)) := by
  unfold osl
  split
  · rename_i h; subst h; exact .nil 1
  · rename_i hne
    rw [PV.snap, h hne]
    simp only [ints_length, Nat.zero_add, Nat.le_refl, and_self, if_true, List.drop_zero]
    rw [List.take_of_length_le (by rw [ints_length]; exact Nat.le_refl _), snap_ints]
    exact .refl _
theorem snap_slc (g : Store) (d : Nat) (sz : Nat) (es : List PV) : PV.snap g (d + 1) (.slc sz es) = .slc sz es := rfl
theorem Wk.two {p q p' q' : PV} (h : Wk p p') (h' : Wk q q') : Wk (.tup [p, q]) (.tup [p', q']) := .tup rfl fun j => by
  match j with
  | 0 => rintro a b ⟨⟩ ⟨⟩; exact h
  | 1 => rintro a b ⟨⟩ ⟨⟩; exact h'
  | _ + 2 => rintro a b ⟨⟩
theorem wrap_i64 {x : Int} (h : -9223372036854775808 ≤ x) (h' : x ≤ 9223372036854775807) : IntKind.i64.wrap x = x := by
  rw [IntKind.wrap]
  have hb : (2 : Int) ^ IntKind.i64.bits = 18446744073709551616 := by decide +kernel
  have hb' : (2 : Int) ^ (IntKind.i64.bits - 1) = 9223372036854775808 := by decide +kernel
  have hs : IntKind.i64.signed = true := rfl
  rw [hb, hb', hs, Bool.true_and]
  by_cases hx : 0 ≤ x
  · have : x % 18446744073709551616 = x := Int.emod_eq_of_lt hx (by omega)
    rw [this, if_neg (by simp; omega)]
  · have : x % 18446744073709551616 = x + 18446744073709551616 := by omega
    rw [this, if_pos (by simp; omega)]; omega
theorem ite_bool (c a b : Bool) : PV.ite c (.bool a) (.bool b) = .bool (if c then a else b) := by cases c <;> rfl
theorem wk_eq {p q : PV} (h : p = q) : Wk p q := h ▸ .refl _
theorem wk_bool {a b : Bool} (h : a = b) : Wk (.bool a) (.bool b) := h ▸ .refl _
theorem all_take_succ {α : Type} [Inhabited α] (l : List α) (f : α → Bool) (k : Nat) (h : k < l.length) : (l.take (k + 1)).all f = ((l.take k).all f && f (l.getD k default)) := by
  rw [List.take_add_one, List.all_append]
  simp [List.getD, h]
theorem tdiv2 {a : Int} (h : 0 ≤ a) : a.tdiv 2 = a / 2 := Int.tdiv_eq_ediv_of_nonneg h
theorem tmod2 {a : Int} (h : 0 ≤ a) : a.tmod 2 = a % 2 := Int.tmod_eq_emod_of_nonneg h

/-- Indices. -/
def nats (l : List Nat) : List PV := l.map fun (n : Nat) => PV.int .i64 (n : Int)
theorem nats_length (l : List Nat) : (nats l).length = l.length := List.length_map ..
theorem nats_get {l : List Nat} {j : Nat} (h : j < l.length) : (nats l).getD j .undef = .int .i64 ((l.getD j 0 : Nat) : Int) := by
  simp [nats, List.getD, h]
theorem nats_set (l : List Nat) (j x : Nat) : (nats l).set j (.int .i64 (x : Int)) = nats (l.set j x) := by simp [nats, List.map_set]
theorem refsL_nats (l : List Nat) : PV.refsL (nats l) = [] := by
  induction l with
  | nil => rfl
  | cons x l ih => simpa [nats, PV.refsL, PV.refs] using ih
theorem renL_nats (f : Nat → Nat) (l : List Nat) : PV.renL f (nats l) = nats l := PV.renL_none f _ (refsL_nats l)
theorem nats_take (l : List Nat) (n : Nat) : (nats l).take n = nats (l.take n) := by simp [nats, List.map_take]
theorem nats_drop (l : List Nat) (n : Nat) : (nats l).drop n = nats (l.drop n) := by simp [nats, List.map_drop]
theorem nats_append (a b : List Nat) : nats (a ++ b) = nats a ++ nats b := List.map_append ..
theorem snap_nats (g : Store) (d : Nat) (l : List Nat) : (nats l).map (PV.snap g d) = nats l := by
  induction l with
  | nil => rfl
  | cons x l ih =>
    simp only [nats, List.map_cons, List.map_map] at ih ⊢
    rw [ih]
    cases d <;> rfl

/-- A function that is lent nothing and gives back one new object. -/
theorem goodF_of_R {P : Program} {k : FuncId} {args : List PV} {r : Nat → PV} {T sz : Nat} {es : List PV} (h : GoodR P k args (sto []) (fun p g => p = r 101 ∧ g = sto [(101, .row T sz es)])) (hes : PV.refsL es = [])
    (hren : ∀ id, PV.ren (fun _ => id) (r 101) = r id) (hrr : ∀ id ∈ (r 101).refs, id = 101) : GoodF P k args r T sz es := by
  refine ⟨h.1, fun w B vs hB hl hr => ?_⟩
  have hfr : ∀ id, sto [] id = SC.fresh := fun id => rfl
  have hsim : Sim w ⟨fun _ => True, noMu, fun _ => False⟩ B (sto []) noMu w := by
    refine ⟨fun id id' b base base' hl => by simp [hfr, SC.live] at hl, fun id => ⟨fun _ => rfl, fun _ => rfl⟩, fun id b base hl => by simp [hfr, SC.live] at hl, fun id b base hl => by simp [hfr, SC.live] at hl, fun b hb => ⟨trivial, hB b hb⟩, rfl, rfl, rfl, Nat.le_refl _, fun _ _ _ => rfl, fun b => .refl _ _, fun id _ hl => by simp [hfr, SC.live] at hl, fun _ h => h.elim⟩
  have hstab : ∀ b, B b → Stab w B (sto []) noMu w b := fun b hb => ⟨.inl hb, hB b hb, fun ⟨id, base, hl, _⟩ => by simp [hfr, SC.live] at hl⟩
  refine (h.2 w ⟨fun _ => True, noMu, fun _ => False⟩ B noMu vs hsim hl fun j p v hp hv => (hr j p v hp hv).step hstab (fun _ _ => rfl) (fun _ _ _ h => by cases h)).mono ?_
  rintro e w' ⟨v, p, g1, μ1, he, ⟨rfl, rfl⟩, hS, hrep⟩
  have h101 : sto [(101, SC.row T sz es)] 101 = .row T sz es := by simp [sto_cons]
  have hlive : (sto [(101, SC.row T sz es)] 101).live = true := by rw [h101]; rfl
  obtain ⟨b, base, hm⟩ := hS.live_mu hlive
  obtain ⟨hb1, hb2⟩ := hS.blk 101 b base hlive hm
  have hobj := hS.obj 101 b base hlive hm
  rw [h101] at hobj
  have hst : ∀ x, Stab w B (sto [(101, SC.row T sz es)]) μ1 w' x → x < w'.heap.size ∧ x ≠ b ∧ (B x ∨ w.heap.size ≤ x) := fun x ⟨h1, h2, h3⟩ => ⟨h2, fun e => h3 ⟨101, base, hlive, by rw [hm, e]⟩, h1⟩
  refine ⟨v, b, base, he, ⟨hS.os, hS.tape, hS.output, hS.size, fun k hk => hS.kept k hk trivial⟩, Nat.le_of_not_lt fun hlt => hb2 hlt trivial, hb1, fun μ B' hB' => ?_, fun μ B' id hB' hμ => ?_⟩
  · obtain ⟨cs, cap, h1, h2, h3, h4, h5⟩ := hobj
    refine ⟨cs, cap, h1, h2, h3, h4, fun j p hp => ?_⟩
    obtain ⟨u, g1, g2, g3⟩ := h5 j p hp
    have hp0 : p.refs = [] := by
      cases hq : p.refs with
      | nil => rfl
      | cons a l =>
        have := flat_refs hp a (by rw [hq]; simp)
        rw [hes] at this; cases this
    have := g3.ren (μ' := μ) (f := fun x => x) (L := fun _ => False) (B' := B') (fun x hx => by obtain ⟨a1, a2, a3⟩ := hst x hx; exact hB' x a1 a2 a3) (fun _ h => h.elim) (fun id hid => by rw [hp0] at hid; cases hid)
    rw [PV.ren_none _ p hp0] at this
    exact ⟨u, g1, g2, this⟩
  · have := hrep.ren (μ' := μ) (f := fun _ => id) (L := fun x => x = 101) (B' := B') (fun x hx => by obtain ⟨a1, a2, a3⟩ := hst x hx; exact hB' x a1 a2 a3) (fun x hx => by rw [hx, hm, hμ]) hrr
    rw [hren] at this
    exact this
end Go.V
