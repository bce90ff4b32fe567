import Derived.Test.YtjadcdikckmooaaProg
import Derived.Below
import Derived.WalkKit
import Derived.KernelRfl
import Derived.Laws.Tables
/- A part of a proof, with no condition of its own. Merged texts: VA VB VC VD VE VF VG VH VI VJ. -/
/- The value logic, part 1: pure values, what they stand for in memory, the store of own objects. -/
set_option linter.unusedVariables false
set_option linter.unusedSimpArgs false
namespace Go.V
open Go.RowKit

/-- A value without memory. -/
inductive PV where
  | undef
  | bool (b : Bool)
  | int (k : IntKind) (n : Int)
  | str (s : ByteArray)
  | agg (cs : List PV)
  | tup (vs : List PV)
  | nilS
  | slc (sz : Nat) (es : List PV)
  | sref (id sz lo n : Nat) (lim : Bool)
  | ptr (id sz i off : Nat)
  | vptr (cs : List PV) (off : Nat)
  | nilP
  | fn (f : FuncId) (first cap : List PV)
  | nilF
  | nilM
  | mref (id : Nat)
  | nilI
  | ifc (t : TypeId) (p : PV)
  | cnd (c : Bool) (p : PV)
  deriving Inhabited

def PV.cells : PV → List PV
  | .agg cs => cs
  | p => [p]

/-- The cells of a list of elements, one after the other. -/
def flat (es : List PV) : List PV := es.flatMap PV.cells

abbrev Mu := Nat → Option (Nat × Nat)
def noMu : Mu := fun _ => none

/-- What a pure value stands for. B: the blocks that are never written any more. -/
inductive Rep (w : World) (B : Nat → Prop) : Mu → PV → Value → Prop
  | undef (μ v) : Rep w B μ .undef v
  | bool (μ b) : Rep w B μ (.bool b) (.bool b)
  | int (μ k n) : Rep w B μ (.int k n) (.int k n)
  | str (μ s) : Rep w B μ (.str s) (.string s)
  | agg (μ : Mu) (cs : List PV) (vs : Array Value) (hl : cs.length = vs.size) (h1 : ∀ v ∈ vs.toList, v.oneCell' = true)
      (h : ∀ (j : Nat) (p : PV) (v : Value), cs[j]? = some p → vs[j]? = some v → Rep w B μ p v) : Rep w B μ (.agg cs) (.agg vs)
  | tup (μ : Mu) (cs : List PV) (vs : Array Value) (hl : cs.length = vs.size)
      (h : ∀ (j : Nat) (p : PV) (v : Value), cs[j]? = some p → vs[j]? = some v → Rep w B μ p v) : Rep w B μ (.tup cs) (.tuple vs)
  | nilS (μ) : Rep w B μ .nilS (.slice none 0 0)
  | slc0 (μ sz a c) : Rep w B μ (.slc sz []) (.slice a 0 c)
  | slc (μ : Mu) (sz : Nat) (es : List PV) (b off c : Nat) (hn : es.length ≤ c) (hB : B b) (vs : Nat → Value) (hs : ∀ e ∈ es, e.cells.length = sz)
      (h1 : ∀ j, j < (flat es).length → (vs j).oneCell' = true)
      (hc : ∀ j, j < (flat es).length → w.cell? ⟨b, off + j, none⟩ = some (vs j))
      (hr : ∀ (j : Nat) (p : PV), (flat es)[j]? = some p → Rep w B noMu p (vs j)) : Rep w B μ (.slc sz es) (.slice (some ⟨b, off, none⟩) es.length c)
  | sref (μ : Mu) (id sz lo n : Nat) (lim : Bool) (a : Option Addr) (c b base : Nat) (hμ : μ id = some (b, base)) (hn : n ≤ c) (hl : lim = true → c = n)
      (ha : c ≠ 0 → a = some ⟨b, base + lo * sz, none⟩)
      (hc : lim = false → ∃ cs T, w.heap[b]? = some (.cells cs T (0, 0)) ∧ cs.size = base + (lo + c) * sz) : Rep w B μ (.sref id sz lo n lim) (.slice a n c)
  | ptr (μ : Mu) (id sz i off b base : Nat) (hμ : μ id = some (b, base)) : Rep w B μ (.ptr id sz i off) (.pointer (some ⟨b, base + i * sz + off, none⟩))
  | vptr (μ : Mu) (cs : List PV) (off b o : Nat) (hB : B b) (vs : Nat → Value)
      (h1 : ∀ j, j < cs.length → (vs j).oneCell' = true)
      (hc : ∀ j, j < cs.length → w.cell? ⟨b, o + j, none⟩ = some (vs j))
      (hr : ∀ (j : Nat) (p : PV), cs[j]? = some p → Rep w B noMu p (vs j)) : Rep w B μ (.vptr cs off) (.pointer (some ⟨b, o + off, none⟩))
  | nilP (μ) : Rep w B μ .nilP (.pointer none)
  | fn (μ : Mu) (f : FuncId) (fs cs : List PV) (xs vs : Array Value) (hl : fs.length = xs.size) (hl' : cs.length = vs.size)
      (h : ∀ (j : Nat) (p : PV) (v : Value), fs[j]? = some p → xs[j]? = some v → Rep w B μ p v)
      (h' : ∀ (j : Nat) (p : PV) (v : Value), cs[j]? = some p → vs[j]? = some v → Rep w B μ p v) : Rep w B μ (.fn f fs cs) (.func (.func f) xs vs)
  | nilF (μ) : Rep w B μ .nilF .nilFunc
  | nilM (μ) : Rep w B μ .nilM (.map none)
  | mref (μ : Mu) (id b base : Nat) (hμ : μ id = some (b, base)) : Rep w B μ (.mref id) (.map (some b))
  | nilI (μ) : Rep w B μ .nilI .nilIface
  | ifc (μ : Mu) (t : TypeId) (p : PV) (v : Value) (h : Rep w B μ p v) : Rep w B μ (.ifc t p) (.iface t v)
  | cnd1 (μ : Mu) (p : PV) (v : Value) (h : Rep w B μ p v) : Rep w B μ (.cnd true p) v
  | cnd0 (μ : Mu) (p : PV) : Rep w B μ (.cnd false p) Go.undef

/-- More is known of the own objects, memory that is read is as it was. -/
def CellsKept (w w' : World) (b : Nat) : Prop := ∀ cs T, w.heap[b]? = some (.cells cs T (0, 0)) → ∃ cs', w'.heap[b]? = some (.cells cs' T (0, 0)) ∧ cs'.size = cs.size

theorem Rep.step {w w' : World} {B B' : Nat → Prop} {μ μ' : Mu} {p : PV} {v : Value} (h : Rep w B μ p v)
    (hB : ∀ b, B b → B' b) (hw : ∀ b, B b → w'.heap[b]? = w.heap[b]?)
    (hμ : ∀ id b base, μ id = some (b, base) → μ' id = some (b, base) ∧ CellsKept w w' b) : Rep w' B' μ' p v := by
  induction h generalizing μ' with
  | undef => exact .undef _ _
  | bool => exact .bool _ _
  | int => exact .int _ _ _
  | str => exact .str _ _
  | agg μ cs vs hl h1 h ih => exact .agg _ _ _ hl h1 fun j p v hp hv => ih j p v hp hv hμ
  | tup μ cs vs hl h ih => exact .tup _ _ _ hl fun j p v hp hv => ih j p v hp hv hμ
  | nilS => exact .nilS _
  | slc0 => exact .slc0 _ _ _ _
  | slc μ sz es b off c hn hb vs hs h1 hc hr ih =>
    refine .slc _ _ _ _ _ _ hn (hB _ hb) vs hs h1 (fun j hj => ?_) (fun j p hp => ih j p hp (fun _ _ _ h => by cases h))
    rw [← hc j hj]
    exact World.cell?_of_block (hw b hb)
  | sref μ id sz lo n lim a c b base hm hn hl ha hc =>
    obtain ⟨hm', hk⟩ := hμ _ _ _ hm
    refine .sref _ _ _ _ _ _ _ _ b base hm' hn hl ha fun h => ?_
    obtain ⟨cs, T, h1, h2⟩ := hc h
    obtain ⟨cs', h1', h2'⟩ := hk _ _ h1
    exact ⟨cs', T, h1', by omega⟩
  | ptr μ id sz i off b base hm => exact .ptr _ _ _ _ _ _ _ (hμ _ _ _ hm).1
  | vptr μ cs off b o hb vs h1 hc hr ih =>
    refine .vptr _ _ _ _ _ (hB _ hb) vs h1 (fun j hj => ?_) (fun j p hp => ih j p hp (fun _ _ _ h => by cases h))
    rw [← hc j hj]
    exact World.cell?_of_block (hw b hb)
  | nilP => exact .nilP _
  | fn μ f fs cs xs vs hl hl' h h' ih ih' => exact .fn _ _ _ _ _ _ hl hl' (fun j p v hp hv => ih j p v hp hv hμ) (fun j p v hp hv => ih' j p v hp hv hμ)
  | nilF => exact .nilF _
  | nilM => exact .nilM _
  | mref μ id b base hm => exact .mref _ _ _ _ (hμ _ _ _ hm).1
  | nilI => exact .nilI _
  | ifc μ t p v h ih => exact .ifc _ _ _ _ (ih hμ)
  | cnd1 μ p v h ih => exact .cnd1 _ _ _ (ih hμ)
  | cnd0 => exact .cnd0 _ _

/-- A cell of its own: neither a struct nor unknown. -/
def PV.cellish : PV → Bool
  | .undef | .agg _ | .tup _ | .cnd _ _ => false
  | _ => true

theorem Rep.oneCell {w : World} {B : Nat → Prop} {μ : Mu} {p : PV} {v : Value} (h : Rep w B μ p v) (hp : p.cellish = true) : v.oneCell' = true := by
  cases h <;> first | rfl | simp [PV.cellish] at hp

/-- An object of the store. -/
inductive SC where
  | fresh
  | dead
  | row (T : TypeId) (sz : Nat) (es : List PV)
  | omap (T : TypeId) (es : List (PV × PV))
  deriving Inhabited

def SC.live : SC → Bool
  | .row .. | .omap .. => true
  | _ => false

abbrev Store := Nat → SC

/-- One object in memory. -/
def ObjRep (w : World) (B : Nat → Prop) (μ : Mu) (b base : Nat) : SC → Prop
  | .row T sz es => ∃ (cs : Array Value) (cap : Nat), w.heap[b]? = some (.cells cs T (0, 0)) ∧ (∀ e ∈ es, e.cells.length = sz) ∧ es.length ≤ cap ∧ cs.size = base + cap * sz ∧
      ∀ (j : Nat) (p : PV), (flat es)[j]? = some p → ∃ v, cs[base + j]? = some v ∧ v.oneCell' = true ∧ Rep w B μ p v
  | .omap T es => base = 0 ∧ ∃ (ms : Array MapEntry) (clock : Nat), w.heap[b]? = some (.map ms clock) ∧ ms.size = es.length ∧
      ∀ (j : Nat) (m : MapEntry) (e : PV × PV), ms[j]? = some m → es[j]? = some e → Rep w B μ e.1 m.key ∧ Rep w B μ e.2 m.val
  | _ => True

theorem flat_length {sz : Nat} : ∀ {es : List PV}, (∀ e ∈ es, e.cells.length = sz) → (flat es).length = es.length * sz
  | [], _ => by simp [flat]
  | e :: es, h => by
    have h1 := h e (by simp)
    have h2 := flat_length (es := es) fun e he => h e (by simp [he])
    simp only [flat, List.flatMap_cons, List.length_append, List.length_cons, Nat.add_mul, Nat.one_mul] at *
    omega

theorem flat_at {sz : Nat} : ∀ {es : List PV} (i k : Nat), (∀ e ∈ es, e.cells.length = sz) → k < sz → (flat es)[i * sz + k]? = (es[i]?).bind fun e => e.cells[k]?
  | [], i, k, _, _ => by simp [flat]
  | e :: es, 0, k, h, hk => by
    have h1 := h e (by simp)
    simp only [flat, List.flatMap_cons, Nat.zero_mul, Nat.zero_add, List.getElem?_cons_zero, Option.bind_some]
    rw [List.getElem?_append_left (by omega)]
  | e :: es, i + 1, k, h, hk => by
    have h1 := h e (by simp)
    have h2 := flat_at (es := es) i k (fun e he => h e (by simp [he])) hk
    simp only [flat, List.flatMap_cons, List.getElem?_cons_succ] at *
    rw [List.getElem?_append_right (by rw [h1, Nat.add_mul, Nat.one_mul]; omega), ← h2]
    congr 1
    rw [h1, Nat.add_mul, Nat.one_mul]
    omega

end Go.V
/- The value logic, part 2: types, operations on pure values. -/
set_option linter.unusedVariables false
set_option linter.unusedSimpArgs false
namespace Go.V
open Go.RowKit

/-- What of a type is needed. -/
inductive TK where
  | bool | int (k : IntKind) | str
  | ptr (e : Nat) | slc (e : Nat) | map (k e : Nat)
  | agg (fs : List (Nat × Nat × Nat))   -- offset, type, size
  | arr (n e : Nat)
  | other
  deriving Inhabited

structure TI where
  kind : TK
  size : Nat
  bytes : Nat
  zero : List PV

abbrev TT := Nat → Option TI

/-- A constant. -/
def PV.const : PV → Option Value
  | .bool b => some (.bool b)
  | .int k n => some (.int k n)
  | .str s => some (.string s)
  | .nilS => some (.slice none 0 0)
  | .nilP => some (.pointer none)
  | .nilF => some .nilFunc
  | .nilM => some (.map none)
  | .nilI => some .nilIface
  | _ => none

def PV.ofConst : Value → PV
  | .bool b => .bool b
  | .int k n => .int k n
  | .string s => .str s
  | .slice none 0 0 => .nilS
  | .pointer none => .nilP
  | .nilFunc => .nilF
  | .map none => .nilM
  | .nilIface => .nilI
  | _ => .undef

def TK.isAgg : TK → Bool
  | .agg _ | .arr _ _ => true
  | _ => false

def TK.fits (P : Program) : TK → TypeDesc → Prop
  | .bool, d => d = .bool
  | .int k, d => d = .int k
  | .str, d => d = .string
  | .ptr e, d => d = .pointer e
  | .slc e, d => d = .slice e
  | .map k e, d => d = .map k e
  | .agg fs, d => ∃ fields : Array Field, d = .struct fields ∧ (fields.toList.map fun f => (f.offset, f.type, (P.info? f.type).map (·.size))) = fs.map fun f => (f.1, f.2.1, some f.2.2)
  | .arr n e, d => d = .array n e
  | .other, d => (match d with | .struct _ | .array _ _ => False | _ => True)

/-- The table of types is the program's. -/
def TTOk0 (P : Program) (tt : TT) : Prop := ∀ t i, tt t = some i → ∃ info d zv, P.info? t = some info ∧ P.underlying t = some d ∧ info.size = i.size ∧ info.bytes = i.bytes ∧
  info.zero = some zv ∧ i.zero.map PV.const = zv.cells.toList.map some ∧ i.kind.fits P d ∧ i.zero.length = i.size ∧ (i.kind.isAgg = false → i.size = 1)
def aggV : Value → Bool
  | .agg _ => true
  | _ => false
structure TTOk (P : Program) (tt : TT) : Prop where
  ok : ∀ t i, tt t = some i → ∃ info d zv, P.info? t = some info ∧ P.underlying t = some d ∧ info.size = i.size ∧ info.bytes = i.bytes ∧
    info.zero = some zv ∧ i.zero.map PV.const = zv.cells.toList.map some ∧ i.kind.fits P d ∧ i.zero.length = i.size ∧ (i.kind.isAgg = false → i.size = 1)
  agg : ∀ t i info zv, tt t = some i → P.info? t = some info → info.zero = some zv → aggV zv = i.kind.isAgg
instance {P : Program} {tt : TT} : CoeFun (TTOk P tt) (fun _ => ∀ t i, tt t = some i → ∃ info d zv, P.info? t = some info ∧ P.underlying t = some d ∧ info.size = i.size ∧ info.bytes = i.bytes ∧
    info.zero = some zv ∧ i.zero.map PV.const = zv.cells.toList.map some ∧ i.kind.fits P d ∧ i.zero.length = i.size ∧ (i.kind.isAgg = false → i.size = 1)) := ⟨TTOk.ok⟩

abbrev Env := List (Nat × PV)

def Env.get : Env → Nat → PV
  | [], _ => .undef
  | (k, p) :: r, t => if k = t then p else Env.get r t

def Env.put (env : Env) : Option Nat → PV → Env
  | some d, p => (d, p) :: env
  | none, _ => env

def Env.eval (env : Env) : Operand → PV
  | .tmp t => env.get t
  | .const v => PV.ofConst v
  | .global _ => .undef
  | .func f => .fn f [] []

def upd (g : Store) (id : Nat) (c : SC) : Store := fun j => if j = id then c else g j
def upds (g : Store) : List (Nat × SC) → Store
  | [] => g
  | (id, c) :: r => upds (upd g id c) r

/-- If c then p else q. -/
def PV.ite (c : Bool) : PV → PV → PV
  | .bool x, .bool y => .bool (if c then x else y)
  | .int k x, .int k' y => if k = k' then .int k (if c then x else y) else .undef
  | p, q => if c then p else q

def intOp (op : BinOp) (k : IntKind) (x y : Int) : PV :=
  match op with
  | .add => .int k (k.wrap (x + y))
  | .sub => .int k (k.wrap (x - y))
  | .mul => .int k (k.wrap (x * y))
  | .quo => .int k (k.wrap (x.tdiv y))
  | .rem => .int k (x.tmod y)
  | .and => .int k (k.wrap (BitVec.ofInt k.bits x &&& BitVec.ofInt k.bits y).toNat)
  | .or => .int k (k.wrap (BitVec.ofInt k.bits x ||| BitVec.ofInt k.bits y).toNat)
  | .xor => .int k (k.wrap (BitVec.ofInt k.bits x ^^^ BitVec.ofInt k.bits y).toNat)
  | .andNot => .int k (k.wrap (BitVec.ofInt k.bits x &&& ~~~(BitVec.ofInt k.bits y)).toNat)
  | .shl => .int k (k.wrap (x * 2 ^ min y.toNat k.bits))
  | .shr => .int k (x.fdiv (2 ^ min y.toNat k.bits))
  | .eql => .bool (x == y)
  | .neq => .bool (x != y)
  | .lss => .bool (decide (x < y))
  | .leq => .bool (decide (x ≤ y))
  | .gtr => .bool (decide (x > y))
  | .geq => .bool (decide (x ≥ y))

def intVC (op : BinOp) (k k' : IntKind) (y : Int) : Prop :=
  match op with
  | .quo | .rem => k' = k ∧ y ≠ 0
  | .shl | .shr => 0 ≤ y
  | _ => k' = k

/-- Cells of an element that are overwritten from a place on. -/
def splice (cs : List PV) (off : Nat) (vs : List PV) : List PV := cs.take off ++ vs ++ cs.drop (off + vs.length)

def PV.setCells (e : PV) (off : Nat) (v : PV) : PV :=
  match e with
  | .agg cs => .agg (splice cs off v.cells)
  | _ => v

/-- A value of a type out of cells. -/
def ofCells (isAgg : Bool) (size : Nat) (cs : List PV) (off : Nat) : PV :=
  if isAgg then .agg ((cs.drop off).take size) else cs.getD off .undef

mutual
/-- The own objects that a value leads to at once. -/
def PV.refs : PV → List Nat
  | .sref id _ _ _ _ => [id]
  | .ptr id _ _ _ => [id]
  | .mref id => [id]
  | .agg cs => PV.refsL cs
  | .tup cs => PV.refsL cs
  | .fn _ fs cs => PV.refsL fs ++ PV.refsL cs
  | .ifc _ p => PV.refs p
  | .cnd _ p => PV.refs p
  | _ => []
def PV.refsL : List PV → List Nat
  | [] => []
  | p :: ps => PV.refs p ++ PV.refsL ps
end

mutual
/-- Is the value one that leads to no memory? -/
def PV.plain : PV → Bool
  | .bool _ => true
  | .int _ _ => true
  | .str _ => true
  | .nilS => true
  | .nilP => true
  | .nilF => true
  | .nilM => true
  | .nilI => true
  | .agg cs => PV.plainL cs
  | .tup cs => PV.plainL cs
  | _ => false
def PV.plainL : List PV → Bool
  | [] => true
  | p :: ps => PV.plain p && PV.plainL ps
end

/-- The value as it is now, without own objects. -/
def PV.snap (g : Store) : Nat → PV → PV
  | 0, .agg cs => .agg (cs.map fun _ => .undef)
  | 0, p => if p.plain then p else .undef
  | d + 1, .agg cs => .agg (cs.map (PV.snap g d))
  | d + 1, .tup cs => .tup (cs.map (PV.snap g d))
  | d + 1, .fn f fs cs => .fn f (fs.map (PV.snap g d)) (cs.map (PV.snap g d))
  | d + 1, .ifc t p => .ifc t (PV.snap g d p)
  | d + 1, .sref id sz lo n _ =>
    match g id with
    | .row _ sz' es => if sz' = sz ∧ lo + n ≤ es.length then .slc sz (((es.drop lo).take n).map (PV.snap g d)) else .undef
    | _ => .undef
  | d + 1, .ptr id sz i off =>
    match g id with
    | .row _ sz' es => if sz' = sz ∧ i < es.length then .vptr ((es.getD i .undef).cells.map (PV.snap g d)) off else .undef
    | _ => .undef
  | _, .mref _ => .undef
  | _, .cnd _ _ => .undef
  | _, p => p

/-- A value known only if c holds. -/
def unc (c : Bool) (p : PV) (K : PV → Prop) : Prop :=
  match p with
  | .cnd c' q => (c = true → c' = true) ∧ K q
  | p => K p

end Go.V
/- The value logic, part 3: operations, as a relation; what each reads and writes of the store. -/
set_option linter.unusedVariables false
set_option linter.unusedSimpArgs false
namespace Go.V
open Go.RowKit

/-- An element of a type out of its cells. -/
def elemOf (i : TI) (cs : List PV) : PV := if i.kind.isAgg then .agg cs else cs.getD 0 .undef

/-- May the value be laid into cells? -/
def PV.storable : PV → Bool
  | .agg _ => true
  | p => p.cellish

/-- The fields of a literal, laid into zero cells. -/
def fillP (place : Nat → Option (Nat × Nat)) (cells : List PV) : List (Nat × PV) → Option (List PV)
  | [] => some cells
  | (i, v) :: rest =>
    match place i with
    | none => none
    | some (off, size) => if v.cells.length = size ∧ off + size ≤ cells.length ∧ v.storable = true then fillP place (splice cells off v.cells) rest else none

/-- Elements of a literal, laid into zero elements. -/
def fillE (size : Nat) (es : List PV) : List (Nat × PV) → Option (List PV)
  | [] => some es
  | (i, v) :: rest => if v.cells.length = size ∧ i < es.length ∧ v.storable = true then fillE size (es.set i v) rest else none

/-- The elements that an appended slice holds. -/
def contents (g : Store) : PV → Option (Nat × List PV)
  | .nilS => some (0, [])
  | .slc sz es => some (sz, es)
  | .sref id sz lo n _ =>
    match g id with
    | .row _ sz' es => if sz' = sz ∧ lo + n ≤ es.length then some (sz, (es.drop lo).take n) else none
    | _ => none
  | _ => none

/-- 'x[low:high:max]': its arguments out of the list of operands. -/
def sliceArgs (lo hi mx : Bool) (vals : List PV) : Option (PV × Option PV × Option PV × Option PV) :=
  match lo, hi, mx, vals with
  | false, false, false, [x] => some (x, none, none, none)
  | true, false, false, [x, l] => some (x, some l, none, none)
  | false, true, false, [x, h] => some (x, none, some h, none)
  | true, true, false, [x, l, h] => some (x, some l, some h, none)
  | false, true, true, [x, h, m] => some (x, none, some h, some m)
  | true, true, true, [x, l, h, m] => some (x, some l, some h, some m)
  | _, _, _, _ => none

/-- A bound of a slice expression. -/
def bound (d : Nat) : Option PV → Option Int
  | none => some d
  | some (.int _ n) => some n
  | some _ => none

/-- A number for a new own object. Numbers below 1000 are for objects that the caller lent. -/
def Free (g : Store) (fid : Nat) : Prop := g fid = .fresh ∧ 1000 ≤ fid


/-- Maps: the value of a number; an entry laid. -/
def mapFind : List (PV × PV) → Int → Option PV
  | [], _ => none
  | (.int _ m, v) :: r, n => if m = n then some v else mapFind r n
  | _ :: r, n => mapFind r n
def mapPut : List (PV × PV) → IntKind → Int → PV → List (PV × PV)
  | [], k, n, p => [(.int k n, p)]
  | (.int k' m, v) :: r, k, n, p => if m = n then (.int k n, p) :: r else (.int k' m, v) :: mapPut r k n p
  | e :: r, k, n, p => e :: mapPut r k n p
def IntKeys (k : IntKind) (es : List (PV × PV)) : Prop := ∀ e ∈ es, ∃ m, e.1 = .int k m
def found (ei : TI) (cm : Bool) : Option PV → PV
  | some v => if cm then .tup [v, .bool true] else v
  | none => if cm then .tup [elemOf ei ei.zero, .bool false] else elemOf ei ei.zero

/-- One operation on pure values, that is not a call of a Go function. -/
inductive VOp (tt : TT) (g : Store) (fid : Nat) : Op → List PV → PV → List (Nat × SC) → Prop
  | move (x p) : VOp tt g fid (.move x) [p] p []
  | assign (x p) : VOp tt g fid (.assign x) [p] p []
  | pick (c a b β p q p' q') (hp : β = true → p = p' ∨ p = .cnd true p') (hq : β = false → q = q' ∨ q = .cnd true q') :
      VOp tt g fid (.pick c a b) [.bool β, p, q] (PV.ite β p' q') []
  | alloc (T i) (ht : tt T = some i) (hf : Free g fid) : VOp tt g fid (.alloc T) [] (.ptr fid i.size 0 0) [(fid, .row T i.size [elemOf i i.zero])]
  | box (T x p i) (ht : tt T = some i) (hf : Free g fid) (hl : p.cells.length = i.size) (hs : p.storable = true) :
      VOp tt g fid (.box T x) [p] (.ptr fid i.size 0 0) [(fid, .row T i.size [p])]
  | build (T parts vals i fs cs) (ht : tt T = some i) (hk : i.kind = .agg fs)
      (hcs : fillP (fun f => (fs[f]?).map fun x => (x.1, x.2.2)) i.zero (parts.toList.map (·.1) |>.zip vals) = some cs) (hl : vals.length = parts.size) :
      VOp tt g fid (.build T parts) vals (.agg cs) []
  | buildA (T parts vals i n e ie cs) (ht : tt T = some i) (hk : i.kind = .arr n e) (he : tt e = some ie)
      (hcs : fillP (fun f => some (f * ie.size, ie.size)) i.zero (parts.toList.map (·.1) |>.zip vals) = some cs) (hl : vals.length = parts.size) :
      VOp tt g fid (.build T parts) vals (.agg cs) []
  | buildSlice (T len parts vals i e ie es) (ht : tt T = some i) (hk : i.kind = .slc e) (he : tt e = some ie) (hz : 0 < ie.size) (hm : len * ie.size ≤ 16777216) (hf : Free g fid)
      (hes : fillE ie.size (List.replicate len (elemOf ie ie.zero)) (parts.toList.map (·.1) |>.zip vals) = some es) (hl : vals.length = parts.size) :
      VOp tt g fid (.buildSlice T len parts) vals (.sref fid ie.size 0 len false) [(fid, .row e ie.size es)]
  | load (T a id sz i off ti T' es) (ht : tt T = some ti) (hg : g id = .row T' sz es) (hi : i < es.length) (ho : off + ti.size ≤ sz) :
      VOp tt g fid (.load T a) [.ptr id sz i off] (ofCells ti.kind.isAgg ti.size (es.getD i .undef).cells off) []
  | loadV (T a cs off ti) (ht : tt T = some ti) (ho : off + ti.size ≤ cs.length) : VOp tt g fid (.load T a) [.vptr cs off] (ofCells ti.kind.isAgg ti.size cs off) []
  | store (T a x id sz i off p ti T' es) (ht : tt T = some ti) (hg : g id = .row T' sz es) (hi : i < es.length) (ho : off + ti.size ≤ sz)
      (hl : p.cells.length = ti.size) (hz : 0 < ti.size) (hs : p.storable = true) :
      VOp tt g fid (.store T a x) [.ptr id sz i off, p] .undef [(id, .row T' sz (es.set i ((es.getD i .undef).setCells off p)))]
  | nilCheck (x id sz i off) : VOp tt g fid (.nilCheck x) [.ptr id sz i off] (.ptr id sz i off) []
  | nilCheckV (x cs off) : VOp tt g fid (.nilCheck x) [.vptr cs off] (.vptr cs off) []
  | nilCheckF (x f fs cs) : VOp tt g fid (.nilCheck x) [.fn f fs cs] (.fn f fs cs) []
  | binInt (op T x y T' k a k' b) (h : intVC op k k' b) : VOp tt g fid (.binOp op T x y T') [.int k a, .int k' b] (intOp op k a b) []
  | binBoolEq (T x y T' a b i) (ht : tt T = some i) (hk : i.kind = .bool) : VOp tt g fid (.binOp .eql T x y T') [.bool a, .bool b] (.bool (a == b)) []
  | binBoolNe (T x y T' a b i) (ht : tt T = some i) (hk : i.kind = .bool) : VOp tt g fid (.binOp .neq T x y T') [.bool a, .bool b] (.bool (!(a == b))) []
  | strEq (T x y T' a b) : VOp tt g fid (.binOp .eql T x y T') [.str a, .str b] (.bool (a.toList == b.toList)) []
  | strNe (T x y T' a b) : VOp tt g fid (.binOp .neq T x y T') [.str a, .str b] (.bool !(a.toList == b.toList)) []
  | strAdd (T x y T' a b) (h : ((a.size + b.size : Nat) : Int) ≤ IntKind.i64.max) : VOp tt g fid (.binOp .add T x y T') [.str a, .str b] (.str (a ++ b)) []
  | ptrEqNil (T x y T' id sz i off ti e) (ht : tt T = some ti) (hk : ti.kind = .ptr e) : VOp tt g fid (.binOp .eql T x y T') [.ptr id sz i off, .nilP] (.bool false) []
  | ptrNeNil (T x y T' id sz i off ti e) (ht : tt T = some ti) (hk : ti.kind = .ptr e) : VOp tt g fid (.binOp .neq T x y T') [.ptr id sz i off, .nilP] (.bool true) []
  | vptrEqNil (T x y T' cs off ti e) (ht : tt T = some ti) (hk : ti.kind = .ptr e) : VOp tt g fid (.binOp .eql T x y T') [.vptr cs off, .nilP] (.bool false) []
  | vptrNeNil (T x y T' cs off ti e) (ht : tt T = some ti) (hk : ti.kind = .ptr e) : VOp tt g fid (.binOp .neq T x y T') [.vptr cs off, .nilP] (.bool true) []
  | not (T x b) : VOp tt g fid (.unOp .not T x) [.bool b] (.bool !b) []
  | neg (T x k a) : VOp tt g fid (.unOp .neg T x) [.int k a] (intOp .sub k 0 a) []
  | xor (T x k a) : VOp tt g fid (.unOp .xor T x) [.int k a] (intOp .xor k (if k.signed then -1 else k.max) a) []
  | convert (src dst x k k' n i j) (ht : tt src = some i) (hk : i.kind = .int k) (ht' : tt dst = some j) (hk' : j.kind = .int k') :
      VOp tt g fid (.convert src dst x) [.int k n] (.int k' (k'.wrap n)) []
  | makeFunc (f first cap vals) (hl : vals.length = first.size + cap.size) :
      VOp tt g fid (.makeFunc (.func f) first cap) vals (.fn f (vals.take first.size) (vals.drop first.size)) []
  | makeSlice (T l c k n k' m i e ie) (ht : tt T = some i) (hk : i.kind = .slc e) (he : tt e = some ie) (hf : Free g fid)
      (hn : 0 ≤ n) (hm : n ≤ m) (hb : m.toNat * ie.bytes ≤ 140737488355328) (hb' : m ≤ 140737488355328) :
      VOp tt g fid (.makeSlice T l c) [.int k n, .int k' m] (.sref fid ie.size 0 n.toNat false) [(fid, .row e ie.size (List.replicate n.toNat (elemOf ie ie.zero)))]
  | sliceR (T x lo hi mx vals id sz o n lim l h L H M) (ha : sliceArgs lo.isSome hi.isSome mx.isSome vals = some (.sref id sz o n lim, L, H, M))
      (hl : bound 0 L = some l) (hh : bound n H = some h) (h0 : 0 ≤ l) (h1 : l ≤ h) (h2 : h ≤ n) (i e ie) (ht : tt T = some i) (hk : i.kind = .slc e) (he : tt e = some ie) (hz : ie.size = sz)
      (hM : M = none) (hlim : lim = true → h = n) :
      VOp tt g fid (.slice T x lo hi mx) vals (.sref id sz (o + l.toNat) (h - l).toNat lim) []
  | sliceR3 (T x lo hi mx vals id sz o n lim l h L H M m) (ha : sliceArgs lo.isSome hi.isSome mx.isSome vals = some (.sref id sz o n lim, L, H, some M))
      (hl : bound 0 L = some l) (hh : bound n H = some h) (hm : bound n (some M) = some m) (h0 : 0 ≤ l) (h1 : l ≤ h) (h2 : h ≤ n) (i e ie) (ht : tt T = some i) (hk : i.kind = .slc e) (he : tt e = some ie) (hz : ie.size = sz)
      (hM : m = h) : VOp tt g fid (.slice T x lo hi mx) vals (.sref id sz (o + l.toNat) (h - l).toNat true) []
  | sliceV (T x lo hi mx vals sz es l h L H) (ha : sliceArgs lo.isSome hi.isSome mx.isSome vals = some (.slc sz es, L, H, none))
      (hl : bound 0 L = some l) (hh : bound es.length H = some h) (h0 : 0 ≤ l) (h1 : l ≤ h) (h2 : h ≤ es.length) (i e ie) (ht : tt T = some i) (hk : i.kind = .slc e) (he : tt e = some ie) (hz : ie.size = sz) :
      VOp tt g fid (.slice T x lo hi mx) vals (.slc sz ((es.drop l.toNat).take (h - l).toNat)) []
  | fieldAddr (T x f id sz i off ti fs o ft fz) (ht : tt T = some ti) (hk : ti.kind = .agg fs) (hf : fs[f]? = some (o, ft, fz)) (hz : fz ≠ 0) :
      VOp tt g fid (.fieldAddr T x f) [.ptr id sz i off] (.ptr id sz i (off + o)) []
  | fieldAddrV (T x f cs off ti fs o ft fz) (ht : tt T = some ti) (hk : ti.kind = .agg fs) (hf : fs[f]? = some (o, ft, fz)) (hz : fz ≠ 0) :
      VOp tt g fid (.fieldAddr T x f) [.vptr cs off] (.vptr cs (off + o)) []
  | field (T x f cs ti fs o ft fz fi) (ht : tt T = some ti) (hk : ti.kind = .agg fs) (hf : fs[f]? = some (o, ft, fz)) (hi : tt ft = some fi) (ho : o + fi.size ≤ cs.length) :
      VOp tt g fid (.field T x f) [.agg cs] (ofCells fi.kind.isAgg fi.size cs o) []
  | indexAddr (T x ix sz es k) (n : Int) (ti e ie) (ht : tt T = some ti) (hk : ti.kind = .slc e) (he : tt e = some ie) (hz : ie.size = sz) (h0 : 0 ≤ n) (h1 : n < es.length) :
      VOp tt g fid (.indexAddr T x ix) [.slc sz es, .int k n] (.vptr (es.getD n.toNat .undef).cells 0) []
  | indexAddrR (T x ix) (id sz lo m : Nat) (lim k) (n : Int) (ti e ie) (ht : tt T = some ti) (hk : ti.kind = .slc e) (he : tt e = some ie) (hz : ie.size = sz) (h0 : 0 ≤ n) (h1 : n < m) :
      VOp tt g fid (.indexAddr T x ix) [.sref id sz lo m lim, .int k n] (.ptr id sz (lo + n.toNat) 0) []
  | indexAddrA (T x ix id sz i off k) (n : Int) (ti len e ie) (ht : tt T = some ti) (hk : ti.kind = .arr len e) (he : tt e = some ie) (h0 : 0 ≤ n) (h1 : n < len) :
      VOp tt g fid (.indexAddr T x ix) [.ptr id sz i off, .int k n] (.ptr id sz i (off + n.toNat * ie.size)) []
  | indexAddrAV (T x ix cs off k) (n : Int) (ti len e ie) (ht : tt T = some ti) (hk : ti.kind = .arr len e) (he : tt e = some ie) (h0 : 0 ≤ n) (h1 : n < len) :
      VOp tt g fid (.indexAddr T x ix) [.vptr cs off, .int k n] (.vptr cs (off + n.toNat * ie.size)) []
  | indexA (T x ix cs k) (n : Int) (ti len e ie) (ht : tt T = some ti) (hk : ti.kind = .arr len e) (he : tt e = some ie) (h0 : 0 ≤ n) (h1 : n < len) (hl : n.toNat * ie.size + ie.size ≤ cs.length) :
      VOp tt g fid (.index T x ix) [.agg cs, .int k n] (ofCells ie.kind.isAgg ie.size cs (n.toNat * ie.size)) []
  | indexS (T x ix s k) (n : Int) (ti) (ht : tt T = some ti) (hk : ti.kind = .str) (h0 : 0 ≤ n) (h1 : n < s.size) :
      VOp tt g fid (.index T x ix) [.str s, .int k n] (.int .u8 ((s.data.getD n.toNat 0).toNat)) []
  | extract (x ix vs p) (h : vs[ix]? = some p) : VOp tt g fid (.extract x ix) [.tup vs] p []
  | makeMap (T ti kt et) (ht : tt T = some ti) (hk : ti.kind = .map kt et) (hf : Free g fid) : VOp tt g fid (.makeMap T none) [] (.mref fid) [(fid, .omap T [])]
  | lookup (T x ix cm id T' es k n ti kt et ki ei) (ht : tt T = some ti) (hk : ti.kind = .map kt et) (hki : tt kt = some ki) (hkk : ki.kind = .int k) (hei : tt et = some ei)
      (hg : g id = .omap T' es) (hes : IntKeys k es) : VOp tt g fid (.lookup T x ix cm) [.mref id, .int k n] (found ei cm (mapFind es n)) []
  | mapUpdate (T m kx x id T' es k n p ti kt et ki) (ht : tt T = some ti) (hk : ti.kind = .map kt et) (hki : tt kt = some ki) (hkk : ki.kind = .int k)
      (hg : g id = .omap T' es) (hes : IntKeys k es) : VOp tt g fid (.mapUpdate T m kx x) [.mref id, .int k n, p] .undef [(id, .omap T' (mapPut es k n p))]
  | insert (T m kx x id T' es k n p ti kt et ki) (ht : tt T = some ti) (hk : ti.kind = .map kt et) (hki : tt kt = some ki) (hkk : ki.kind = .int k)
      (hg : g id = .omap T' es) (hes : IntKeys k es) : VOp tt g fid (.insert T m kx x) [.mref id, .int k n, p] .undef [(id, .omap T' (mapPut es k n p))]
  | len (c a T sz es ti e) (hc : c.callee = .builtin .len) (ha : c.args = #[a]) (hT : c.argTypes = #[T]) (ht : tt T = some ti) (hk : ti.kind = .slc e) :
      VOp tt g fid (.call c) [.slc sz es] (.int .i64 es.length) []
  | lenR (c a T id sz lo n lim ti e) (hc : c.callee = .builtin .len) (ha : c.args = #[a]) (hT : c.argTypes = #[T]) (ht : tt T = some ti) (hk : ti.kind = .slc e) :
      VOp tt g fid (.call c) [.sref id sz lo n lim] (.int .i64 n) []
  | lenN (c a T ti e) (hc : c.callee = .builtin .len) (ha : c.args = #[a]) (hT : c.argTypes = #[T]) (ht : tt T = some ti) (hk : ti.kind = .slc e) :
      VOp tt g fid (.call c) [.nilS] (.int .i64 0) []
  | lenS (c a T ti s) (hc : c.callee = .builtin .len) (ha : c.args = #[a]) (hT : c.argTypes = #[T]) (ht : tt T = some ti) (hk : ti.kind = .str) :
      VOp tt g fid (.call c) [.str s] (.int .i64 s.size) []
  | min (c a b x y k) (hc : c.callee = .builtin .min) (ha : c.args = #[a, b]) : VOp tt g fid (.call c) [.int k x, .int k y] (.int k (if y < x then y else x)) []
  | max (c a b x y k) (hc : c.callee = .builtin .max) (ha : c.args = #[a, b]) : VOp tt g fid (.call c) [.int k x, .int k y] (.int k (if y > x then y else x)) []
  | appendE (c a b T id sz lo n lim q sz' i e ie) (hc : c.callee = .builtin .append) (ha : c.args = #[a, b]) (hT : c.argTypes = #[T, T]) (ht : tt T = some i) (hk : i.kind = .slc e) (he : tt e = some ie)
      (hx : contents g q = some (sz', [])) :
      VOp tt g fid (.call c) [.sref id sz lo n lim, q] (.sref id sz lo n lim) []
  | appendN (c a b T q sz' xs i e ie) (hc : c.callee = .builtin .append) (ha : c.args = #[a, b]) (hT : c.argTypes = #[T, T]) (ht : tt T = some i) (hk : i.kind = .slc e) (he : tt e = some ie)
      (hx : contents g q = some (sz', xs)) (hz : xs ≠ [] → sz' = ie.size) (hf : Free g fid) (hm : xs.length * ie.bytes ≤ 140737488355328) (hm' : xs.length ≤ 140737488355328) (hne : xs ≠ []) :
      VOp tt g fid (.call c) [.nilS, q] (.sref fid ie.size 0 xs.length false) [(fid, .row e ie.size xs)]
  | appendRoom (c a b T id sz lo n q sz' xs i e ie T0 es) (hc : c.callee = .builtin .append) (ha : c.args = #[a, b]) (hT : c.argTypes = #[T, T]) (ht : tt T = some i) (hk : i.kind = .slc e) (he : tt e = some ie)
      (hx : contents g q = some (sz', xs)) (hz : ie.size = sz) (hz' : xs ≠ [] → sz' = sz) (hg : g id = .row T0 sz es) (hr : lo + n + xs.length ≤ es.length) (hzp : 0 < sz) :
      VOp tt g fid (.call c) [.sref id sz lo n false, q] (.sref id sz lo (n + xs.length) false) [(id, .row T0 sz (es.take (lo + n) ++ xs ++ es.drop (lo + n + xs.length)))]
  | appendGrow (c a b T id sz lo n q sz' xs i e ie es) (hc : c.callee = .builtin .append) (ha : c.args = #[a, b]) (hT : c.argTypes = #[T, T]) (ht : tt T = some i) (hk : i.kind = .slc e) (he : tt e = some ie)
      (hx : contents g q = some (sz', xs)) (hz : ie.size = sz) (hz' : xs ≠ [] → sz' = sz) (hg : g id = .row e sz es) (hn : lo + n ≤ es.length) (hr : es.length < lo + n + xs.length)
      (hf : Free g fid) (hne : fid ≠ id) (hm : (n + xs.length) * ie.bytes ≤ 140737488355328) (hm' : n + xs.length ≤ 140737488355328) :
      VOp tt g fid (.call c) [.sref id sz lo n false, q] (.sref fid sz 0 (n + xs.length) false) [(id, .dead), (fid, .row e sz ((es.drop lo).take n ++ xs))]
  | appendLim (c a b T id sz lo n q sz' xs i e ie es) (hc : c.callee = .builtin .append) (ha : c.args = #[a, b]) (hT : c.argTypes = #[T, T]) (ht : tt T = some i) (hk : i.kind = .slc e) (he : tt e = some ie)
      (hx : contents g q = some (sz', xs)) (hz : ie.size = sz) (hz' : xs ≠ [] → sz' = sz) (hg : g id = .row e sz es) (hn : lo + n ≤ es.length) (hne : xs ≠ [])
      (hf : Free g fid) (hm : (n + xs.length) * ie.bytes ≤ 140737488355328) (hm' : n + xs.length ≤ 140737488355328) :
      VOp tt g fid (.call c) [.sref id sz lo n true, q] (.sref fid sz 0 (n + xs.length) false) [(fid, .row e sz ((es.drop lo).take n ++ xs))]

end Go.V
/- The value logic, part 4: the store stands for memory; elementary steps keep that. -/
set_option linter.unusedVariables false
set_option linter.unusedSimpArgs false
namespace Go.V
open Go.RowKit

/-- A block of an own object. -/
def Own (g : Store) (μ : Mu) (b : Nat) : Prop := ∃ id base, (g id).live = true ∧ μ id = some (b, base)

/-- A block that is never written any more: of the arguments, or new, and of no own object. -/
def Stab (w0 : World) (B0 : Nat → Prop) (g : Store) (μ : Mu) (w : World) (b : Nat) : Prop := (B0 b ∨ w0.heap.size ≤ b) ∧ b < w.heap.size ∧ ¬ Own g μ b

/-- What must be kept: blocks, and the places of the objects below 100. -/
structure KA where
  kp : Nat → Prop
  an : Mu
  mks : Nat → Prop
instance : CoeFun KA (fun _ => Nat → Prop) := ⟨KA.kp⟩

structure Sim (w0 : World) (K : KA) (B0 : Nat → Prop) (g : Store) (μ : Mu) (w : World) : Prop where
  inj : ∀ id id' b base base', (g id).live = true → (g id').live = true → μ id = some (b, base) → μ id' = some (b, base') → id = id'
  fresh : ∀ id, g id = .fresh ↔ μ id = none
  blk : ∀ id b base, (g id).live = true → μ id = some (b, base) → b < w.heap.size ∧ (b < w0.heap.size → ¬ K b)
  obj : ∀ id b base, (g id).live = true → μ id = some (b, base) → ObjRep w (Stab w0 B0 g μ w) μ b base (g id)
  b0 : ∀ b, B0 b → K b ∧ b < w0.heap.size
  os : w.os = w0.os
  tape : w.tape = w0.tape
  output : w.output = w0.output
  size : w0.heap.size ≤ w.heap.size
  kept : ∀ b, b < w0.heap.size → K b → w.heap[b]? = w0.heap[b]?
  sized : ∀ b, CellsKept w0 w b
  anch : ∀ id, id < 100 → (g id).live = true → μ id = K.an id
  marks : ∀ D, K.mks D → w.heap[D]? = some (.deferred (some []))

/-- What was known of values is known behind the step. -/
def Goes (w0 : World) (B0 : Nat → Prop) (g : Store) (μ : Mu) (w : World) (g' : Store) (μ' : Mu) (w' : World) : Prop :=
  ∀ p v, Rep w (Stab w0 B0 g μ w) μ p v → Rep w' (Stab w0 B0 g' μ' w') μ' p v

theorem Goes.refl {w0 : World} {B0 : Nat → Prop} {g : Store} {μ : Mu} {w : World} : Goes w0 B0 g μ w g μ w := fun _ _ h => h

theorem Goes.trans {w0 : World} {B0 : Nat → Prop} {g g' g'' : Store} {μ μ' μ'' : Mu} {w w' w'' : World}
    (h : Goes w0 B0 g μ w g' μ' w') (h' : Goes w0 B0 g' μ' w' g'' μ'' w'') : Goes w0 B0 g μ w g'' μ'' w'' := fun p v hp => h' p v (h p v hp)

theorem CellsKept.refl (w : World) (b : Nat) : CellsKept w w b := fun cs T h => ⟨cs, h, rfl⟩
theorem CellsKept.trans {w w' w'' : World} {b : Nat} (h : CellsKept w w' b) (h' : CellsKept w' w'' b) : CellsKept w w'' b := fun cs T hc => by
  obtain ⟨cs', h1, h2⟩ := h cs T hc
  obtain ⟨cs'', h3, h4⟩ := h' cs' T h1
  exact ⟨cs'', h3, by omega⟩
theorem CellsKept.of_same {w w' : World} {b : Nat} (h : w'.heap[b]? = w.heap[b]?) : CellsKept w w' b := fun cs T hc => ⟨cs, by rw [h]; exact hc, rfl⟩

theorem live_row {c : SC} (h : c.live = true) : c ≠ .fresh := by cases c <;> simp [SC.live] at h ⊢

theorem Sim.live_mu {w0 : World} {K : KA} {B0 : Nat → Prop} {g : Store} {μ : Mu} {w : World} (h : Sim w0 K B0 g μ w) {id : Nat} (hl : (g id).live = true) : ∃ b base, μ id = some (b, base) := by
  cases hm : μ id with
  | none => exact absurd ((h.fresh id).2 hm) (live_row hl)
  | some x => exact ⟨x.1, x.2, rfl⟩

theorem Sim.mark_own {w0 : World} {K : KA} {B0 : Nat → Prop} {g : Store} {μ : Mu} {w : World} (h : Sim w0 K B0 g μ w) {D : Nat} (hD : K.mks D) (ho : Own g μ D) : False := by
  obtain ⟨id, base, hl, hm⟩ := ho
  have hO := h.obj id D base hl hm
  have hd := h.marks D hD
  cases hc : g id with
  | fresh => rw [hc] at hl; simp [SC.live] at hl
  | dead => rw [hc] at hl; simp [SC.live] at hl
  | row T sz es =>
    rw [hc] at hO
    obtain ⟨cs, cap, h1, _⟩ := hO
    rw [hd] at h1; cases h1
  | omap T es =>
    rw [hc] at hO
    obtain ⟨_, ms, clock, h1, _⟩ := hO
    rw [hd] at h1; cases h1
theorem ObjRep.step {w w' : World} {B B' : Nat → Prop} {μ μ' : Mu} {b base : Nat} {c : SC} (h : ObjRep w B μ b base c) (hb : w'.heap[b]? = w.heap[b]?)
    (hr : ∀ p v, Rep w B μ p v → Rep w' B' μ' p v) : ObjRep w' B' μ' b base c := by
  cases c with
  | fresh => trivial
  | dead => trivial
  | row T sz es =>
    obtain ⟨cs, cap, h1, h2, h3, h4, h5⟩ := h
    exact ⟨cs, cap, by rw [hb]; exact h1, h2, h3, h4, fun j p hp => let ⟨v, a, b, c⟩ := h5 j p hp; ⟨v, a, b, hr _ _ c⟩⟩
  | omap T es =>
    obtain ⟨h0, ms, clock, h1, h2, h3⟩ := h
    exact ⟨h0, ms, clock, by rw [hb]; exact h1, h2, fun j m e hm he => let ⟨a, b⟩ := h3 j m e hm he; ⟨hr _ _ a, hr _ _ b⟩⟩

/-- A draw. -/
theorem Sim.drew {w0 : World} {K : KA} {B0 : Nat → Prop} {g : Store} {μ : Mu} {w : World} (h : Sim w0 K B0 g μ w) :
    Sim w0 K B0 g μ w.drew ∧ Goes w0 B0 g μ w g μ w.drew := by
  have hg : Goes w0 B0 g μ w g μ w.drew := fun p v hp => hp.step (fun b hb => hb) (fun _ _ => rfl) (fun id b base hm => ⟨hm, .of_same rfl⟩)
  exact ⟨⟨h.inj, h.fresh, h.blk, fun id b base hl hm => (h.obj id b base hl hm).step rfl (fun p v => hg p v), h.b0, h.os, h.tape, h.output, h.size, h.kept, h.sized, h.anch, h.marks⟩, hg⟩

/-- A new own object in a new block. -/
theorem Sim.alloc {w0 : World} {K : KA} {B0 : Nat → Prop} {g : Store} {μ : Mu} {w : World} (h : Sim w0 K B0 g μ w) {fid : Nat} (hf : Free g fid) (o : Obj) (c : SC) (hc : c.live = true)
    (ho : ∀ w' μ', (∀ p v, Rep w (Stab w0 B0 g μ w) μ p v → Rep w' (Stab w0 B0 (upd g fid c) μ' w') μ' p v) → w' = w.alloc o → μ' fid = some (w.heap.size, 0) → ObjRep w' (Stab w0 B0 (upd g fid c) μ' w') μ' w.heap.size 0 c) :
    ∃ μ', μ' fid = some (w.heap.size, 0) ∧ Sim w0 K B0 (upd g fid c) μ' (w.alloc o) ∧ Goes w0 B0 g μ w (upd g fid c) μ' (w.alloc o) := by
  have hmf : μ fid = none := (h.fresh fid).1 hf.1
  let μ' : Mu := fun j => if j = fid then some (w.heap.size, 0) else μ j
  have hμf : μ' fid = some (w.heap.size, 0) := by simp [μ']
  have hμo : ∀ id, id ≠ fid → μ' id = μ id := fun id hne => by simp [μ', hne]
  have hgo : ∀ id, id ≠ fid → upd g fid c id = g id := fun id hne => by simp [upd, hne]
  have hgf : upd g fid c fid = c := by simp [upd]
  have hold : ∀ b, b < w.heap.size → (w.alloc o).heap[b]? = w.heap[b]? := fun b hb => Below.heap_alloc w o b hb
  have hstab : ∀ b, Stab w0 B0 g μ w b → Stab w0 B0 (upd g fid c) μ' (w.alloc o) b := by
    rintro b ⟨h1, h2, h3⟩
    refine ⟨h1, by simp; omega, fun ⟨id, base, hl, hm⟩ => ?_⟩
    by_cases hne : id = fid
    · subst hne
      rw [hμf] at hm
      have := (Prod.mk.injEq .. ▸ Option.some.inj hm : _ ∧ _).1
      omega
    · exact h3 ⟨id, base, by rw [hgo id hne] at hl; exact hl, by rw [hμo id hne] at hm; exact hm⟩
  have hg : Goes w0 B0 g μ w (upd g fid c) μ' (w.alloc o) := fun p v hp =>
    hp.step hstab (fun b hb => hold b hb.2.1) (fun id b base hm => by
      have hne : id ≠ fid := fun e => by rw [e, hmf] at hm; cases hm
      refine ⟨by rw [hμo id hne]; exact hm, fun cs T hcs => ⟨cs, ?_, rfl⟩⟩
      rw [hold b (Array.getElem?_eq_some_iff.1 hcs).1]
      exact hcs)
  refine ⟨μ', hμf, ⟨?_, ?_, ?_, ?_, h.b0, h.os, h.tape, h.output, by have := h.size; simp; omega, ?_, ?_, ?_, fun D hD => by rw [hold D (Array.getElem?_eq_some_iff.1 (h.marks D hD)).1]; exact h.marks D hD⟩, hg⟩
  · intro id id' b base base' hl hl' hm hm'
    by_cases e : id = fid <;> by_cases e' : id' = fid
    · rw [e, e']
    · subst e
      rw [hμf] at hm; rw [hμo id' e'] at hm'; rw [hgo id' e'] at hl'
      have := (h.blk id' b base' hl' hm').1
      have := (Prod.mk.injEq .. ▸ Option.some.inj hm : _ ∧ _).1
      omega
    · subst e'
      rw [hμf] at hm'; rw [hμo id e] at hm; rw [hgo id e] at hl
      have := (h.blk id b base hl hm).1
      have := (Prod.mk.injEq .. ▸ Option.some.inj hm' : _ ∧ _).1
      omega
    · rw [hμo id e] at hm; rw [hμo id' e'] at hm'; rw [hgo id e] at hl; rw [hgo id' e'] at hl'
      exact h.inj id id' b base base' hl hl' hm hm'
  · intro id
    by_cases e : id = fid
    · subst e
      rw [hgf, hμf]
      exact ⟨fun x => absurd x (live_row hc), fun x => (by cases x)⟩
    · rw [hgo id e, hμo id e]; exact h.fresh id
  · intro id b base hl hm
    by_cases e : id = fid
    · subst e
      rw [hμf] at hm
      obtain ⟨rfl, rfl⟩ := (Prod.mk.injEq .. ▸ Option.some.inj hm : _ ∧ _)
      exact ⟨by simp, fun hlt => by have := h.size; omega⟩
    · rw [hμo id e] at hm; rw [hgo id e] at hl
      obtain ⟨h1, h2⟩ := h.blk id b base hl hm
      exact ⟨by simp; omega, h2⟩
  · intro id b base hl hm
    by_cases e : id = fid
    · subst e
      rw [hμf] at hm
      obtain ⟨rfl, rfl⟩ := (Prod.mk.injEq .. ▸ Option.some.inj hm : _ ∧ _)
      rw [hgf]
      exact ho (w.alloc o) μ' (fun p v => hg p v) rfl hμf
    · rw [hμo id e] at hm; rw [hgo id e] at hl ⊢
      exact (h.obj id b base hl hm).step (hold b (h.blk id b base hl hm).1) (fun p v => hg p v)
  · intro b hb hk
    rw [hold b (by have := h.size; omega)]
    exact h.kept b hb hk
  · intro b cs T hcs
    obtain ⟨cs', h1, h2⟩ := h.sized b cs T hcs
    exact ⟨cs', by rw [hold b (Array.getElem?_eq_some_iff.1 h1).1]; exact h1, h2⟩
  · intro id hlt hl
    have hne : id ≠ fid := fun e => by have := hf.2; omega
    rw [hμo id hne]; rw [hgo id hne] at hl; exact h.anch id hlt hl

/-- An own row is written. -/
theorem Sim.write {w0 : World} {K : KA} {B0 : Nat → Prop} {g : Store} {μ : Mu} {w : World} (h : Sim w0 K B0 g μ w) {id b base : Nat} {T sz : Nat} {es : List PV} (hg : g id = .row T sz es) (hm : μ id = some (b, base))
    (cs cs' : Array Value) (hcs : w.heap[b]? = some (.cells cs T (0, 0))) (hsz : cs'.size = cs.size) (es' : List PV)
    (ho : ∀ w', (∀ p v, Rep w (Stab w0 B0 g μ w) μ p v → Rep w' (Stab w0 B0 (upd g id (.row T sz es')) μ w') μ p v) → w' = w.setRow b cs' → w'.heap[b]? = some (.cells cs' T (0, 0)) → ObjRep w' (Stab w0 B0 (upd g id (.row T sz es')) μ w') μ b base (.row T sz es')) :
    Sim w0 K B0 (upd g id (.row T sz es')) μ (w.setRow b cs') ∧ Goes w0 B0 g μ w (upd g id (.row T sz es')) μ (w.setRow b cs') := by
  have hlive : (g id).live = true := by rw [hg]; rfl
  have hbl := (h.blk id b base hlive hm).1
  have hnew : (w.setRow b cs').heap[b]? = some (.cells cs' T (0, 0)) := by
    simp [World.setRow, Array.getElem?_modify, hcs]
  have hold : ∀ b', b' ≠ b → (w.setRow b cs').heap[b']? = w.heap[b']? := fun b' hne => by
    simp only [World.setRow, Array.getElem?_modify]
    rw [if_neg (Ne.symm hne)]
  have hlv : ∀ j, (upd g id (.row T sz es') j).live = (g j).live := fun j => by
    by_cases e : j = id
    · subst e; simp [upd, hg, SC.live]
    · simp [upd, e]
  have hown : ∀ b', Own (upd g id (.row T sz es')) μ b' ↔ Own g μ b' := fun b' => by
    constructor
    · rintro ⟨j, bs, hl, hj⟩; exact ⟨j, bs, by rw [← hlv j]; exact hl, hj⟩
    · rintro ⟨j, bs, hl, hj⟩; exact ⟨j, bs, by rw [hlv j]; exact hl, hj⟩
  have hsize : (w.setRow b cs').heap.size = w.heap.size := by simp
  have hstab : ∀ b', Stab w0 B0 g μ w b' → Stab w0 B0 (upd g id (.row T sz es')) μ (w.setRow b cs') b' := fun b' ⟨h1, h2, h3⟩ => ⟨h1, by omega, fun hh => h3 ((hown b').1 hh)⟩
  have hkept : ∀ b', CellsKept w (w.setRow b cs') b' := fun b' cs0 T0 h0 => by
    by_cases e : b' = b
    · subst e
      rw [hcs] at h0
      injection h0 with h0
      injection h0 with h01 h02
      subst h01; subst h02
      exact ⟨cs', hnew, hsz⟩
    · exact ⟨cs0, by rw [hold b' e]; exact h0, rfl⟩
  have hgoes : Goes w0 B0 g μ w (upd g id (.row T sz es')) μ (w.setRow b cs') := fun p v hp =>
    hp.step hstab (fun b' hb' => hold b' (fun e => by subst e; exact hb'.2.2 ⟨id, base, hlive, hm⟩)) (fun j b' bs hj => ⟨hj, hkept b'⟩)
  refine ⟨⟨?_, ?_, ?_, ?_, h.b0, h.os, h.tape, h.output, by have := h.size; omega, ?_, ?_, fun j hlt hl => h.anch j hlt (by rw [← hlv]; exact hl), fun D hD => by rw [hold D (fun e => by subst e; have := h.marks D hD; rw [hcs] at this; cases this)]; exact h.marks D hD⟩, hgoes⟩
  · intro j j' b' bs bs' hl hl' hj hj'
    rw [hlv] at hl hl'
    exact h.inj j j' b' bs bs' hl hl' hj hj'
  · intro j
    by_cases e : j = id
    · subst e
      simp only [upd, if_true]
      rw [hm]
      exact ⟨fun x => (by cases x), fun x => (by cases x)⟩
    · simp only [upd, e, if_false]; exact h.fresh j
  · intro j b' bs hl hj
    rw [hlv] at hl
    rw [hsize]
    exact h.blk j b' bs hl hj
  · intro j b' bs hl hj
    by_cases e : j = id
    · subst e
      rw [hm] at hj
      obtain ⟨rfl, rfl⟩ := (Prod.mk.injEq .. ▸ Option.some.inj hj : _ ∧ _)
      have : upd g j (.row T sz es') j = .row T sz es' := by simp [upd]
      rw [this]
      exact ho _ (fun p v => hgoes p v) rfl hnew
    · have hu : upd g id (.row T sz es') j = g j := by simp [upd, e]
      rw [hlv] at hl
      rw [hu]
      exact (h.obj j b' bs hl hj).step (hold b' (fun eb => e (h.inj j id b' bs base hl hlive hj (by rw [eb]; exact hm)))) (fun p v => hgoes p v)
  · intro b' hb hk
    rw [hold b' (fun e => by subst e; exact (h.blk id b' base hlive hm).2 hb hk)]
    exact h.kept b' hb hk
  · intro b'
    exact (h.sized b').trans (hkept b')

end Go.V
namespace Go.V
open Go.RowKit

/-- An own object is given up. -/
theorem Sim.kill {w0 : World} {K : KA} {B0 : Nat → Prop} {g : Store} {μ : Mu} {w : World} (h : Sim w0 K B0 g μ w) {id : Nat} (hl0 : g id ≠ .fresh) :
    Sim w0 K B0 (upd g id .dead) μ w ∧ Goes w0 B0 g μ w (upd g id .dead) μ w := by
  have hlv : ∀ j, (upd g id .dead j).live = true → (g j).live = true ∧ j ≠ id := fun j hj => by
    by_cases e : j = id
    · subst e; simp [upd, SC.live] at hj
    · simp only [upd, e, if_false] at hj; exact ⟨hj, e⟩
  have hstab : ∀ b, Stab w0 B0 g μ w b → Stab w0 B0 (upd g id .dead) μ w b := fun b ⟨h1, h2, h3⟩ => ⟨h1, h2, fun ⟨j, bs, hl, hj⟩ => h3 ⟨j, bs, (hlv j hl).1, hj⟩⟩
  have hgoes : Goes w0 B0 g μ w (upd g id .dead) μ w := fun p v hp => hp.step hstab (fun _ _ => rfl) (fun j b bs hj => ⟨hj, .refl _ _⟩)
  refine ⟨⟨?_, ?_, ?_, ?_, h.b0, h.os, h.tape, h.output, h.size, h.kept, h.sized, fun j hlt hl => h.anch j hlt (hlv j hl).1, h.marks⟩, hgoes⟩
  · exact fun j j' b bs bs' hl hl' hj hj' => h.inj j j' b bs bs' (hlv j hl).1 (hlv j' hl').1 hj hj'
  · intro j
    by_cases e : j = id
    · subst e
      simp only [upd, if_true]
      exact ⟨fun x => (by cases x), fun x => absurd ((h.fresh j).2 x) hl0⟩
    · simp only [upd, e, if_false]; exact h.fresh j
  · exact fun j b bs hl hj => h.blk j b bs (hlv j hl).1 hj
  · intro j b bs hl hj
    have hu : upd g id .dead j = g j := by simp [upd, (hlv j hl).2]
    rw [hu]
    exact (h.obj j b bs (hlv j hl).1 hj).step rfl (fun p v => hgoes p v)

/-- An own object goes on under another number, from another place on. -/
theorem Sim.rebase {w0 : World} {K : KA} {B0 : Nat → Prop} {g : Store} {μ : Mu} {w : World} (h : Sim w0 K B0 g μ w) {id fid b base base' : Nat} (hl0 : (g id).live = true) (hm : μ id = some (b, base))
    (hf : Free g fid) (c : SC) (hc : c.live = true)
    (ho : ∀ μ', (∀ p v, Rep w (Stab w0 B0 g μ w) μ p v → Rep w (Stab w0 B0 (upd (upd g id .dead) fid c) μ' w) μ' p v) → ObjRep w (Stab w0 B0 (upd (upd g id .dead) fid c) μ' w) μ' b base' c) :
    ∃ μ', μ' fid = some (b, base') ∧ Sim w0 K B0 (upd (upd g id .dead) fid c) μ' w ∧ Goes w0 B0 g μ w (upd (upd g id .dead) fid c) μ' w := by
  have hne : fid ≠ id := fun e => by rw [e] at hf; rw [hf.1] at hl0; simp [SC.live] at hl0
  have hmf : μ fid = none := (h.fresh fid).1 hf.1
  let μ' : Mu := fun j => if j = fid then some (b, base') else μ j
  have hμf : μ' fid = some (b, base') := by simp [μ']
  have hμo : ∀ j, j ≠ fid → μ' j = μ j := fun j hne => by simp [μ', hne]
  have hlv : ∀ j, (upd (upd g id .dead) fid c j).live = true → j = fid ∨ ((g j).live = true ∧ j ≠ id ∧ j ≠ fid) := fun j hj => by
    by_cases e : j = fid
    · exact .inl e
    · by_cases e' : j = id
      · subst e'; simp [upd, e, SC.live] at hj
      · simp only [upd, e, e', if_false] at hj; exact .inr ⟨hj, e', e⟩
  have hstab : ∀ b', Stab w0 B0 g μ w b' → Stab w0 B0 (upd (upd g id .dead) fid c) μ' w b' := fun b' ⟨h1, h2, h3⟩ => ⟨h1, h2, fun ⟨j, bs, hl, hj⟩ => by
    rcases hlv j hl with e | ⟨e1, e2, e3⟩
    · subst e
      rw [hμf] at hj
      have := (Prod.mk.injEq .. ▸ Option.some.inj hj : _ ∧ _).1
      subst this
      exact h3 ⟨id, base, hl0, hm⟩
    · exact h3 ⟨j, bs, e1, by rw [hμo j e3] at hj; exact hj⟩⟩
  have hgoes : Goes w0 B0 g μ w (upd (upd g id .dead) fid c) μ' w := fun p v hp => hp.step hstab (fun _ _ => rfl) (fun j b bs hj => by
    have : j ≠ fid := fun e => by rw [e, hmf] at hj; cases hj
    exact ⟨by rw [hμo j this]; exact hj, .refl _ _⟩)
  refine ⟨μ', hμf, ⟨?_, ?_, ?_, ?_, h.b0, h.os, h.tape, h.output, h.size, h.kept, h.sized, fun j hlt hl => ?_, h.marks⟩, hgoes⟩
  · intro j j' b1 bs bs' hl hl' hj hj'
    rcases hlv j hl with e | ⟨e1, e2, e3⟩ <;> rcases hlv j' hl' with e' | ⟨e1', e2', e3'⟩
    · rw [e, e']
    · subst e
      rw [hμf] at hj; rw [hμo j' e3'] at hj'
      have := (Prod.mk.injEq .. ▸ Option.some.inj hj : _ ∧ _).1
      subst this
      exact absurd (h.inj id j' b base bs' hl0 e1' hm hj') (Ne.symm e2')
    · subst e'
      rw [hμf] at hj'; rw [hμo j e3] at hj
      have := (Prod.mk.injEq .. ▸ Option.some.inj hj' : _ ∧ _).1
      subst this
      exact absurd (h.inj id j b base bs hl0 e1 hm hj) (Ne.symm e2)
    · rw [hμo j e3] at hj; rw [hμo j' e3'] at hj'
      exact h.inj j j' b1 bs bs' e1 e1' hj hj'
  · intro j
    by_cases e : j = fid
    · subst e
      rw [hμf]
      simp only [upd, if_true]
      exact ⟨fun x => absurd x (live_row hc), fun x => (by cases x)⟩
    · rw [hμo j e]
      by_cases e' : j = id
      · subst e'
        simp only [upd, e, if_false, if_true]
        rw [hm]
        exact ⟨fun x => (by cases x), fun x => (by cases x)⟩
      · simp only [upd, e, e', if_false]; exact h.fresh j
  · intro j b1 bs hl hj
    rcases hlv j hl with e | ⟨e1, e2, e3⟩
    · subst e
      rw [hμf] at hj
      have := (Prod.mk.injEq .. ▸ Option.some.inj hj : _ ∧ _).1
      subst this
      exact h.blk id b base hl0 hm
    · rw [hμo j e3] at hj; exact h.blk j b1 bs e1 hj
  · intro j b1 bs hl hj
    rcases hlv j hl with e | ⟨e1, e2, e3⟩
    · subst e
      rw [hμf] at hj
      obtain ⟨rfl, rfl⟩ := (Prod.mk.injEq .. ▸ Option.some.inj hj : _ ∧ _)
      have : upd (upd g id .dead) j c j = c := by simp [upd]
      rw [this]
      exact ho μ' (fun p v => hgoes p v)
    · rw [hμo j e3] at hj
      have : upd (upd g id .dead) fid c j = g j := by simp [upd, e2, e3]
      rw [this]
      exact (h.obj j b1 bs e1 hj).step rfl (fun p v => hgoes p v)
  · rcases hlv j hl with e | ⟨e1, e2, e3⟩
    · subst e; have := hf.2; omega
    · rw [hμo j e3]; exact h.anch j hlt e1

end Go.V
/- The value logic, part 5: the model's operations do what the relation says. -/
set_option linter.unusedVariables false
set_option linter.unusedSimpArgs false
namespace Go.V
open Go.RowKit

theorem addr_add (b o j : Nat) : (⟨b, o, none⟩ : Addr).add j = ⟨b, o + j, none⟩ := by unfold Addr.add; split <;> simp_all

section
variable {P : Program} {tt : TT} (htt : TTOk P tt) {T : TypeId} {i : TI} (ht : tt T = some i)
include htt ht

theorem tt_info : ∃ info, P.info? T = some info ∧ info.size = i.size ∧ info.bytes = i.bytes := by
  obtain ⟨info, d, zv, h1, h2, h3, h4, _⟩ := htt T i ht
  exact ⟨info, h1, h3, h4⟩

theorem tt_und : ∃ d, P.underlying T = some d ∧ i.kind.fits P d := by
  obtain ⟨info, d, zv, h1, h2, h3, h4, h5, h6, h7, _⟩ := htt T i ht
  exact ⟨d, h2, h7⟩

theorem run_sizeOf_tt (w : World) : (sizeOf T).run P w = .ok i.size w := by
  obtain ⟨info, h1, h2, _⟩ := tt_info htt ht
  simp [sizeOf, typeInfo, h1, h2]

theorem run_isAgg_tt (w : World) : (isAgg T).run P w = .ok i.kind.isAgg w := by
  obtain ⟨d, h1, h2⟩ := tt_und htt ht
  unfold isAgg
  rw [Sem.run_bind, run_underlying h1]
  cases hk : i.kind <;> rw [hk] at h2 <;> simp only [TK.fits, TK.isAgg] at h2 ⊢ <;> first | (subst h2; rfl) | (obtain ⟨f, rfl, _⟩ := h2; rfl) | skip
  cases d <;> simp at h2 <;> rfl

theorem run_loadVar_tt {w : World} {b o : Nat} (vs : Nat → Value) (hc : ∀ j, j < i.size → w.cell? ⟨b, o + j, none⟩ = some (vs j)) :
    (loadVar T ⟨b, o, none⟩).run P w = .ok (if i.kind.isAgg then .agg ((List.range i.size).map vs).toArray else vs 0) w := by
  unfold loadVar
  rw [Sem.run_bind, run_isAgg_tt htt ht, Result.andThen_ok]
  cases hk : i.kind.isAgg
  · simp only [Bool.false_eq_true, if_false]
    have h1 : i.size = 1 := by
      obtain ⟨info, d, zv, _, _, _, _, _, _, _, _, h⟩ := htt T i ht
      exact h hk
    have h0 := hc 0 (by omega)
    simp only [Nat.add_zero] at h0
    simp [run_load, h0]
  · simp only [if_true]
    rw [Sem.run_bind, run_sizeOf_tt htt ht]
    simp only [Result.andThen_ok]
    rw [Sem.run_bind]
    have hl := run_loadCells_list (P := P) (w := w) ⟨b, o, none⟩ ((List.range i.size).map vs) (by
      intro j v hv
      rw [addr_add]
      rw [List.getElem?_map] at hv
      by_cases hj : j < i.size
      · rw [List.getElem?_range hj] at hv
        simp at hv
        subst hv
        exact hc j hj
      · rw [List.getElem?_eq_none (by simp; omega)] at hv
        cases hv)
    simp only [List.length_map, List.length_range] at hl
    rw [hl]
    rfl

theorem run_storeVar_tt {w : World} {b o : Nat} {v : Value} {cur : Array Value} {t : TypeId} (hg : w.heap[b]? = some (.cells cur t (0, 0))) (hs : v.cells.size = i.size)
    (hl : o + i.size ≤ cur.size) (h1 : ∀ u ∈ v.cells.toList, u.oneCell' = true) :
    (storeVar T ⟨b, o, none⟩ v).run P w = .ok () (w.setRow b (cur.toList.take o ++ v.cells.toList ++ cur.toList.drop (o + i.size)).toArray) := by
  unfold storeVar
  rw [Sem.run_bind, run_sizeOf_tt htt ht, Result.andThen_ok]
  have := run_storeCells_at (P := P) b o t v.cells.toList 0 cur w hg (by simp; omega) h1
  simp only [Nat.add_zero, Array.length_toList] at this
  simp [hs, this]

end

theorem rep_ofCells {w : World} {B : Nat → Prop} {μ : Mu} {agg : Bool} {size off : Nat} {cs : List PV} {vs : Nat → Value} (hlen : off + size ≤ cs.length) (hsz : agg = false → size = 1)
    (h1 : ∀ j, j < size → (vs j).oneCell' = true) (hr : ∀ j p, j < size → cs[off + j]? = some p → Rep w B μ p (vs j)) :
    Rep w B μ (ofCells agg size cs off) (if agg then .agg ((List.range size).map vs).toArray else vs 0) := by
  cases agg
  · have h := hsz rfl
    subst h
    simp only [ofCells, Bool.false_eq_true, if_false]
    refine hr 0 _ (by omega) ?_
    simp [List.getD_eq_getElem?_getD, List.getElem?_eq_getElem (show off < cs.length by omega)]
  · simp only [ofCells, if_true]
    refine .agg _ _ _ (by simp; omega) ?_ ?_
    · intro v hv
      simp at hv
      obtain ⟨j, hj, rfl⟩ := hv
      exact h1 j hj
    · intro j p v hp hv
      rw [List.getElem?_take] at hp
      split at hp
      · rename_i hj
        rw [List.getElem?_drop] at hp
        simp [hj] at hv
        subst hv
        exact hr j p hj hp
      · cases hp

theorem rep_cells {w : World} {B : Nat → Prop} {μ : Mu} {p : PV} {v : Value} (h : Rep w B μ p v) (hs : p.storable = true) :
    v.cells.size = p.cells.length ∧ (∀ u ∈ v.cells.toList, u.oneCell' = true) ∧ ∀ (j : Nat) (q : PV) (u : Value), p.cells[j]? = some q → v.cells[j]? = some u → Rep w B μ q u := by
  by_cases ha : ∃ cs, p = .agg cs
  · obtain ⟨cs, rfl⟩ := ha
    cases h with
    | agg _ _ vs hl h1 hh => exact ⟨hl.symm, h1, hh⟩
  · have hc : p.cellish = true := by
      cases p <;> first | exact hs | exact absurd ⟨_, rfl⟩ ha
    have h1 := h.oneCell hc
    have hpc : p.cells = [p] := by cases p <;> first | rfl | exact absurd ⟨_, rfl⟩ ha
    have hvc : v.cells = #[v] := by cases v <;> first | rfl | simp [Value.oneCell'] at h1
    rw [hpc, hvc]
    refine ⟨rfl, by simp [h1], fun j q u hq hu => ?_⟩
    cases j with
    | zero => simp at hq hu; subst hq; subst hu; exact h
    | succ j => simp at hq

theorem row_at {w : World} {B : Nat → Prop} {μ : Mu} {b base : Nat} {T sz : Nat} {es : List PV} (h : ObjRep w B μ b base (.row T sz es)) {i k : Nat} (hi : i < es.length) (hk : k < sz) :
    ∃ p v, (es.getD i .undef).cells[k]? = some p ∧ w.cell? ⟨b, base + i * sz + k, none⟩ = some v ∧ v.oneCell' = true ∧ Rep w B μ p v := by
  obtain ⟨cs, cap, h1, h2, h3, h4, h5⟩ := h
  have hf := flat_at (es := es) i k h2 hk
  have he : es[i]? = some (es.getD i .undef) := by simp [List.getD_eq_getElem?_getD, List.getElem?_eq_getElem hi]
  rw [he, Option.bind_some] at hf
  have hl := h2 (es.getD i .undef) (List.mem_of_getElem? he)
  obtain ⟨v, hv, ho, hr⟩ := h5 (i * sz + k) _ (hf.trans (List.getElem?_eq_getElem (by omega)))
  refine ⟨_, v, List.getElem?_eq_getElem (by omega), ?_, ho, hr⟩
  rw [show base + i * sz + k = base + (i * sz + k) by omega]
  rw [cell_of_row w b _ cs T (0, 0) h1]
  exact hv

theorem objrep_new {w : World} {B : Nat → Prop} {μ : Mu} {b : Nat} {T sz cap : Nat} {es : List PV} {cs : Array Value} (h1 : w.heap[b]? = some (.cells cs T (0, 0))) (h2 : ∀ e ∈ es, e.cells.length = sz)
    (h3 : es.length ≤ cap) (h4 : cs.size = cap * sz) (h5 : ∀ (j : Nat) (p : PV), (flat es)[j]? = some p → ∃ v, cs[j]? = some v ∧ v.oneCell' = true ∧ Rep w B μ p v) : ObjRep w B μ b 0 (.row T sz es) :=
  ⟨cs, cap, h1, h2, h3, by omega, fun j p hp => by rw [Nat.zero_add]; exact h5 j p hp⟩

theorem const_rep {w : World} {B : Nat → Prop} {μ : Mu} {p : PV} {v : Value} (h : p.const = some v) : Rep w B μ p v ∧ v.oneCell' = true ∧ p.cellish = true ∧ p.cells = [p] := by
  cases p <;> simp [PV.const] at h <;> subst h <;> refine ⟨?_, rfl, rfl, rfl⟩ <;> constructor

theorem ofConst_rep {w : World} {B : Nat → Prop} {μ : Mu} (v : Value) : Rep w B μ (.ofConst v) v := by
  unfold PV.ofConst
  split <;> constructor

/-- The zero value of a type. -/
theorem tt_zero {P : Program} {tt : TT} (htt : TTOk P tt) {T : TypeId} {i : TI} (ht : tt T = some i) :
    ∃ zv, (∀ w, (zeroValue T).run P w = .ok zv w) ∧ (∃ info, P.info? T = some info ∧ info.zero = some zv ∧ info.size = i.size ∧ info.bytes = i.bytes) ∧ zv.cells.size = i.size ∧ i.zero.length = i.size ∧ (elemOf i i.zero).cells = i.zero ∧ (elemOf i i.zero).storable = true ∧
      ∀ (w : World) (B : Nat → Prop) (μ : Mu) (j : Nat) (p : PV), i.zero[j]? = some p → ∃ v, zv.cells[j]? = some v ∧ v.oneCell' = true ∧ Rep w B μ p v := by
  obtain ⟨info, d, zv, h1, h2, h3, h4, h5, h6, h7, h8, h9⟩ := htt T i ht
  have hlen : zv.cells.size = i.size := by
    have := congrArg List.length h6
    simp at this
    omega
  have hat : ∀ (j : Nat) (p : PV), i.zero[j]? = some p → ∃ v, zv.cells[j]? = some v ∧ p.const = some v := by
    intro j p hp
    have h := congrArg (fun l => l[j]?) h6
    simp only [List.getElem?_map, hp, Option.map_some, Array.getElem?_toList] at h
    cases hz : zv.cells[j]? with
    | none => rw [hz] at h; simp at h
    | some v => rw [hz] at h; simp at h; exact ⟨v, rfl, h⟩
  have helem : (elemOf i i.zero).cells = i.zero ∧ (elemOf i i.zero).storable = true := by
    unfold elemOf
    cases hk : i.kind.isAgg
    · simp only [Bool.false_eq_true, if_false]
      have hs := h9 hk
      match hz : i.zero, h8 with
      | [], h => simp at h; omega
      | [p], _ =>
        obtain ⟨v, _, hc⟩ := hat 0 p (by rw [hz]; rfl)
        obtain ⟨_, _, h3, h4⟩ := const_rep (w := default) (B := fun _ => True) (μ := noMu) hc
        simp only [List.getD_cons_zero]
        refine ⟨h4, ?_⟩
        cases p <;> first | exact h3 | rfl
      | _ :: _ :: _, h => simp at h; omega
    · exact ⟨rfl, rfl⟩
  refine ⟨zv, fun w => by simp [zeroValue, typeInfo, h1, h5], ⟨info, h1, h5, h3, h4⟩, hlen, h8, helem.1, helem.2, fun w B μ j p hp => ?_⟩
  obtain ⟨v, hv, hc⟩ := hat j p hp
  obtain ⟨a, b, _⟩ := const_rep (w := w) (B := B) (μ := μ) hc
  exact ⟨v, hv, b, a⟩

theorem flat_replicate (e : PV) : ∀ (n j : Nat), (flat (List.replicate n e))[j]? = if j < n * e.cells.length then e.cells[j % e.cells.length]? else none
  | 0, j => by simp [flat]
  | n + 1, j => by
    have ih := flat_replicate e n (j - e.cells.length)
    simp only [flat, List.replicate_succ, List.flatMap_cons] at *
    by_cases h : j < e.cells.length
    · rw [List.getElem?_append_left h, if_pos (by rw [Nat.add_mul]; omega), Nat.mod_eq_of_lt h]
    · rw [List.getElem?_append_right (by omega), ih]
      have hm : (j - e.cells.length) % e.cells.length = j % e.cells.length := by
        rw [← Nat.mod_eq_sub_mod (by omega)]
      rw [hm, Nat.add_mul, Nat.one_mul]
      by_cases h2 : j - e.cells.length < n * e.cells.length
      · rw [if_pos h2, if_pos (by omega)]
      · rw [if_neg h2, if_neg (by omega)]

end Go.V
/- The value logic, part 6: each operation of the model does what the relation says. -/
set_option linter.unusedVariables false
set_option linter.unusedSimpArgs false
namespace Go.V
open Go.RowKit

/-- What an operation comes to. -/
def Does (P : Program) (w0 : World) (K : KA) (B0 : Nat → Prop) (r : Result Next) (g : Store) (μ : Mu) (w : World) (v : PV) (u : List (Nat × SC)) : Prop :=
  ∃ val w' μ', (r = .ok (.value val) w' ∨ (r = .ok .skip w' ∧ val = Go.undef)) ∧ Sim w0 K B0 (upds g u) μ' w' ∧ Rep w' (Stab w0 B0 (upds g u) μ' w') μ' v val ∧ Goes w0 B0 g μ w (upds g u) μ' w'

/-- Values of operands. -/
def Reps (w : World) (B : Nat → Prop) (μ : Mu) (ρ : Operand → Value) (vals : List PV) (xs : List Operand) : Prop :=
  vals.length = xs.length ∧ ∀ (j : Nat) (p : PV) (x : Operand), vals[j]? = some p → xs[j]? = some x → Rep w B μ p (ρ x)

theorem Reps.one {w : World} {B : Nat → Prop} {μ : Mu} {ρ : Operand → Value} {p : PV} {x : Operand} (h : Reps w B μ ρ [p] [x]) : Rep w B μ p (ρ x) := h.2 0 p x rfl rfl
theorem Reps.two {w : World} {B : Nat → Prop} {μ : Mu} {ρ : Operand → Value} {p q : PV} {x y : Operand} (h : Reps w B μ ρ [p, q] [x, y]) : Rep w B μ p (ρ x) ∧ Rep w B μ q (ρ y) := ⟨h.2 0 p x rfl rfl, h.2 1 q y rfl rfl⟩
theorem Reps.three {w : World} {B : Nat → Prop} {μ : Mu} {ρ : Operand → Value} {p q r : PV} {x y z : Operand} (h : Reps w B μ ρ [p, q, r] [x, y, z]) :
    Rep w B μ p (ρ x) ∧ Rep w B μ q (ρ y) ∧ Rep w B μ r (ρ z) := ⟨h.2 0 p x rfl rfl, h.2 1 q y rfl rfl, h.2 2 r z rfl rfl⟩

section
variable {P : Program} {tt : TT} {w0 w : World} {K : KA} {B0 : Nat → Prop} {g : Store} {μ : Mu}

theorem Does.pure (hS : Sim w0 K B0 g μ w) {r : Result Next} {v : PV} {val : Value} (hr : r = .ok (.value val) w) (hv : Rep w (Stab w0 B0 g μ w) μ v val) : Does P w0 K B0 r g μ w v [] :=
  ⟨val, w, μ, .inl hr, hS, hv, .refl⟩

theorem rep_bool {B : Nat → Prop} {b : Bool} {v : Value} (h : Rep w B μ (.bool b) v) : v = .bool b := by cases h; rfl
theorem rep_int {B : Nat → Prop} {k : IntKind} {n : Int} {v : Value} (h : Rep w B μ (.int k n) v) : v = .int k n := by cases h; rfl
theorem rep_str {B : Nat → Prop} {s : ByteArray} {v : Value} (h : Rep w B μ (.str s) v) : v = .string s := by cases h; rfl
theorem rep_nilP {B : Nat → Prop} {v : Value} (h : Rep w B μ .nilP v) : v = .pointer none := by cases h; rfl
theorem rep_nilS {B : Nat → Prop} {v : Value} (h : Rep w B μ .nilS v) : v = .slice none 0 0 := by cases h; rfl
theorem rep_un {B : Nat → Prop} {p p' : PV} {v : Value} (h : Rep w B μ p v) (hu : p = p' ∨ p = .cnd true p') : Rep w B μ p' v := by
  rcases hu with rfl | rfl
  · exact h
  · cases h; assumption

theorem run_binInt {op : BinOp} {T T' : TypeId} {k k' : IntKind} {a b : Int} (h : intVC op k k' b) : ∃ v, Go.binOp op T (.int k a) (.int k' b) = Sem.pure v ∧ Rep w (Stab w0 B0 g μ w) μ (intOp op k a b) v := by
  cases op
  case quo => obtain ⟨rfl, h⟩ := h; exact ⟨_, by simp only [Go.binOp, Op.intDiv, ne_eq, not_true, if_false, if_neg h]; rfl, by constructor⟩
  case rem => obtain ⟨rfl, h⟩ := h; exact ⟨_, by simp only [Go.binOp, Op.intDiv, ne_eq, not_true, if_false, if_neg h]; rfl, by constructor⟩
  case shl => have h' : ¬ b < 0 := Int.not_lt.2 h; exact ⟨_, by simp only [Go.binOp, Op.shift, if_neg h']; rfl, by constructor⟩
  case shr => have h' : ¬ b < 0 := Int.not_lt.2 h; exact ⟨_, by simp only [Go.binOp, Op.shift, if_neg h']; rfl, by constructor⟩
  all_goals (obtain rfl : k' = k := h)
  all_goals exact ⟨_, by simp only [Go.binOp, Op.intArith, Op.intBits, Op.intCmp, ne_eq, not_true, if_false]; rfl, by constructor⟩

theorem rep_ite {B : Nat → Prop} {β : Bool} {p q : PV} {a b : Value} (hp : β = true → Rep w B μ p a) (hq : β = false → Rep w B μ q b) : Rep w B μ (PV.ite β p q) (if β then a else b) := by
  cases β
  · have h := hq rfl
    simp only [Bool.false_eq_true, if_false]
    unfold PV.ite
    split <;> simp only [Bool.false_eq_true, if_false] <;> first | exact h | (split <;> first | (subst_vars; exact h) | constructor)
  · have h := hp rfl
    simp only [if_true]
    unfold PV.ite
    split <;> simp only [if_true] <;> first | exact h | (split <;> first | exact h | constructor)

end
end Go.V
/- The value logic, part 7: soundness of the operations, those that make or write memory first. -/
set_option linter.unusedVariables false
set_option linter.unusedSimpArgs false
namespace Go.V
open Go.RowKit

section
variable {P : Program} {tt : TT} {w0 w : World} {K : KA} {B0 : Nat → Prop} {g : Store} {μ : Mu}

theorem sref_nil_cap {B : Nat → Prop} {id sz lo n : Nat} {lim : Bool} {v : Value} (h : Rep w B μ (.sref id sz lo n lim) v) : ∃ a c, v = .slice a n c := by cases h; exact ⟨_, _, rfl⟩

/-- A new row of elements. -/
theorem does_new (hS : Sim w0 K B0 g μ w) {fid : Nat} (hf : Free g fid) {T sz cap : Nat} {es : List PV} {cs : Array Value} (h2 : ∀ e ∈ es, e.cells.length = sz) (h3 : es.length ≤ cap) (h4 : cs.size = cap * sz)
    (h5 : ∀ (j : Nat) (p : PV), (flat es)[j]? = some p → ∃ v, cs[j]? = some v ∧ v.oneCell' = true ∧ Rep w (Stab w0 B0 g μ w) μ p v) :
    ∃ μ', μ' fid = some (w.heap.size, 0) ∧ Sim w0 K B0 (upd g fid (.row T sz es)) μ' (w.alloc (.cells cs T)) ∧ Goes w0 B0 g μ w (upd g fid (.row T sz es)) μ' (w.alloc (.cells cs T)) :=
  hS.alloc hf (.cells cs T) (.row T sz es) rfl fun w' μ' hg hw hm => by
    subst hw
    exact objrep_new (heap_alloc_new w _) h2 h3 h4 fun j p hp => let ⟨v, a, b, c⟩ := h5 j p hp; ⟨v, a, b, hg p v c⟩

/-- The slice over a new row. -/
theorem rep_new_slice {w' : World} {B : Nat → Prop} {μ' : Mu} {fid sz n cap b : Nat} (hm : μ' fid = some (b, 0)) {cs : Array Value} {T : TypeId} (hb : w'.heap[b]? = some (.cells cs T (0, 0))) (hc : cs.size = cap * sz) (hn : n ≤ cap) :
    Rep w' B μ' (.sref fid sz 0 n false) (.slice (some ⟨b, 0, none⟩) n cap) :=
  .sref _ _ _ _ _ _ _ _ _ _ hm hn (fun h => by cases h) (fun _ => by simp) (fun _ => ⟨cs, T, hb, by simp [hc]⟩)

theorem does_alloc (htt : TTOk P tt) (hS : Sim w0 K B0 g μ w) {fid : Nat} {T : TypeId} {i : TI} (ht : tt T = some i) (hf : Free g fid) {o : Oper} {ρ : Operand → Value} (ho : o.op = .alloc T) :
    Does P w0 K B0 ((execOp ρ o).run P w) g μ w (.ptr fid i.size 0 0) [(fid, .row T i.size [elemOf i i.zero])] := by
  obtain ⟨zv, hz, hinfo, hzs, hzl, hec, hes, hrep⟩ := tt_zero htt ht
  have hflat : flat [elemOf i i.zero] = i.zero := by simp [flat, hec]
  obtain ⟨μ', hm, hS', hG⟩ := does_new (T := T) (cs := zv.cells) (cap := 1) hS hf (es := [elemOf i i.zero]) (sz := i.size) (by simp [hec, hzl]) (by simp) (by rw [hzs, Nat.one_mul]) (fun j p hp => by rw [hflat] at hp; exact hrep _ _ _ j p hp)
  refine ⟨.pointer (some ⟨w.heap.size, 0, none⟩), w.alloc (.cells zv.cells T), μ', .inl ?_, hS', ?_, hG⟩
  · unfold execOp
    simp only [ho, Sem.run_bind, Instr.alloc, hz, Result.andThen_ok, newVar, newRow, run_newObj, Sem.run_pure, World.alloc_eq]
  · have := Rep.ptr (w := w.alloc (.cells zv.cells T)) (B := Stab w0 B0 (upds g [(fid, SC.row T i.size [elemOf i i.zero])]) μ' (w.alloc (.cells zv.cells T))) μ' fid i.size 0 0 w.heap.size 0 hm
    simpa using this

theorem does_box (htt : TTOk P tt) (hS : Sim w0 K B0 g μ w) {fid : Nat} {T : TypeId} {i : TI} (ht : tt T = some i) (hf : Free g fid) {o : Oper} {ρ : Operand → Value} {x : Operand} (ho : o.op = .box T x) {p : PV}
    (hl : p.cells.length = i.size) (hs : p.storable = true) (hp : Rep w (Stab w0 B0 g μ w) μ p (ρ x)) :
    Does P w0 K B0 ((execOp ρ o).run P w) g μ w (.ptr fid i.size 0 0) [(fid, .row T i.size [p])] := by
  obtain ⟨h1, h2, h3⟩ := rep_cells hp hs
  have hflat : flat [p] = p.cells := by simp [flat]
  obtain ⟨μ', hm, hS', hG⟩ := does_new (T := T) (cs := (ρ x).cells) (cap := 1) hS hf (es := [p]) (sz := i.size) (by simp [hl]) (by simp) (by rw [h1, hl, Nat.one_mul]) (fun j q hq => by
    rw [hflat] at hq
    have hj : j < (ρ x).cells.size := by
      rw [h1]
      exact (List.getElem?_eq_some_iff.1 hq).1
    exact ⟨_, Array.getElem?_eq_getElem hj, h2 _ (by simp), h3 j q _ hq (Array.getElem?_eq_getElem hj)⟩)
  refine ⟨.pointer (some ⟨w.heap.size, 0, none⟩), w.alloc (.cells (ρ x).cells T), μ', .inl ?_, hS', ?_, hG⟩
  · unfold execOp
    simp only [ho, Sem.run_bind, Instr.box, Result.andThen_ok, newVar, newRow, run_newObj, Sem.run_pure, World.alloc_eq]
  · have := Rep.ptr (w := w.alloc (.cells (ρ x).cells T)) (B := Stab w0 B0 (upds g [(fid, SC.row T i.size [p])]) μ' (w.alloc (.cells (ρ x).cells T))) μ' fid i.size 0 0 w.heap.size 0 hm
    simpa using this

theorem does_makeSlice (htt : TTOk P tt) (hS : Sim w0 K B0 g μ w) {fid : Nat} {T e : TypeId} {i ie : TI} (ht : tt T = some i) (hk : i.kind = .slc e) (he : tt e = some ie) (hf : Free g fid) {n m : Int} {k k' : IntKind}
    (hn : 0 ≤ n) (hm : n ≤ m) (hb : m.toNat * ie.bytes ≤ 140737488355328) (hb' : m ≤ 140737488355328) {o : Oper} {ρ : Operand → Value} {l c : Operand} (ho : o.op = .makeSlice T l c) (h1 : ρ l = .int k n) (h2 : ρ c = .int k' m) :
    Does P w0 K B0 ((execOp ρ o).run P w) g μ w (.sref fid ie.size 0 n.toNat false) [(fid, .row e ie.size (List.replicate n.toNat (elemOf ie ie.zero)))] := by
  obtain ⟨zv, hz, ⟨info, hi1, hi2, hi3, hi4⟩, hzs, hzl, hec, hes, hrep⟩ := tt_zero htt he
  obtain ⟨d, hd, hfit⟩ := tt_und htt ht
  rw [hk] at hfit
  simp only [TK.fits] at hfit
  subst hfit
  obtain ⟨m', rfl⟩ := Int.eq_ofNat_of_zero_le (Int.le_trans hn hm)
  obtain ⟨n', rfl⟩ := Int.eq_ofNat_of_zero_le hn
  simp only [Int.toNat_natCast] at *
  have hrun := run_make (P := P) w T e info zv hd hi1 hi2 k k' (n' : Int) (m' : Int) hn hm (by rw [hi4, ← Int.natCast_mul, Nat.mul_comm]; omega) (by omega)
  simp only [Int.toNat_natCast, hi3] at hrun
  have hcs : (madeCells zv.cells (m' * ie.size)).size = m' * ie.size := size_madeCells _ _
  obtain ⟨μ', hmu, hS', hG⟩ := does_new (T := e) (cs := madeCells zv.cells (m' * ie.size)) (cap := m') hS hf (es := List.replicate n' (elemOf ie ie.zero)) (sz := ie.size) (by
      intro x hx
      rw [List.eq_of_mem_replicate hx, hec, hzl]) (by simp; omega) hcs (fun j p hp => by
    rw [flat_replicate, hec, hzl] at hp
    split at hp
    · rename_i hj
      have hpos : 0 < ie.size := by
        rcases Nat.eq_zero_or_pos ie.size with h0 | h0
        · rw [h0, Nat.mul_zero] at hj; omega
        · exact h0
      obtain ⟨v, hv, hv1, hv2⟩ := hrep w (Stab w0 B0 g μ w) μ _ p hp
      have hj' : j < m' * ie.size := Nat.lt_of_lt_of_le hj (Nat.mul_le_mul_right _ (by omega))
      refine ⟨v, ?_, hv1, hv2⟩
      unfold madeCells
      rw [Array.getElem?_map, Array.getElem?_range, if_pos hj', Option.map_some, hzs]
      have hlt : j % ie.size < zv.cells.size := by rw [hzs]; exact Nat.mod_lt _ hpos
      rw [getElem!_pos zv.cells _ hlt]
      rw [Array.getElem?_eq_getElem hlt] at hv
      exact hv
    · cases hp)
  refine ⟨.slice (some ⟨w.heap.size, 0, none⟩) n' m', w.alloc (.cells (madeCells zv.cells (m' * ie.size)) e), μ', .inl ?_, hS', ?_, hG⟩
  · unfold execOp
    simp only [ho, h1, h2, Sem.run_bind, hrun, Result.andThen_ok, Sem.run_pure]
  · exact rep_new_slice hmu (heap_alloc_new w _) hcs (by omega)

/-- Cells of an element, some of them overwritten. -/
theorem setCells_length {e p : PV} {off sz : Nat} (he : e.cells.length = sz) (h : off + p.cells.length ≤ sz) (hp : p.cells.length = 1 → True) (hns : (∀ cs, e ≠ .agg cs) → p.cells.length = 1) : (e.setCells off p).cells.length = sz := by
  unfold PV.setCells
  split
  · rename_i cs
    simp only [PV.cells] at he ⊢
    simp [splice]
    simp only [PV.cells] at h ⊢
    omega
  · rename_i hne
    have := hns fun cs hc => hne cs hc
    have h1 : e.cells.length = 1 := by cases e <;> first | rfl | exact absurd rfl (hne _)
    omega

theorem setCells_cells {e p : PV} {off : Nat} (h : off + p.cells.length ≤ e.cells.length) (hpos : 0 < p.cells.length) : (e.setCells off p).cells = splice e.cells off p.cells := by
  unfold PV.setCells
  split
  · rfl
  · rename_i hne
    have h1 : e.cells = [e] := by cases e <;> first | rfl | exact absurd rfl (hne _)
    rw [h1] at h ⊢
    simp only [List.length_singleton] at h
    obtain rfl : off = 0 := by omega
    have : p.cells.length = 1 := by omega
    simp [splice, this]

theorem splice_get {cs vs : List PV} {off : Nat} (h : off + vs.length ≤ cs.length) (j : Nat) : (splice cs off vs)[j]? = if off ≤ j ∧ j < off + vs.length then vs[j - off]? else cs[j]? := by
  unfold splice
  by_cases h1 : j < off
  · rw [if_neg (by omega), List.append_assoc, List.getElem?_append_left (by simp; omega), List.getElem?_take, if_pos h1]
  · by_cases h2 : j < off + vs.length
    · rw [if_pos ⟨by omega, h2⟩, List.getElem?_append_left (by simp; omega), List.getElem?_append_right (by simp; omega)]
      simp; congr 1; omega
    · rw [if_neg (by omega), List.getElem?_append_right (by simp; omega), List.getElem?_drop]
      simp; congr 1; omega

theorem flat_set {sz : Nat} {es : List PV} {i : Nat} {e : PV} (h : ∀ x ∈ es, x.cells.length = sz) (hi : i < es.length) (he : e.cells.length = sz) (hsz : 0 < sz) (j : Nat) :
    (flat (es.set i e))[j]? = if i * sz ≤ j ∧ j < i * sz + sz then e.cells[j - i * sz]? else (flat es)[j]? := by
  have h' : ∀ x ∈ es.set i e, x.cells.length = sz := fun x hx => by
    rcases List.mem_or_eq_of_mem_set hx with hx | rfl
    · exact h x hx
    · exact he
  have hq := Nat.div_add_mod j sz
  rw [Nat.mul_comm] at hq
  have hr := Nat.mod_lt j hsz
  have h1 := flat_at (es := es.set i e) (j / sz) (j % sz) h' hr
  have h2 := flat_at (es := es) (j / sz) (j % sz) h hr
  rw [hq] at h1 h2
  rw [h1, h2]
  by_cases hji : j / sz = i
  · subst hji
    rw [if_pos ⟨by omega, by omega⟩]
    simp [hi]
    congr 1; omega
  · rw [List.getElem?_set_ne (Ne.symm hji), if_neg]
    intro ⟨ha, hb⟩
    apply hji
    exact Nat.div_eq_of_lt_le ha (by rw [Nat.add_mul]; omega)

theorem does_store (htt : TTOk P tt) (hS : Sim w0 K B0 g μ w) {T : TypeId} {ti : TI} (ht : tt T = some ti) {id sz i off T' : Nat} {es : List PV} (hg : g id = .row T' sz es) (hi : i < es.length) (ho : off + ti.size ≤ sz)
    {p : PV} (hl : p.cells.length = ti.size) (hz : 0 < ti.size) (hs : p.storable = true) {o : Oper} {ρ : Operand → Value} {a x : Operand} (hop : o.op = .store T a x) (ha : Rep w (Stab w0 B0 g μ w) μ (.ptr id sz i off) (ρ a))
    (hp : Rep w (Stab w0 B0 g μ w) μ p (ρ x)) :
    Does P w0 K B0 ((execOp ρ o).run P w) g μ w .undef [(id, .row T' sz (es.set i ((es.getD i .undef).setCells off p)))] := by
  obtain ⟨h1, h2, h3⟩ := rep_cells hp hs
  generalize hva : ρ a = va at ha
  cases ha with
  | ptr _ _ _ _ _ b base hm =>
  have hlive : (g id).live = true := by rw [hg]; rfl
  have hO := hS.obj id b base hlive hm
  rw [hg] at hO
  have hO' := hO
  obtain ⟨cs, cap, c1, c2, c3, c4, c5⟩ := hO
  have hcap : (i + 1) * sz ≤ cap * sz := Nat.mul_le_mul_right _ (by omega)
  rw [Nat.add_mul, Nat.one_mul] at hcap
  have hrun := run_storeVar_tt (P := P) htt ht (b := b) (o := base + i * sz + off) (v := ρ x) c1 (by omega) (by omega) h2
  generalize hcs' : (cs.toList.take (base + i * sz + off) ++ (ρ x).cells.toList ++ cs.toList.drop (base + i * sz + off + ti.size)).toArray = cs' at hrun
  have hsz' : cs'.size = cs.size := by rw [← hcs']; simp; omega
  have hget : ∀ j, cs'[j]? = if base + i * sz + off ≤ j ∧ j < base + i * sz + off + ti.size then (ρ x).cells[j - (base + i * sz + off)]? else cs[j]? := by
    intro j
    rw [← hcs']
    simp only [List.getElem?_toArray]
    by_cases q1 : j < base + i * sz + off
    · rw [if_neg (by omega), List.append_assoc, List.getElem?_append_left (by simp; omega), List.getElem?_take, if_pos q1]
      simp
    · by_cases q2 : j < base + i * sz + off + ti.size
      · rw [if_pos ⟨by omega, q2⟩, List.getElem?_append_left (by simp; omega), List.getElem?_append_right (by simp; omega)]
        simp; congr 1; omega
      · rw [if_neg (by omega), List.getElem?_append_right (by simp; omega), List.getElem?_drop]
        simp; congr 1; omega
  have hei : es[i]? = some (es.getD i .undef) := by simp [List.getD_eq_getElem?_getD, List.getElem?_eq_getElem hi]
  have hel : (es.getD i .undef).cells.length = sz := c2 _ (List.mem_of_getElem? hei)
  have hec := setCells_cells (e := es.getD i .undef) (p := p) (off := off) (by omega) (by omega)
  have hnl : ((es.getD i .undef).setCells off p).cells.length = sz := by
    rw [hec]; simp only [splice, List.length_append, List.length_take, List.length_drop]; omega
  have hszp : 0 < sz := by omega
  obtain ⟨hS', hG⟩ := hS.write hg hm cs cs' c1 hsz' (es.set i ((es.getD i .undef).setCells off p)) (fun w' hgo hw hb => by
    refine ⟨cs', cap, hb, ?_, by simp; exact c3, by omega, fun j q hq => ?_⟩
    · intro y hy
      rcases List.mem_or_eq_of_mem_set hy with hy | rfl
      · exact c2 y hy
      · exact hnl
    · rw [flat_set c2 hi hnl hszp] at hq
      rw [hget]
      split at hq
      · rename_i hj
        rw [hec, splice_get (by omega)] at hq
        split at hq
        · rename_i hj2
          rw [if_pos ⟨by omega, by omega⟩]
          have hlt : base + j - (base + i * sz + off) < (ρ x).cells.size := by omega
          refine ⟨_, Array.getElem?_eq_getElem hlt, h2 _ (by simp), hgo _ _ (h3 (j - i * sz - off) q _ hq ?_)⟩
          rw [← Array.getElem?_eq_getElem hlt]
          congr 1; omega
        · rename_i hj2
          rw [if_neg (by omega)]
          have hq' : (flat es)[j]? = some q := by
            have := flat_at (es := es) i (j - i * sz) c2 (by omega)
            rw [show i * sz + (j - i * sz) = j by omega, hei, Option.bind_some] at this
            rw [this]; exact hq
          obtain ⟨v, a1, a2, a3⟩ := c5 j q hq'
          exact ⟨v, a1, a2, hgo _ _ a3⟩
      · rename_i hj
        rw [if_neg (by omega)]
        obtain ⟨v, a1, a2, a3⟩ := c5 j q hq
        exact ⟨v, a1, a2, hgo _ _ a3⟩)
  refine ⟨Go.undef, w.setRow b cs', μ, .inr ⟨?_, rfl⟩, hS', .undef _ _, hG⟩
  unfold execOp
  simp only [hop, hva, Sem.run_bind, Instr.storeAt, Instr.sureAddr, Sem.run_pure, Result.andThen_ok, hrun]
end
end Go.V
/- The value logic, part 8: append, literals. -/
set_option linter.unusedVariables false
set_option linter.unusedSimpArgs false
namespace Go.V
open Go.RowKit

theorem flat_drop_take {sz : Nat} {es : List PV} (h : ∀ e ∈ es, e.cells.length = sz) (lo n : Nat) (hn : lo + n ≤ es.length) (j : Nat) :
    (flat ((es.drop lo).take n))[j]? = if j < n * sz then (flat es)[lo * sz + j]? else none := by
  have h' : ∀ e ∈ (es.drop lo).take n, e.cells.length = sz := fun e he => h e (List.mem_of_mem_drop (List.mem_of_mem_take he))
  have hl := flat_length h'
  rw [List.length_take, List.length_drop, Nat.min_eq_left (by omega)] at hl
  by_cases hj : j < n * sz
  · rw [if_pos hj]
    have hsz : 0 < sz := by
      rcases Nat.eq_zero_or_pos sz with h0 | h0
      · rw [h0, Nat.mul_zero] at hj; omega
      · exact h0
    have hq := Nat.div_add_mod j sz
    rw [Nat.mul_comm] at hq
    have hr := Nat.mod_lt j hsz
    have h1 := flat_at (es := (es.drop lo).take n) (j / sz) (j % sz) h' hr
    have h2 := flat_at (es := es) (lo + j / sz) (j % sz) h hr
    rw [hq] at h1
    rw [Nat.add_mul, Nat.add_assoc, hq] at h2
    rw [h1, h2]
    have hd : j / sz < n := (Nat.div_lt_iff_lt_mul hsz).2 hj
    rw [List.getElem?_take, if_pos hd, List.getElem?_drop]
  · rw [if_neg hj]
    exact List.getElem?_eq_none (by omega)

theorem flat_append (a b : List PV) : flat (a ++ b) = flat a ++ flat b := by simp [flat]

section
variable {P : Program} {tt : TT} {w0 w : World} {K : KA} {B0 : Nat → Prop} {g : Store} {μ : Mu}

/-- The cells of a slice that is appended. -/
theorem contents_cells (hS : Sim w0 K B0 g μ w) {q : PV} {v : Value} {sz : Nat} {xs : List PV} (hq : Rep w (Stab w0 B0 g μ w) μ q v) (hc : contents g q = some (sz, xs)) :
    ∃ a m c, v = .slice a m c ∧ m = xs.length ∧ ∀ size, (xs ≠ [] → size = sz) → ∃ news : List Value, news.length = m * size ∧ (∀ u ∈ news, u.oneCell' = true) ∧ (∀ w', w'.cell? = w.cell? → (Builtin.firstCells size m v).run P w' = .ok news.toArray w') ∧
      (xs ≠ [] → ∀ e ∈ xs, e.cells.length = size) ∧ ∀ (j : Nat) (p : PV) (u : Value), (flat xs)[j]? = some p → news[j]? = some u → Rep w (Stab w0 B0 g μ w) μ p u := by
  have hnil : ∀ a c, q = q → ∀ size, (([] : List PV) ≠ [] → size = sz) → ∃ news : List Value, news.length = 0 * size ∧ (∀ u ∈ news, u.oneCell' = true) ∧ (∀ w', w'.cell? = w.cell? → (Builtin.firstCells size 0 (.slice a 0 c)).run P w' = .ok news.toArray w') ∧
      (([] : List PV) ≠ [] → ∀ e ∈ ([] : List PV), e.cells.length = size) ∧ ∀ (j : Nat) (p : PV) (u : Value), (flat [])[j]? = some p → news[j]? = some u → Rep w (Stab w0 B0 g μ w) μ p u := by
    intro a c _ size _
    refine ⟨[], by simp, by simp, fun w' _ => ?_, fun h => absurd rfl h, fun j p u hp => by simp [flat] at hp⟩
    cases a with
    | none => simp [Builtin.firstCells]
    | some b => simp [Builtin.firstCells, loadCells, loadCellsFrom]
  cases hq with
  | nilS =>
    simp only [contents, Option.some.injEq, Prod.mk.injEq] at hc
    obtain ⟨rfl, rfl⟩ := hc
    exact ⟨none, 0, 0, rfl, rfl, hnil _ _ rfl⟩
  | slc0 _ sz' a c =>
    simp only [contents, Option.some.injEq, Prod.mk.injEq] at hc
    obtain ⟨rfl, rfl⟩ := hc
    exact ⟨a, 0, c, rfl, rfl, hnil _ _ rfl⟩
  | slc _ sz' es b off c hn hB vs hs h1 hcell hr =>
    simp only [contents, Option.some.injEq, Prod.mk.injEq] at hc
    obtain ⟨rfl, rfl⟩ := hc
    refine ⟨_, _, c, rfl, rfl, fun size hsize => ?_⟩
    by_cases he : es = []
    · subst he; exact hnil _ _ rfl size (fun h => absurd rfl h)
    · have := hsize he
      subst this
      have hl := flat_length hs
      refine ⟨(List.range (es.length * size)).map vs, by simp, ?_, fun w' hw' => ?_, fun _ => hs, fun j p u hp hu => ?_⟩
      · intro u hu
        simp at hu
        obtain ⟨j, hj, rfl⟩ := hu
        exact h1 j (by omega)
      · refine run_firstCells_some (P := P) w' size es.length ⟨b, off, none⟩ es.length c _ (by simp) ?_
        intro j u hu
        rw [List.getElem?_map] at hu
        by_cases hj : j < es.length * size
        · rw [List.getElem?_range hj] at hu
          simp at hu
          subst hu
          rw [addr_add, hw']
          exact hcell j (by omega)
        · rw [List.getElem?_eq_none (by simp; omega)] at hu; cases hu
      · have hj : j < es.length * size := by
          have := (List.getElem?_eq_some_iff.1 hp).1
          omega
        rw [List.getElem?_map, List.getElem?_range hj] at hu
        simp at hu
        subst hu
        exact (hr j p hp).step (fun _ h => h) (fun _ _ => rfl) (fun _ _ _ h => by cases h)
  | sref _ id sz' lo n lim a c b base hm hn hlim ha hcap =>
    simp only [contents] at hc
    split at hc
    · rename_i T sz'' es hg
      split at hc
      · rename_i hcond
        obtain ⟨rfl, hlen⟩ := hcond
        simp only [Option.some.injEq, Prod.mk.injEq] at hc
        obtain ⟨rfl, rfl⟩ := hc
        have hO := hS.obj id b base (by rw [hg]; rfl) hm
        rw [hg] at hO
        obtain ⟨cs, cap, c1, c2, c3, c4, c5⟩ := hO
        have hxl : ((es.drop lo).take n).length = n := by simp; omega
        refine ⟨a, n, c, rfl, hxl.symm, fun size hsize => ?_⟩
        by_cases he : n = 0
        · subst he
          have : (es.drop lo).take 0 = [] := by simp
          rw [this]
          exact hnil _ _ rfl size (fun h => absurd rfl h)
        · have hne : (es.drop lo).take n ≠ [] := fun h => by rw [h] at hxl; simp at hxl; omega
          have := hsize hne
          subst this
          have hadr := ha (by omega)
          subst hadr
          have hfl := flat_length c2
          have hmul : (lo + n) * size ≤ es.length * size := Nat.mul_le_mul_right _ hlen
          rw [Nat.add_mul] at hmul
          have hmul2 : es.length * size ≤ cap * size := Nat.mul_le_mul_right _ c3
          let news : List Value := (List.range (n * size)).map fun j => cs.getD (base + lo * size + j) Go.undef
          have hnews : ∀ j, j < n * size → ∃ p v, (flat es)[lo * size + j]? = some p ∧ cs[base + lo * size + j]? = some v ∧ v.oneCell' = true ∧ Rep w (Stab w0 B0 g μ w) μ p v ∧ news[j]? = some v := by
            intro j hj
            have hlt : lo * size + j < (flat es).length := by omega
            obtain ⟨v, a1, a2, a3⟩ := c5 (lo * size + j) _ (List.getElem?_eq_getElem hlt)
            rw [← Nat.add_assoc] at a1
            refine ⟨_, v, List.getElem?_eq_getElem hlt, a1, a2, a3, ?_⟩
            simp only [news, List.getElem?_map, List.getElem?_range hj, Option.map_some]
            simp [Array.getD_eq_getD_getElem?, a1]
          refine ⟨news, by simp [news], ?_, fun w' hw' => ?_, fun _ e he => c2 e (List.mem_of_mem_drop (List.mem_of_mem_take he)), fun j p u hp hu => ?_⟩
          · intro u hu
            obtain ⟨j, hj, rfl⟩ := List.getElem_of_mem hu
            have hj' : j < n * size := by simpa [news] using hj
            obtain ⟨p, v, _, _, a3, _, a5⟩ := hnews j hj'
            rw [List.getElem?_eq_getElem hj] at a5
            rw [Option.some.inj a5]; exact a3
          · refine run_firstCells_some (P := P) w' size n _ n c news (by simp [news]) ?_
            intro j u hu
            have hj' : j < n * size := by
              have := (List.getElem?_eq_some_iff.1 hu).1
              simpa [news] using this
            obtain ⟨p, v, _, a2, _, _, a5⟩ := hnews j hj'
            rw [a5] at hu
            rw [addr_add, hw', cell_of_row w b _ cs T (0, 0) c1, a2]
            exact hu
          · rw [flat_drop_take c2 lo n hlen] at hp
            split at hp
            · rename_i hj
              obtain ⟨p', v, a1, _, _, a4, a5⟩ := hnews j hj
              rw [a1] at hp; rw [a5] at hu
              rw [← Option.some.inj hp, ← Option.some.inj hu]
              exact a4
            · cases hp
      · cases hc
    · cases hc
  | _ => simp [contents] at hc

/-- append where there is room. -/
theorem run_append_in {T ty e : TypeId} {info : TypeInfo} (ht : P.underlying T = some (.slice e)) (hi : P.info? e = some info) {b o n c m : Nat} {xa : Option Addr} {xc : Nat} {cur : Array Value} {t : TypeId}
    (hg : w.heap[b]? = some (.cells cur t (0, 0))) {news : List Value} (hx : (Builtin.firstCells info.size m (.slice xa m xc)).run P w = .ok news.toArray w) (hneed : n + m ≤ c)
    (hfit : o + n * info.size + news.length ≤ cur.size) (h1 : ∀ u ∈ news, u.oneCell' = true) :
    (Builtin.append_ #[T, T] ty #[.slice (some ⟨b, o, none⟩) n c, .slice xa m xc]).run P w =
      .ok (.slice (some ⟨b, o, none⟩) (n + m) c) (w.setRow b (cur.toList.take (o + n * info.size) ++ news ++ cur.toList.drop (o + n * info.size + news.length)).toArray) := by
  have hst := run_storeCells_at P b (o + n * info.size) t news 0 cur w hg (by simpa using hfit) h1
  simp only [Nat.add_zero] at hst
  simp [Builtin.append_, run_underlying ht, sizeOf, typeInfo, hi, Builtin.lenOf, hneed, hx, addr_add, hst]

/-- append of nothing. -/
theorem run_append_none {T ty e : TypeId} {info : TypeInfo} (ht : P.underlying T = some (.slice e)) (hi : P.info? e = some info) {a : Option Addr} {n c : Nat} {xa : Option Addr} {xc : Nat} (hn : n ≤ c) :
    (Builtin.append_ #[T, T] ty #[.slice a n c, .slice xa 0 xc]).run P w = .ok (.slice a n c) w := by
  have hx : (Builtin.firstCells info.size 0 (.slice xa 0 xc)).run P w = .ok #[] w := by
    cases xa <;> simp [Builtin.firstCells, loadCells, loadCellsFrom]
  cases a <;> simp [Builtin.append_, run_underlying ht, sizeOf, typeInfo, hi, Builtin.lenOf, hn, hx, storeCells]

/-- append where there is no room. -/
theorem run_append_out {T ty e : TypeId} {info : TypeInfo} {z : Value} (ht : P.underlying T = some (.slice e)) (hi : P.info? e = some info) (hz : info.zero = some z) {a : Option Addr} {n c m : Nat} {xa : Option Addr} {xc : Nat}
    {olds news : List Value} (ho : (Builtin.firstCells info.size n (.slice a n c)).run P w.drew = .ok olds.toArray w.drew) (hx : (Builtin.firstCells info.size m (.slice xa m xc)).run P w.drew = .ok news.toArray w.drew)
    (hg : c < n + m) (h63 : n + m ≤ 140737488355328) (hb : (n + m) * info.bytes ≤ 140737488355328) :
    (Builtin.append_ #[T, T] ty #[.slice a n c, .slice xa m xc]).run P w =
      .ok (.slice (some ⟨w.heap.size, 0, none⟩) (n + m) (grownCap w (n + m) c e))
        (w.drew.alloc (.cells (olds ++ news ++ (Builtin.zeroCells z.cells (grownCap w (n + m) c e - (n + m))).toList).toArray e)) := by
  have hn : ¬ (n + m ≤ c) := by omega
  have h63' : ¬ (9223372036854775807 < ((n : Int) + (m : Int))) := by omega
  have hfit := growslice_fits hg hb
  have h48' : ¬ (281474976710656 < Builtin.nextslicecap (n + m) c * info.bytes) := by omega
  simp [Builtin.append_, run_underlying ht, sizeOf, typeInfo, zeroValue, hi, hz, Builtin.lenOf, hn, h63', h48', Question.forced, hx, ho, newRow, grownCap]
  congr 2
  apply Array.ext'
  simp

/-- The cells of an own slice itself. -/
theorem olds_cells (hS : Sim w0 K B0 g μ w) {id sz lo n : Nat} {lim : Bool} {v : Value} {T : Nat} {es : List PV} (hq : Rep w (Stab w0 B0 g μ w) μ (.sref id sz lo n lim) v) (hg : g id = .row T sz es) (hn : lo + n ≤ es.length) :
    ∃ a c, v = .slice a n c ∧ n ≤ c ∧ (lim = true → c = n) ∧ ∃ olds : List Value, olds.length = n * sz ∧ (∀ u ∈ olds, u.oneCell' = true) ∧ (∀ w', w'.cell? = w.cell? → (Builtin.firstCells sz n v).run P w' = .ok olds.toArray w') ∧
      ∀ (j : Nat) (p : PV) (u : Value), (flat ((es.drop lo).take n))[j]? = some p → olds[j]? = some u → Rep w (Stab w0 B0 g μ w) μ p u := by
  obtain ⟨a, m, c, hv, hm, hall⟩ := contents_cells (P := P) (sz := sz) (xs := (es.drop lo).take n) hS hq (by simp [contents, hg, hn])
  have hxl : ((es.drop lo).take n).length = n := by simp; omega
  rw [hxl] at hm
  subst hm
  subst hv
  obtain ⟨olds, h1, h2, h3, _, h5⟩ := hall sz (fun _ => rfl)
  cases hq with
  | sref _ _ _ _ _ _ _ _ b base hm' hn' hlim ha hcap => exact ⟨a, c, rfl, hn', hlim, olds, h1, h2, h3, h5⟩

theorem exec_append {o : Oper} {ρ : Operand → Value} {c : Call} {x y : Operand} {T : TypeId} (ho : o.op = .call c) (hc : c.callee = .builtin .append) (ha : c.args = #[x, y]) (hT : c.argTypes = #[T, T]) {v w'} (h : (Builtin.append_ #[T, T] o.type #[ρ x, ρ y]).run P w = .ok v w') :
    (execOp ρ o).run P w = .ok (.value v) w' := by
  unfold execOp
  simp only [ho, resolve, hc, ha, hT, invoke, builtin, Sem.run_bind, Sem.run_pure, Result.andThen_ok, List.map_toArray, List.map_cons, List.map_nil, h]

theorem does_appendE (htt : TTOk P tt) (hS : Sim w0 K B0 g μ w) {T e : TypeId} {i ie : TI} (ht : tt T = some i) (hk : i.kind = .slc e) (he : tt e = some ie) {id sz lo n sz' : Nat} {lim : Bool} {q : PV} (hx : contents g q = some (sz', []))
    {o : Oper} {ρ : Operand → Value} {c : Call} {x y : Operand} (ho : o.op = .call c) (hc : c.callee = .builtin .append) (ha : c.args = #[x, y]) (hT : c.argTypes = #[T, T])
    (h1 : Rep w (Stab w0 B0 g μ w) μ (.sref id sz lo n lim) (ρ x)) (h2 : Rep w (Stab w0 B0 g μ w) μ q (ρ y)) : Does P w0 K B0 ((execOp ρ o).run P w) g μ w (.sref id sz lo n lim) [] := by
  obtain ⟨d, hd, hfit⟩ := tt_und htt ht
  rw [hk] at hfit
  simp only [TK.fits] at hfit
  subst hfit
  obtain ⟨info, hi, _⟩ := tt_info htt he
  obtain ⟨a, m, c', hv, hm, _⟩ := contents_cells (P := P) hS h2 hx
  simp only [List.length_nil] at hm
  subst hm
  refine .pure hS (exec_append ho hc ha hT (v := ρ x) ?_) h1
  generalize ρ x = vx at h1 ⊢
  rw [hv]
  cases h1 with
  | sref _ _ _ _ _ _ a0 c0 b base hm' hn' hlim ha' hcap => exact run_append_none hd hi hn'

theorem does_appendOut (htt : TTOk P tt) (hS : Sim w0 K B0 g μ w) {fid : Nat} {T e : TypeId} {i ie : TI} (ht : tt T = some i) (hk : i.kind = .slc e) (he : tt e = some ie) (hf : Free g fid) {sz n sz' : Nat} {q : PV} {old xs : List PV} (hx : contents g q = some (sz', xs))
    (hz : ie.size = sz) (hz' : xs ≠ [] → sz' = sz) {o : Oper} {ρ : Operand → Value} {c : Call} {x y : Operand} (ho : o.op = .call c) (hc : c.callee = .builtin .append) (ha : c.args = #[x, y]) (hT : c.argTypes = #[T, T])
    {a : Option Addr} {cp : Nat} (hvx : ρ x = .slice a n cp) (hcp : cp < n + xs.length) {olds : List Value} (hol : olds.length = n * sz) (ho1 : ∀ u ∈ olds, u.oneCell' = true)
    (hof : ∀ w', w'.cell? = w.cell? → (Builtin.firstCells sz n (.slice a n cp)).run P w' = .ok olds.toArray w') (hor : ∀ (j : Nat) (p : PV) (u : Value), (flat old)[j]? = some p → olds[j]? = some u → Rep w (Stab w0 B0 g μ w) μ p u)
    (hon : old.length = n) (hos : ∀ e ∈ old, e.cells.length = sz)
    (hm : (n + xs.length) * ie.bytes ≤ 140737488355328) (hm' : n + xs.length ≤ 140737488355328) (h2 : Rep w (Stab w0 B0 g μ w) μ q (ρ y)) :
    Does P w0 K B0 ((execOp ρ o).run P w) g μ w (.sref fid sz 0 (n + xs.length) false) [(fid, .row e sz (old ++ xs))] := by
  obtain ⟨d, hd, hfit⟩ := tt_und htt ht
  rw [hk] at hfit
  simp only [TK.fits] at hfit
  subst hfit
  obtain ⟨zv, hzr, ⟨info, hi, hi2, hi3, hi4⟩, hzs, hzl, hec, hes, hrep⟩ := tt_zero htt he
  obtain ⟨a', m, c', hv, hxm, hall⟩ := contents_cells (P := P) hS h2 hx
  subst hxm
  obtain ⟨news, hnl, hn1, hnf, hns, hnr⟩ := hall sz (fun h => (hz' h).symm)
  rw [hv] at hnf
  subst hz
  have hrun := run_append_out (P := P) (w := w) (ty := o.type) hd hi hi2 (a := a) (n := n) (c := cp) (m := xs.length) (xa := a') (xc := c') (olds := olds) (news := news) (by rw [hi3]; exact hof w.drew (by funext; rfl)) (by rw [hi3]; exact hnf w.drew (by funext; rfl)) hcp hm' (by rw [hi4]; exact hm)
  generalize hcap : grownCap w (n + xs.length) cp e = cap at hrun
  have hcge : n + xs.length ≤ cap := by rw [← hcap]; exact grownCap_ge _ _ _ _
  generalize hcs : (olds ++ news ++ (Builtin.zeroCells zv.cells (cap - (n + xs.length))).toList).toArray = cs at hrun
  have hcsz : cs.size = cap * ie.size := by
    rw [← hcs]
    simp only [List.size_toArray, List.length_append, hol, hnl, Array.length_toList, size_zeroCells, hzs]
    rw [← Nat.add_mul, ← Nat.add_mul]
    congr 1; omega
  have hds := hS.drew
  have hel : ∀ e ∈ old ++ xs, e.cells.length = ie.size := by
    intro y hy
    rcases List.mem_append.1 hy with h | h
    · exact hos y h
    · exact hns (fun hh => by rw [hh] at h; cases h) y h
  have hlo := flat_length hos
  rw [hon] at hlo
  obtain ⟨μ', hmu, hS', hG⟩ := does_new (T := e) (cs := cs) (cap := cap) hds.1 hf (es := old ++ xs) (sz := ie.size) hel (by simp; omega) hcsz (fun j p hp => by
    rw [flat_append] at hp
    have hlt : j < (flat old).length + (flat xs).length := by
      have := (List.getElem?_eq_some_iff.1 hp).1
      simpa using this
    have hlx : (flat xs).length = xs.length * ie.size := by
      by_cases hxe : xs = []
      · subst hxe; simp [flat]
      · exact flat_length (hns hxe)
    rw [← hcs]
    simp only [List.getElem?_toArray]
    by_cases hj : j < (flat old).length
    · rw [List.getElem?_append_left hj] at hp
      have hj2 : j < olds.length := by omega
      rw [List.append_assoc, List.getElem?_append_left hj2]
      exact ⟨_, List.getElem?_eq_getElem hj2, ho1 _ (List.getElem_mem _), hds.2 _ _ (hor j p _ hp (List.getElem?_eq_getElem hj2))⟩
    · rw [List.getElem?_append_right (by omega)] at hp
      have hj2 : j - olds.length < news.length := by omega
      rw [List.append_assoc, List.getElem?_append_right (by omega), List.getElem?_append_left hj2]
      refine ⟨_, List.getElem?_eq_getElem hj2, hn1 _ (List.getElem_mem _), hds.2 _ _ (hnr _ p _ hp ?_)⟩
      rw [show j - (flat old).length = j - olds.length by omega]
      exact List.getElem?_eq_getElem hj2)
  refine ⟨.slice (some ⟨w.heap.size, 0, none⟩) (n + xs.length) cap, _, μ', .inl (exec_append ho hc ha hT (by rw [hvx, hv]; exact hrun)), hS', ?_, hds.2.trans hG⟩
  exact rep_new_slice hmu (heap_alloc_new w.drew _) hcsz hcge

theorem does_appendIn (htt : TTOk P tt) (hS : Sim w0 K B0 g μ w) {T e : TypeId} {i ie : TI} (ht : tt T = some i) (hk : i.kind = .slc e) (he : tt e = some ie) {id sz lo n sz' T0 : Nat} {q : PV} {es xs : List PV} (hx : contents g q = some (sz', xs))
    (hz : ie.size = sz) (hz' : xs ≠ [] → sz' = sz) (hg : g id = .row T0 sz es) (hn : lo + n ≤ es.length) {o : Oper} {ρ : Operand → Value} {c : Call} {x y : Operand} (ho : o.op = .call c) (hc : c.callee = .builtin .append) (ha : c.args = #[x, y]) (hT : c.argTypes = #[T, T])
    {b base : Nat} (hmu : μ id = some (b, base)) {cp : Nat} (hvx : ρ x = .slice (some ⟨b, base + lo * sz, none⟩) n cp) (hcp : n + xs.length ≤ cp) (hcap : ∃ cs T, w.heap[b]? = some (.cells cs T (0, 0)) ∧ cs.size = base + (lo + cp) * sz)
    (h2 : Rep w (Stab w0 B0 g μ w) μ q (ρ y)) :
    ∃ w', (execOp ρ o).run P w = .ok (.value (.slice (some ⟨b, base + lo * sz, none⟩) (n + xs.length) cp)) w' ∧
      Sim w0 K B0 (upd g id (.row T0 sz (es.take (lo + n) ++ xs ++ es.drop (lo + n + xs.length)))) μ w' ∧ Goes w0 B0 g μ w (upd g id (.row T0 sz (es.take (lo + n) ++ xs ++ es.drop (lo + n + xs.length)))) μ w' ∧
      (∃ cs, w'.heap[b]? = some (.cells cs T0 (0, 0)) ∧ cs.size = base + (lo + cp) * sz) := by
  obtain ⟨d, hd, hfit⟩ := tt_und htt ht
  rw [hk] at hfit
  simp only [TK.fits] at hfit
  subst hfit
  obtain ⟨info, hi, hi3, hi4⟩ := tt_info htt he
  obtain ⟨a', m, c', hv, hxm, hall⟩ := contents_cells (P := P) hS h2 hx
  subst hxm
  obtain ⟨news, hnl, hn1, hnf, hns, hnr⟩ := hall sz (fun h => (hz' h).symm)
  rw [hv] at hnf
  subst hz
  obtain ⟨cs0, Tc, hcs0, hcsz0⟩ := hcap
  have hO := hS.obj id b base (by rw [hg]; rfl) hmu
  rw [hg] at hO
  obtain ⟨cs, cap, c1, c2, c3, c4, c5⟩ := hO
  rw [c1] at hcs0
  obtain ⟨rfl, rfl⟩ : cs = cs0 ∧ T0 = Tc := by
    injection hcs0 with h; injection h with h1 h2; exact ⟨h1, h2⟩
  have hfl := flat_length c2
  have hlx : (flat xs).length = xs.length * ie.size := by
    by_cases hxe : xs = []
    · subst hxe; simp [flat]
    · exact flat_length (hns hxe)
  have hmul : (lo + n + xs.length) * ie.size ≤ (lo + cp) * ie.size := Nat.mul_le_mul_right _ (by omega)
  have e1 : (lo + n + xs.length) * ie.size = lo * ie.size + n * ie.size + xs.length * ie.size := by rw [Nat.add_mul, Nat.add_mul]
  have e2 : (lo + n) * ie.size = lo * ie.size + n * ie.size := Nat.add_mul _ _ _
  have hrun := run_append_in (P := P) (w := w) (ty := o.type) hd hi (b := b) (o := base + lo * ie.size) (n := n) (c := cp) (m := xs.length) (xa := a') (xc := c') (news := news) c1 (by rw [hi3]; exact hnf w rfl) hcp (by rw [hi3]; omega) hn1
  rw [hi3] at hrun
  generalize hcs' : (cs.toList.take (base + lo * ie.size + n * ie.size) ++ news ++ cs.toList.drop (base + lo * ie.size + n * ie.size + news.length)).toArray = cs' at hrun
  have hsz' : cs'.size = cs.size := by rw [← hcs']; simp; omega
  have hget : ∀ j, cs'[j]? = if base + lo * ie.size + n * ie.size ≤ j ∧ j < base + lo * ie.size + n * ie.size + news.length then news[j - (base + lo * ie.size + n * ie.size)]? else cs[j]? := by
    intro j
    rw [← hcs']
    simp only [List.getElem?_toArray]
    by_cases q1 : j < base + lo * ie.size + n * ie.size
    · rw [if_neg (by omega), List.append_assoc, List.getElem?_append_left (by simp; omega), List.getElem?_take, if_pos q1]
      simp
    · by_cases q2 : j < base + lo * ie.size + n * ie.size + news.length
      · rw [if_pos ⟨by omega, q2⟩, List.getElem?_append_left (by simp; omega), List.getElem?_append_right (by simp; omega)]
        simp; congr 1; omega
      · rw [if_neg (by omega), List.getElem?_append_right (by simp; omega), List.getElem?_drop]
        simp; congr 1; omega
  have hcw := hS.write hg hmu cs cs' c1 hsz' (es.take (lo + n) ++ xs ++ es.drop (lo + n + xs.length)) (fun w' hgo hw hb => by
    have hcapeq : cap * ie.size = (lo + cp) * ie.size := by omega
    refine ⟨cs', max cap (lo + cp), hb, ?_, by simp; omega, ?_, fun j p hp => ?_⟩
    · intro y hy
      rcases List.mem_append.1 hy with h | h
      · rcases List.mem_append.1 h with h | h
        · exact c2 y (List.mem_of_mem_take h)
        · exact hns (fun hh => by rw [hh] at h; cases h) y h
      · exact c2 y (List.mem_of_mem_drop h)
    · have : max cap (lo + cp) * ie.size = cap * ie.size := by
        rcases Nat.le_total cap (lo + cp) with h | h
        · rw [Nat.max_eq_right h]; exact hcapeq.symm
        · rw [Nat.max_eq_left h]
      omega
    · rw [flat_append, flat_append] at hp
      have ht1 : (flat (es.take (lo + n))).length = lo * ie.size + n * ie.size := by
        rw [flat_length (fun e he => c2 e (List.mem_of_mem_take he)), List.length_take, Nat.min_eq_left (by omega), Nat.add_mul]
      rw [hget]
      by_cases q1 : j < lo * ie.size + n * ie.size
      · rw [List.append_assoc, List.getElem?_append_left (by omega)] at hp
        rw [if_neg (by omega)]
        have hp' : (flat es)[j]? = some p := by
          have := flat_drop_take c2 0 (lo + n) (by omega) j
          simp only [List.drop_zero, Nat.zero_mul, Nat.zero_add] at this
          rw [this, if_pos (by omega)] at hp
          exact hp
        obtain ⟨v, a1, a2, a3⟩ := c5 j p hp'
        exact ⟨v, a1, a2, hgo _ _ a3⟩
      · by_cases q2 : j < lo * ie.size + n * ie.size + xs.length * ie.size
        · rw [List.append_assoc, List.getElem?_append_right (by omega), List.getElem?_append_left (by omega)] at hp
          rw [if_pos ⟨by omega, by omega⟩]
          have hlt : base + j - (base + lo * ie.size + n * ie.size) < news.length := by omega
          refine ⟨_, List.getElem?_eq_getElem hlt, hn1 _ (List.getElem_mem _), hgo _ _ (hnr _ p _ hp ?_)⟩
          rw [← List.getElem?_eq_getElem hlt]
          congr 1; omega
        · rw [List.append_assoc, List.getElem?_append_right (by omega), List.getElem?_append_right (by omega)] at hp
          rw [if_neg (by omega)]
          have hle : lo + n + xs.length ≤ es.length := by
            rcases Nat.lt_or_ge es.length (lo + n + xs.length) with h | h
            · rw [List.drop_eq_nil_of_le (by omega)] at hp; simp [flat] at hp
            · exact h
          have hp' : (flat es)[j]? = some p := by
            have := flat_drop_take c2 (lo + n + xs.length) (es.length - (lo + n + xs.length)) (by omega) (j - (flat (es.take (lo + n))).length - (flat xs).length)
            rw [List.take_of_length_le (by simp)] at this
            rw [this] at hp
            split at hp
            · rw [← hp]; congr 1; omega
            · cases hp
          obtain ⟨v, a1, a2, a3⟩ := c5 j p hp'
          exact ⟨v, a1, a2, hgo _ _ a3⟩)
  refine ⟨_, exec_append ho hc ha hT (by rw [hvx, hv]; exact hrun), hcw.1, hcw.2, cs', ?_, by omega⟩
  simp [World.setRow, Array.getElem?_modify, c1]
end
end Go.V
/- The value logic, part 9: literals; all operations. -/
set_option linter.unusedVariables false
set_option linter.unusedSimpArgs false
namespace Go.V
open Go.RowKit

theorem places_of : ∀ (P : Program) (fields : List Field) (fs : List (Nat × Nat × Nat)), (fields.map fun f => (f.offset, f.type, (P.info? f.type).map (·.size))) = (fs.map fun f => (f.1, f.2.1, some f.2.2)) →
    fields.mapM (fun f => (P.info? f.type).map fun i => (f.offset, i.size)) = some (fs.map fun x => (x.1, x.2.2))
  | P, [], [], _ => by simp
  | P, [], f :: fs, h => by simp at h
  | P, f :: fields, [], h => by simp at h
  | P, f :: fields, x :: fs, h => by
    simp only [List.map_cons, List.cons.injEq, Prod.mk.injEq] at h
    obtain ⟨⟨h1, h2, h3⟩, h4⟩ := h
    have ih := places_of P fields fs h4
    obtain ⟨info, hi, hs⟩ := Option.map_eq_some_iff.1 h3
    simp only [List.mapM_cons, hi, ih, List.map_cons]
    simp [h1, hs]

theorem foldl_set_get (off : Nat) : ∀ (vs : List Value) (k : Nat) (cs : Array Value) (j : Nat), off + k + vs.length ≤ cs.size →
    (((vs.zipIdx k).foldl (fun cs (x : Value × Nat) => cs.setIfInBounds (off + x.2) x.1) cs).size = cs.size) ∧
    ((vs.zipIdx k).foldl (fun cs (x : Value × Nat) => cs.setIfInBounds (off + x.2) x.1) cs)[j]? = if off + k ≤ j ∧ j < off + k + vs.length then vs[j - (off + k)]? else cs[j]?
  | [], k, cs, j, _ => by simp; intro h1 h2; omega
  | v :: vs, k, cs, j, h => by
    simp only [List.length_cons] at h
    obtain ⟨ih1, ih2⟩ := foldl_set_get off vs (k + 1) (cs.setIfInBounds (off + k) v) j (by rw [Array.size_setIfInBounds]; omega)
    simp only [List.zipIdx_cons, List.foldl_cons]
    refine ⟨by rw [ih1]; simp, ?_⟩
    rw [ih2]
    by_cases h1 : j = off + k
    · subst h1
      rw [if_neg (by omega), if_pos ⟨by omega, by simp⟩, Array.getElem?_setIfInBounds_self_of_lt (by omega)]
      simp
    · by_cases h2 : off + (k + 1) ≤ j ∧ j < off + (k + 1) + vs.length
      · rw [if_pos h2, if_pos ⟨by omega, by simp; omega⟩]
        rw [show j - (off + k) = (j - (off + (k + 1))) + 1 by omega, List.getElem?_cons_succ]
      · rw [if_neg h2, if_neg (by simp; omega), Array.getElem?_setIfInBounds_ne (by omega)]

section
variable {w : World} {B : Nat → Prop} {μ : Mu}

/-- Cells and what they stand for. -/
def CellsRep (w : World) (B : Nat → Prop) (μ : Mu) (cs : List PV) (vs : Array Value) : Prop :=
  cs.length = vs.size ∧ (∀ v ∈ vs.toList, v.oneCell' = true) ∧ ∀ (j : Nat) (p : PV) (v : Value), cs[j]? = some p → vs[j]? = some v → Rep w B μ p v

theorem fill_rep {place : Nat → Option (Nat × Nat)} : ∀ (ps : List (Nat × PV)) (vs : List (Nat × Value)) (cs cs' : List PV) (zs : Array Value), ps.map (·.1) = vs.map (·.1) →
    (∀ (j : Nat) (p : Nat × PV) (v : Nat × Value), ps[j]? = some p → vs[j]? = some v → Rep w B μ p.2 v.2) → CellsRep w B μ cs zs → fillP place cs ps = some cs' →
    ∃ zs', Instr.fill place zs vs = some zs' ∧ CellsRep w B μ cs' zs'
  | [], [], cs, cs', zs, _, _, hc, h => by simp [fillP] at h; subst h; exact ⟨zs, rfl, hc⟩
  | [], _ :: _, _, _, _, h, _, _, _ => by simp at h
  | _ :: _, [], _, _, _, h, _, _, _ => by simp at h
  | (i, p) :: ps, (i', v) :: vs, cs, cs', zs, hi, hr, hc, h => by
    simp only [List.map_cons, List.cons.injEq] at hi
    obtain ⟨rfl, hi'⟩ := hi
    simp only [fillP] at h
    cases hp : place i with
    | none => rw [hp] at h; cases h
    | some x =>
      obtain ⟨off, size⟩ := x
      rw [hp] at h
      simp only at h
      split at h
      · rename_i hcond
        obtain ⟨h1, h2, h3⟩ := hcond
        have hv := hr 0 (i, p) (i, v) rfl rfl
        obtain ⟨r1, r2, r3⟩ := rep_cells hv h3
        simp only at r1 r2 r3
        have hget := fun j => foldl_set_get off v.cells.toList 0 zs j (by simp; have := hc.1; omega)
        have hnew : CellsRep w B μ (splice cs off p.cells) ((v.cells.zipIdx).foldl (fun cs (x : Value × Nat) => cs.setIfInBounds (off + x.2) x.1) zs) := by
          have e : (v.cells.zipIdx).foldl (fun cs (x : Value × Nat) => cs.setIfInBounds (off + x.2) x.1) zs = (v.cells.toList.zipIdx 0).foldl (fun cs (x : Value × Nat) => cs.setIfInBounds (off + x.2) x.1) zs := by
            rw [← Array.foldl_toList]; simp
          rw [e]
          refine ⟨?_, ?_, ?_⟩
          · rw [(hget 0).1, ← hc.1]; simp [splice]; omega
          · intro u hu
            obtain ⟨j, hj, rfl⟩ := List.getElem_of_mem hu
            have hj' := (hget j).2
            rw [← Array.getElem?_toList, List.getElem?_eq_getElem hj] at hj'
            split at hj'
            · exact r2 _ (List.mem_of_getElem? hj'.symm)
            · exact hc.2.1 _ (List.mem_of_getElem? (by rw [Array.getElem?_toList]; exact hj'.symm))
          · intro j q u hq hu
            rw [(hget j).2] at hu
            rw [splice_get (by omega)] at hq
            by_cases hin : off ≤ j ∧ j < off + p.cells.length
            · rw [if_pos hin] at hq
              rw [if_pos ⟨by omega, by simp; omega⟩] at hu
              exact r3 _ q u hq (by rw [Array.getElem?_toList] at hu; simpa using hu)
            · rw [if_neg hin] at hq
              rw [if_neg (by simp; omega)] at hu
              exact hc.2.2 j q u hq hu
        obtain ⟨zs', hz, hz'⟩ := fill_rep ps vs _ cs' _ hi' (fun j a b ha hb => hr (j + 1) a b ha hb) hnew h
        refine ⟨zs', ?_, hz'⟩
        simp only [Instr.fill, hp]
        rw [if_neg]
        · exact hz
        · have := hc.1; simp; omega
      · cases h

end

section
variable {P : Program} {tt : TT} {w0 w : World} {K : KA} {B0 : Nat → Prop} {g : Store} {μ : Mu}

theorem zip_parts {ρ : Operand → Value} {B : Nat → Prop} {vals : List PV} {parts : Array (Nat × Operand)} (hr : Reps w B μ ρ vals (parts.toList.map (·.2))) :
    ((parts.toList.map (·.1)).zip vals).map (·.1) = ((parts.map fun (i, x) => (i, ρ x)).toList).map (·.1) ∧
    ∀ (j : Nat) (p : Nat × PV) (v : Nat × Value), ((parts.toList.map (·.1)).zip vals)[j]? = some p → ((parts.map fun (i, x) => (i, ρ x)).toList)[j]? = some v → Rep w B μ p.2 v.2 := by
  obtain ⟨hl, hr⟩ := hr
  refine ⟨?_, fun j p v hp hv => ?_⟩
  · have e1 : ((parts.map fun (i, x) => (i, ρ x)).toList).map (·.1) = parts.toList.map (·.1) := by simp
    rw [e1]
    rw [show ((parts.toList.map (·.1)).zip vals).map (·.1) = ((parts.toList.map (·.1)).zip vals).unzip.1 by simp [List.unzip_eq_map]]
    rw [List.unzip_zip_left]
    simp at hl ⊢
    omega
  · rw [List.getElem?_zip_eq_some] at hp
    simp at hv hp
    obtain ⟨a, b, hab, rfl⟩ := hv
    exact hr j p.2 b hp.2 (by simp [hab])

theorem does_build (htt : TTOk P tt) (hS : Sim w0 K B0 g μ w) {T : TypeId} {i : TI} (ht : tt T = some i) {place : Nat → Option (Nat × Nat)} {vals : List PV} {parts : Array (Nat × Operand)} {cs : List PV}
    (hcs : fillP place i.zero ((parts.toList.map (·.1)).zip vals) = some cs) {o : Oper} {ρ : Operand → Value} (ho : o.op = .build T parts) (hr : Reps w (Stab w0 B0 g μ w) μ ρ vals (parts.toList.map (·.2)))
    (hb : ∀ zv info, P.info? T = some info → info.zero = some zv → ∀ l, P.built T l = Instr.fill place zv.cells l) : Does P w0 K B0 ((execOp ρ o).run P w) g μ w (.agg cs) [] := by
  obtain ⟨zv, hz, ⟨info, hi1, hi2, hi3, hi4⟩, hzs, hzl, hec, hes, hrep⟩ := tt_zero htt ht
  obtain ⟨hp1, hp2⟩ := zip_parts hr
  have hzc : CellsRep w (Stab w0 B0 g μ w) μ i.zero zv.cells := by
    refine ⟨by omega, fun v hv => ?_, fun j p v hp hv => ?_⟩
    · obtain ⟨j, hj, rfl⟩ := List.getElem_of_mem hv
      have hj' : j < zv.cells.size := by simpa using hj
      have hj2 : j < i.zero.length := by omega
      obtain ⟨v, hv, h1, _⟩ := hrep w (Stab w0 B0 g μ w) μ j _ (List.getElem?_eq_getElem hj2)
      rw [Array.getElem?_eq_getElem hj'] at hv
      have := Option.some.inj hv
      simp only [Array.getElem_toList]
      rw [this]; exact h1
    · obtain ⟨v', hv', _, h2⟩ := hrep w (Stab w0 B0 g μ w) μ j p hp
      rw [hv'] at hv
      rw [← Option.some.inj hv]; exact h2
  obtain ⟨zs', hf, hzr⟩ := fill_rep _ _ _ _ _ hp1 hp2 hzc hcs
  have hrun := run_build (P := P) w T (parts.map fun (i, x) => (i, ρ x)) zs' (by rw [hb zv info hi1 hi2]; exact hf)
  refine .pure hS (val := .agg zs') ?_ (.agg _ _ _ hzr.1 hzr.2.1 hzr.2.2)
  unfold execOp
  simp only [ho, Sem.run_bind, hrun, Result.andThen_ok, Sem.run_pure]

theorem built_struct (htt : TTOk P tt) {T : TypeId} {i : TI} (ht : tt T = some i) {fs : List (Nat × Nat × Nat)} (hk : i.kind = .agg fs) (zv : Value) (info : TypeInfo) (h1 : P.info? T = some info) (h2 : info.zero = some zv) (l : List (Nat × Value)) :
    P.built T l = Instr.fill (fun f => (fs[f]?).map fun x => (x.1, x.2.2)) zv.cells l := by
  obtain ⟨d, hd, hfit⟩ := tt_und htt ht
  rw [hk] at hfit
  obtain ⟨fields, rfl, hfs⟩ := hfit
  unfold Program.built
  simp only [h1, hd, h2, places_of P _ _ hfs]
  congr 1
  funext x
  simp

theorem built_array (htt : TTOk P tt) {T e : TypeId} {i ie : TI} (ht : tt T = some i) {n : Nat} (hk : i.kind = .arr n e) (he : tt e = some ie) (zv : Value) (info : TypeInfo) (h1 : P.info? T = some info) (h2 : info.zero = some zv) (l : List (Nat × Value)) :
    P.built T l = Instr.fill (fun f => some (f * ie.size, ie.size)) zv.cells l := by
  obtain ⟨d, hd, hfit⟩ := tt_und htt ht
  rw [hk] at hfit
  simp only [TK.fits] at hfit
  subst hfit
  obtain ⟨info', hi', hs', _⟩ := tt_info htt he
  unfold Program.built
  simp only [h1, hd, h2, hi', hs']

/-- Elements laid into elements are cells laid into cells. -/
theorem fillE_fillP {sz : Nat} (hsz : 0 < sz) : ∀ (ps : List (Nat × PV)) (es es' : List PV), (∀ e ∈ es, e.cells.length = sz) → fillE sz es ps = some es' →
    fillP (fun i => some (i * sz, sz)) (flat es) ps = some (flat es') ∧ (∀ e ∈ es', e.cells.length = sz) ∧ es'.length = es.length
  | [], es, es', h, he => by simp [fillE] at he; subst he; exact ⟨rfl, h, rfl⟩
  | (i, p) :: ps, es, es', h, he => by
    simp only [fillE] at he
    split at he
    · rename_i hc
      obtain ⟨h1, h2, h3⟩ := hc
      have hset : ∀ e ∈ es.set i p, e.cells.length = sz := fun e hh => by
        rcases List.mem_or_eq_of_mem_set hh with hh | rfl
        · exact h e hh
        · exact h1
      obtain ⟨a, b, c⟩ := fillE_fillP hsz ps (es.set i p) es' hset he
      have hfl := flat_length h
      have hmul : (i + 1) * sz ≤ es.length * sz := Nat.mul_le_mul_right _ (by omega)
      rw [Nat.add_mul, Nat.one_mul] at hmul
      refine ⟨?_, b, by simpa using c⟩
      simp only [fillP]
      rw [if_pos ⟨h1, by omega, h3⟩]
      have : splice (flat es) (i * sz) p.cells = flat (es.set i p) := by
        apply List.ext_getElem?
        intro j
        rw [splice_get (by omega), flat_set h h2 h1 hsz, h1]
      rw [this]
      exact a
    · cases he

theorem does_buildSlice (htt : TTOk P tt) (hS : Sim w0 K B0 g μ w) {fid len : Nat} {T e : TypeId} {i ie : TI} (ht : tt T = some i) (hk : i.kind = .slc e) (he : tt e = some ie) (hz : 0 < ie.size) (hm : len * ie.size ≤ 16777216) (hf : Free g fid)
    {parts : Array (Nat × Operand)} {vals es : List PV} (hes : fillE ie.size (List.replicate len (elemOf ie ie.zero)) ((parts.toList.map (·.1)).zip vals) = some es)
    {o : Oper} {ρ : Operand → Value} (ho : o.op = .buildSlice T len parts) (hr : Reps w (Stab w0 B0 g μ w) μ ρ vals (parts.toList.map (·.2))) :
    Does P w0 K B0 ((execOp ρ o).run P w) g μ w (.sref fid ie.size 0 len false) [(fid, .row e ie.size es)] := by
  obtain ⟨d, hd, hfit⟩ := tt_und htt ht
  rw [hk] at hfit
  simp only [TK.fits] at hfit
  subst hfit
  obtain ⟨zv, hzr, ⟨info, hi1, hi2, hi3, hi4⟩, hzs, hzl, hec, hels, hrep⟩ := tt_zero htt he
  obtain ⟨hp1, hp2⟩ := zip_parts hr
  have hrl : ∀ x ∈ List.replicate len (elemOf ie ie.zero), x.cells.length = ie.size := fun x hx => by rw [List.eq_of_mem_replicate hx, hec, hzl]
  obtain ⟨hfp, hes', hlen⟩ := fillE_fillP hz _ _ _ hrl hes
  simp only [List.length_replicate] at hlen
  let zs : Array Value := (Array.range (len * ie.size)).map (zv.cells[· % zv.cells.size]!)
  have hzc : CellsRep w (Stab w0 B0 g μ w) μ (flat (List.replicate len (elemOf ie ie.zero))) zs := by
    have hfl := flat_length hrl
    simp only [List.length_replicate] at hfl
    have key : ∀ j, j < len * ie.size → ∃ p v, (flat (List.replicate len (elemOf ie ie.zero)))[j]? = some p ∧ zs[j]? = some v ∧ v.oneCell' = true ∧ Rep w (Stab w0 B0 g μ w) μ p v := by
      intro j hj
      have hmod : j % ie.size < ie.size := Nat.mod_lt _ hz
      have hlt : j % ie.size < ie.zero.length := by omega
      obtain ⟨v, hv, hv1, hv2⟩ := hrep w (Stab w0 B0 g μ w) μ _ _ (List.getElem?_eq_getElem hlt)
      refine ⟨ie.zero[j % ie.size], v, ?_, ?_, hv1, hv2⟩
      · rw [flat_replicate, hec, hzl, if_pos hj, List.getElem?_eq_getElem hlt]
      · simp only [zs, Array.getElem?_map, Array.getElem?_range, if_pos hj, Option.map_some, hzs]
        have hlt' : j % ie.size < zv.cells.size := by omega
        rw [getElem!_pos zv.cells _ hlt']
        rw [Array.getElem?_eq_getElem hlt'] at hv
        exact hv
    refine ⟨by simp [zs, hfl], fun v hv => ?_, fun j p v hp hv => ?_⟩
    · obtain ⟨j, hj, rfl⟩ := List.getElem_of_mem hv
      have hj' : j < len * ie.size := by simpa [zs] using hj
      obtain ⟨p, v, _, a2, a3, _⟩ := key j hj'
      rw [← Array.getElem?_toList, List.getElem?_eq_getElem hj] at a2
      rw [Option.some.inj a2]; exact a3
    · have hj : j < len * ie.size := by
        have := (List.getElem?_eq_some_iff.1 hp).1
        omega
      obtain ⟨p', v', a1, a2, _, a4⟩ := key j hj
      rw [a1] at hp; rw [a2] at hv
      rw [← Option.some.inj hp, ← Option.some.inj hv]; exact a4
  obtain ⟨zs', hfill, hzr'⟩ := fill_rep _ _ _ _ _ hp1 hp2 hzc hfp
  have hfl' := flat_length hes'
  have hcs : zs'.size = len * ie.size := by rw [← hzr'.1, hfl', hlen]
  obtain ⟨μ', hmu, hS', hG⟩ := does_new (T := e) (cs := zs') (cap := len) hS hf (es := es) (sz := ie.size) hes' (by omega) hcs (fun j p hp => by
    have hj : j < zs'.size := by
      have := (List.getElem?_eq_some_iff.1 hp).1
      rw [← hzr'.1]; exact this
    exact ⟨_, Array.getElem?_eq_getElem hj, hzr'.2.1 _ (by simp), hzr'.2.2 j p _ hp (Array.getElem?_eq_getElem hj)⟩)
  refine ⟨.slice (some ⟨w.heap.size, 0, none⟩) len len, w.alloc (.cells zs' e), μ', .inl ?_, hS', rep_new_slice hmu (heap_alloc_new w _) hcs (Nat.le_refl _), hG⟩
  unfold execOp
  have hpl : (parts.map fun (i, x) => (i, ρ x)).toList = List.map (fun x => (x.1, ρ x.2)) parts.toList := by simp
  rw [hpl] at hfill
  by_cases hl0 : len = 0
  · subst hl0
    have hfill' : Instr.fill (fun i => some (i * ie.size, ie.size)) #[] (List.map (fun x => (x.1, ρ x.2)) parts.toList) = some zs' := by
      rw [← hfill]; congr 1; simp [zs]
    have hr0 : Array.map (fun _ => (default : Value)) (Array.range 0) = #[] := Array.ext' (by simp)
    simp only [ho, Sem.run_bind, Instr.buildSlice, run_underlying hd, Result.andThen_ok, run_sizeOf_tt htt he, Nat.zero_mul]
    simp [hr0, hfill', newRow]
  · have hne : ¬ (len * ie.size = 0) := by
      have := Nat.mul_pos (Nat.pos_of_ne_zero hl0) hz
      omega
    have hm' : ¬ (len * ie.size > 2 ^ 24) := by omega
    have hz0 : ¬ (len = 0 ∨ ie.size = 0) := by omega
    simp only [ho, Sem.run_bind, Instr.buildSlice, run_underlying hd, Result.andThen_ok, run_sizeOf_tt htt he, if_neg hm', if_neg hne, hzr]
    have hfill' : Instr.fill (fun i => some (i * ie.size, ie.size)) ((Array.range (len * ie.size)).map (zv.cells[· % zv.cells.size]!)) (List.map (fun x => (x.1, ρ x.2)) parts.toList) = some zs' := hfill
    simp [hfill', newRow]
end
end Go.V
/- The value logic, part 10: every operation of the relation is the model's. -/
set_option linter.unusedVariables false
set_option linter.unusedSimpArgs false
namespace Go.V
open Go.RowKit

section
variable {P : Program} {tt : TT} {w0 w : World} {K : KA} {B0 : Nat → Prop} {g : Store} {μ : Mu}

theorem exec_builtin {o : Oper} {ρ : Operand → Value} {c : Call} {b : Builtin} (ho : o.op = .call c) (hc : c.callee = .builtin b) (w : World) :
    (execOp ρ o).run P w = (builtin b c.argTypes o.type (c.args.map fun | .const _ => true | _ => false) (c.args.map ρ)).run P w := by
  unfold execOp
  simp only [ho, resolve, hc, invoke, Sem.run_bind, Sem.run_pure, Result.andThen_ok]
  rfl

theorem cut_places {sz lo l cp base : Nat} {b : Nat} {a : Option Addr} (ha : cp ≠ 0 → a = some ⟨b, base + lo * sz, none⟩) (hl : l ≤ cp) :
    cp - l ≠ 0 → (if cp = l then a else a.map (·.add (l * sz))) = some ⟨b, base + (lo + l) * sz, none⟩ := by
  intro h
  rw [if_neg (by omega), ha (by omega)]
  simp only [Option.map_some, addr_add, Nat.add_mul, Nat.add_assoc]

/-- The bounds of a slice expression. -/
theorem run_bounds {isSlice : Bool} {n cp : Nat} (hcp : n ≤ cp) {lo hi : Option Value} {l h : Int} {L H : Option PV}
    (hL : ∀ v, lo = some v → ∃ k i, v = .int k i ∧ L = some (.int k i)) (hL' : lo = none → L = none) (hH : ∀ v, hi = some v → ∃ k i, v = .int k i ∧ H = some (.int k i)) (hH' : hi = none → H = none)
    (bl : bound 0 L = some l) (bh : bound n H = some h) (h0 : 0 ≤ l) (h1 : l ≤ h) (h2 : h ≤ n) :
    (Instr.sliceBounds isSlice n cp lo hi none).run P w = .ok (l.toNat, h.toNat, cp) w := by
  have key : ∀ (k : IntKind) (i : Int) (y : Nat) (code : BoundsCode), 0 ≤ i → i ≤ y → (Instr.sliceBound (.int k i) y code).run P w = .ok i.toNat w := fun k i y code a b => by
    simp [Instr.sliceBound, asIntOf, a, b]
  unfold Instr.sliceBounds
  cases hi with
  | none =>
    rw [hH' rfl] at bh
    simp only [bound, Option.some.injEq] at bh
    subst bh
    cases lo with
    | none =>
      rw [hL' rfl] at bl
      simp only [bound, Option.some.injEq] at bl
      subst bl
      simp
    | some v =>
      obtain ⟨k, i, rfl, rfl⟩ := hL v rfl
      simp only [bound, Option.some.injEq] at bl
      subst bl
      simp [key _ _ _ _ h0 h1]
  | some u =>
    obtain ⟨k', i', rfl, rfl⟩ := hH u rfl
    simp only [bound, Option.some.injEq] at bh
    subst bh
    have e1 := key k' i' cp
    cases lo with
    | none =>
      rw [hL' rfl] at bl
      simp only [bound, Option.some.injEq] at bl
      subst bl
      simp [e1 _ (by omega) (by omega)]
    | some v =>
      obtain ⟨k, i, rfl, rfl⟩ := hL v rfl
      simp only [bound, Option.some.injEq] at bl
      subst bl
      have : ((i'.toNat : Nat) : Int) = i' := by omega
      simp [e1 _ (by omega) (by omega), key _ _ _ _ h0 (show i ≤ (i'.toNat : Int) by omega)]

theorem run_bounds3 {isSlice : Bool} {n cp : Nat} (hcp : n ≤ cp) {lo : Option Value} {l h m : Int} {L : Option PV} {k' km : IntKind}
    (hL : ∀ v, lo = some v → ∃ k i, v = .int k i ∧ L = some (.int k i)) (hL' : lo = none → L = none)
    (bl : bound 0 L = some l) (h0 : 0 ≤ l) (h1 : l ≤ h) (h2 : h ≤ n) :
    (Instr.sliceBounds isSlice n cp lo (some (.int k' h)) (some (.int km h))).run P w = .ok (l.toNat, h.toNat, h.toNat) w := by
  have key : ∀ (k : IntKind) (i : Int) (y : Nat) (code : BoundsCode), 0 ≤ i → i ≤ y → (Instr.sliceBound (.int k i) y code).run P w = .ok i.toNat w := fun k i y code a b => by
    simp [Instr.sliceBound, asIntOf, a, b]
  unfold Instr.sliceBounds
  have hh : ((h.toNat : Nat) : Int) = h := by omega
  cases lo with
  | none =>
    rw [hL' rfl] at bl
    simp only [bound, Option.some.injEq] at bl
    subst bl
    simp [key _ _ _ _ (show 0 ≤ h by omega) (show h ≤ (cp : Int) by omega), key k' h h.toNat _ (by omega) (by omega)]
  | some v =>
    obtain ⟨k, i, rfl, rfl⟩ := hL v rfl
    simp only [bound, Option.some.injEq] at bl
    subst bl
    simp [key _ _ _ _ (show 0 ≤ h by omega) (show h ≤ (cp : Int) by omega), key k' h h.toNat _ (by omega) (by omega), key k i h.toNat _ h0 (by omega)]

/-- The operands of a slice expression. -/
theorem slice_args {B : Nat → Prop} {ρ : Operand → Value} {T : TypeId} {x : Operand} {lo hi mx : Option Operand} {vals : List PV} {X : PV} {L H M : Option PV} (hr : Reps w B μ ρ vals (Op.slice T x lo hi mx).operands.toList)
    (ha : sliceArgs lo.isSome hi.isSome mx.isSome vals = some (X, L, H, M)) :
    Rep w B μ X (ρ x) ∧ (lo = none → L = none) ∧ (hi = none → H = none) ∧ (mx = none ↔ M = none) ∧ (∀ l, lo = some l → ∃ p, L = some p ∧ Rep w B μ p (ρ l)) ∧ (∀ l, hi = some l → ∃ p, H = some p ∧ Rep w B μ p (ρ l)) ∧
      (∀ l, mx = some l → ∃ p, M = some p ∧ Rep w B μ p (ρ l)) := by
  obtain ⟨hl, hr⟩ := hr
  rcases vals with _ | ⟨p0, _ | ⟨p1, _ | ⟨p2, _ | ⟨p3, _ | ⟨p4, r⟩⟩⟩⟩⟩ <;> cases lo <;> cases hi <;> cases mx <;> simp [sliceArgs] at ha
  all_goals
    obtain ⟨rfl, rfl, rfl, rfl⟩ := ha
    simp only [Op.operands] at hr
    refine ⟨hr 0 _ _ rfl rfl, ?_⟩
    simp
  · exact hr 1 _ _ rfl rfl
  · exact hr 1 _ _ rfl rfl
  · exact ⟨hr 1 _ _ rfl rfl, hr 2 _ _ rfl rfl⟩
  · exact ⟨hr 1 _ _ rfl rfl, hr 2 _ _ rfl rfl⟩
  · exact ⟨hr 1 _ _ rfl rfl, hr 2 _ _ rfl rfl, hr 3 _ _ rfl rfl⟩
end
end Go.V
