/- Part 1 of the proof: what is walked and what is not, the pure interpreter over the code and its soundness, plain laws. -/
import Derived.WalkKit
import Derived.Orders
import Derived.Laws.Cells
import Derived.Laws.IdiomCopy
import Derived.Great.BuildSlice
import Derived.Laws.AppendOwn
import Derived.Laws.CopyRow
import Derived.RangeFuncRecord
import Derived.Lib.Builder
import Derived.Lib.UnsafeStr
import Derived.TacticsIn
import Derived.OrdersIn
import Derived.LoopNIn
set_option linter.unusedSimpArgs false
set_option linter.unusedVariables false
set_option linter.unusedSectionVars false

/- A pure interpreter over the model's own code: values, their reading in a world, the operations' answers. -/
namespace Go.Proofs.YtmcfnnpihlediaaGreatDoor.Ex
open Go

/-- What the pure interpreter holds in a slot. A slice is a list; 'ref' is a pointer to what is never written again; 'row' is a slice of a row that is an object; 'ifc' is what an interface holds; 'pan' stands for a panic. -/
inductive AV where
  | undef
  | int (k : IntKind) (n : Int)
  | bool (b : Bool)
  | str (s : List UInt8)
  | agg (cs : List AV)
  | tup (vs : List AV)
  | sl (sz : Nat) (xs : List AV)
  | ref (x : AV)
  | nilp
  | err (b : Bool)
  | box (id off : Nat)
  | fn (f : FuncId) (first caps : List AV)
  | yld (id : Nat)
  | nils
  | nilf
  | row (id sz off n : Nat)
  | mp (id : Nat)
  | ifc (t : TypeId) (x : AV)
  | pan (x : AV)

def AV.cells : AV → List AV
  | .agg cs => cs
  | v => [v]

abbrev Reads := Addr → Value → Prop

inductive VR (R : Reads) (M : List Nat) : Value → AV → Prop
  | undef : VR R M Go.undef .undef
  | int (k : IntKind) (n : Int) : VR R M (.int k n) (.int k n)
  | bool (b : Bool) : VR R M (.bool b) (.bool b)
  | str (s : List UInt8) : VR R M (.string ⟨s.toArray⟩) (.str s)
  | agg (cs : Array Value) (xs : List AV) (hs : cs.size = xs.length)
      (h : ∀ i (h1 : i < cs.size) (h2 : i < xs.length), VR R M cs[i] xs[i]) : VR R M (.agg cs) (.agg xs)
  | tup (cs : Array Value) (xs : List AV) (hs : cs.size = xs.length) (h0 : xs ≠ [])
      (h : ∀ i (h1 : i < cs.size) (h2 : i < xs.length), VR R M cs[i] xs[i]) : VR R M (.tuple cs) (.tup xs)
  | slnil (sz : Nat) : VR R M (.slice none 0 0) (.sl sz [])
  | sl (a : Addr) (n c sz : Nat) (xs : List AV) (f : Nat → Nat → Value) (hn : n = xs.length) (hc : n ≤ c)
      (hz : ∀ i (h : i < xs.length), xs[i].cells.length = sz)
      (hR : ∀ i j, i < xs.length → j < sz → R (a.add (i * sz + j)) (f i j))
      (hV : ∀ i j (h : i < xs.length) (hj : j < xs[i].cells.length), VR R M (f i j) (xs[i].cells[j])) : VR R M (.slice (some a) n c) (.sl sz xs)
  | ref (a : Addr) (x : AV) (f : Nat → Value)
      (hR : ∀ j, j < x.cells.length → R (a.add j) (f j))
      (hV : ∀ j (hj : j < x.cells.length), VR R M (f j) (x.cells[j])) : VR R M (.pointer (some a)) (.ref x)
  | nilp : VR R M (.pointer none) .nilp
  | errn : VR R M .nilIface (.err false)
  | erry (t : TypeId) (v : Value) : VR R M (.iface t v) (.err true)
  | box (id off b : Nat) (h : M[id]? = some b) : VR R M (.pointer (some ⟨b, off, none⟩)) (.box id off)
  | fn (f : FuncId) (first caps : Array Value) (fs cs : List AV) (h1 : first.size = fs.length) (h2 : caps.size = cs.length)
      (v1 : ∀ i (k1 : i < first.size) (k2 : i < fs.length), VR R M first[i] fs[i]) (v2 : ∀ i (k1 : i < caps.size) (k2 : i < cs.length), VR R M caps[i] cs[i]) :
      VR R M (.func (.func f) first caps) (.fn f fs cs)
  | yld (id l : Nat) (h : M[id]? = some l) : VR R M (.func (.yield l) #[] #[]) (.yld id)
  | nils : VR R M (.slice none 0 0) .nils
  | nilf : VR R M .nilFunc .nilf
  | row (id sz off n c b k : Nat) (h : M[id]? = some b) (hk : M[id + 1]? = some k) (hn : n ≤ c) (hc : off + c * sz ≤ k) (hm : c ≤ maxLen) : VR R M (.slice (some ⟨b, off, none⟩) n c) (.row id sz off n)
  | mp (id b : Nat) (h : M[id]? = some b) : VR R M (.map (some b)) (.mp id)
  | ifc (t : TypeId) (v : Value) (x : AV) (h : VR R M v x) : VR R M (.iface t v) (.ifc t x)

theorem VR.monoM {R R' : Reads} {M M' : List Nat} (h : ∀ a v, R a v → R' a v) (hM : ∀ (i b : Nat), M[i]? = some b → M'[i]? = some b) {v : Value} {x : AV} (hv : VR R M v x) : VR R' M' v x := by
  induction hv with
  | undef => exact .undef
  | int k n => exact .int k n
  | bool b => exact .bool b
  | str s => exact .str s
  | agg cs xs hs _ ih => exact .agg cs xs hs ih
  | tup cs xs hs h0 _ ih => exact .tup cs xs hs h0 ih
  | slnil sz => exact .slnil sz
  | sl a n c sz xs f hn hc hz hR _ ih => exact .sl a n c sz xs f hn hc hz (fun i j hi hj => h _ _ (hR i j hi hj)) ih
  | ref a x f hR _ ih => exact .ref a x f (fun j hj => h _ _ (hR j hj)) ih
  | nilp => exact .nilp
  | errn => exact .errn
  | erry t v => exact .erry t v
  | box id off b hb => exact .box id off b (hM _ _ hb)
  | fn f first caps fs cs h1 h2 _ _ i1 i2 => exact .fn f first caps fs cs h1 h2 i1 i2
  | yld id l hl => exact .yld id l (hM _ _ hl)
  | nils => exact .nils
  | nilf => exact .nilf
  | row id sz off n c b k h1 h2 hn hc hm => exact .row id sz off n c b k (hM _ _ h1) (hM _ _ h2) hn hc hm
  | mp id b hb => exact .mp id b (hM _ _ hb)
  | ifc t v x _ ih => exact .ifc t v x ih

theorem VR.mono {R R' : Reads} {M : List Nat} (h : ∀ a v, R a v → R' a v) {v : Value} {x : AV} (hv : VR R M v x) : VR R' M v x := hv.monoM h fun _ _ h => h

/-- What is read stands in the world, a cell each. -/
def Stab (R : Reads) (w : World) : Prop := ∀ a v, R a v → w.cell? a = some v ∧ v.oneCell' = true

/-- What the world's cells hold. -/
def Mem (w : World) : Reads := fun a v => w.cell? a = some v ∧ v.oneCell' = true
theorem Mem.stab (w : World) : Stab (Mem w) w := fun _ _ h => h

theorem add_add (a : Addr) (x y : Nat) : (a.add x).add y = a.add (x + y) := by
  unfold Addr.add
  by_cases hx : x = 0
  · subst hx; simp
  · by_cases hy : y = 0
    · subst hy; simp
    · simp [hx, hy, Nat.add_assoc]

/-! ### Types -/
inductive U where
  | int (k : IntKind) | str | bool | slice (e : TypeId) | struct (fs : List (TypeId × Nat)) | ptr (e : TypeId) | other

structure Ty where
  size : Nat
  bytes : Nat
  agg : Bool
  u : U
  zero : Option Value

def uOf : TypeDesc → U
  | .int k => .int k
  | .string => .str
  | .bool => .bool
  | .slice e => .slice e
  | .struct fs => .struct (fs.toList.map fun f => (f.type, f.offset))
  | .pointer e => .ptr e
  | _ => .other

def aggOf : TypeDesc → Bool
  | .struct _ | .array _ _ => true
  | _ => false

def tyOf (P : Program) (t : TypeId) : Option Ty :=
  match P.info? t, P.underlying t with
  | some i, some d => some { size := i.size, bytes := i.bytes, agg := aggOf d, u := uOf d, zero := i.zero }
  | _, _ => none

/-! ### Constants -/
def constAV : Value → Option AV
  | .int k n => some (.int k n)
  | .bool b => some (.bool b)
  | .string s => some (.str s.data.toList)
  | .slice none 0 0 => some .nils
  | .pointer none => some .nilp
  | .nilIface => some (.err false)
  | .nilFunc => some .nilf
  | _ => none

theorem constAV_sound {R : Reads} {M : List Nat} {v : Value} {x : AV} (h : constAV v = some x) : VR R M v x := by
  unfold constAV at h
  split at h <;> first | (injection h with h; subst h) | cases h
  · exact .int _ _
  · exact .bool _
  · rename_i s; have e : s = ⟨s.data.toList.toArray⟩ := by cases s; simp
    rw [e]; exact .str _
  · exact .nils
  · exact .nilp
  · exact .errn
  · exact .nilf

abbrev PF := Nat → AV
def upd (pf : PF) (d : Nat) (v : AV) : PF := fun t => if t = d then v else pf t
theorem upd_same (pf : PF) (d : Nat) (v : AV) : upd pf d v d = v := by simp [upd]
theorem upd_ne (pf : PF) {d t : Nat} (v : AV) (h : t ≠ d) : upd pf d v t = pf t := by simp [upd, h]
def updO (pf : PF) (d : Option Nat) (v : AV) : PF := match d with | some d => upd pf d v | none => pf

def opv (pf : PF) : Operand → Option AV
  | .tmp t => some (pf t)
  | .const v => constAV v
  | .func f => some (.fn f [] [])
  | _ => none

/-- The slots hold what the pure frame says. -/
def FrR (R : Reads) (M : List Nat) (tmps : Array Value) (pf : PF) : Prop := ∀ t, VR R M (tmps.getD t Go.undef) (pf t)

theorem opv_sound {R : Reads} {M : List Nat} {a : Act} {pf : PF} (hf : FrR R M a.tmps pf) {x : Operand} {v : AV} (h : opv pf x = some v) : VR R M (a.eval x) v := by
  cases x with
  | tmp t => simp only [opv] at h; injection h with h; subst h; exact hf t
  | const c => exact constAV_sound h
  | global g => cases h
  | func f =>
    simp only [opv] at h; injection h with h; subst h
    exact .fn f #[] #[] [] [] rfl rfl (by simp) (by simp)

end Go.Proofs.YtmcfnnpihlediaaGreatDoor.Ex

/- The pure answers of the plain operations, and that the machine's operations come to them. -/
namespace Go.Proofs.YtmcfnnpihlediaaGreatDoor.Ex
open Go

def binAV (op : BinOp) (x y : AV) : Option AV :=
  match x, y with
  | .int k a, .int k' b =>
    if k = k' then
      match op with
      | .add => some (.int k (k.wrap (a + b)))
      | .sub => some (.int k (k.wrap (a - b)))
      | .mul => some (.int k (k.wrap (a * b)))
      | .quo => if b = 0 then none else some (.int k (k.wrap (a.tdiv b)))
      | .rem => if b = 0 then none else some (.int k (a.tmod b))
      | .eql => some (.bool (a == b))
      | .neq => some (.bool (a != b))
      | .lss => some (.bool (decide (a < b)))
      | .leq => some (.bool (decide (a ≤ b)))
      | .gtr => some (.bool (decide (a > b)))
      | .geq => some (.bool (decide (a ≥ b)))
      | _ => none
    else none
  | .str s, .str t =>
    match op with
    | .add => if s.length + t.length ≤ 9223372036854775807 then some (.str (s ++ t)) else none
    | .eql => some (.bool (s == t))
    | .neq => some (.bool (!(s == t)))
    | .lss => some (.bool (Op.bytesLess s t))
    | .leq => some (.bool (Op.bytesLess s t || s == t))
    | .gtr => some (.bool (!(Op.bytesLess s t || s == t)))
    | .geq => some (.bool (!(Op.bytesLess s t)))
    | _ => none
  | _, _ => none

/-- Comparing truth values. -/
def boolAV (op : BinOp) (a b : Bool) : Option AV :=
  match op with
  | .eql => some (.bool (a == b))
  | .neq => some (.bool (!(a == b)))
  | _ => none

/-- Bounds of a slice expression, of a length. -/
def bnds (lo hi : Option AV) (n : Nat) : Option (Nat × Nat) :=
  match (match hi with | none => some n | some (.int _ h) => if 0 ≤ h ∧ h ≤ (n : Int) then some h.toNat else none | _ => none) with
  | none => none
  | some h =>
    match (match lo with | none => some 0 | some (.int _ l) => if 0 ≤ l ∧ l ≤ (h : Int) then some l.toNat else none | _ => none) with
    | none => none
    | some l => some (l, h)

def partAV (ty : Ty) (cs : List AV) (off : Nat) : Option AV :=
  if ty.agg then (if off + ty.size ≤ cs.length then some (.agg ((cs.drop off).take ty.size)) else none) else cs[off]?

def loadAV (ty : Ty) (v : AV) : Option AV :=
  match v with
  | .agg cs => if ty.agg && cs.length == ty.size then some (.agg cs) else none
  | .tup _ => none
  | .undef => none
  | v => if ty.agg then none else some v

/-- A nil slice, of a type's element size. -/
def nilAV (P : Program) (t : TypeId) : Option AV :=
  match tyOf P t with
  | some { u := .slice e, .. } => match tyOf P e with | some ty => some (.sl ty.size []) | none => none
  | _ => none

/-- What is moved: a nil slice takes its type's element size. -/
def mvAV (P : Program) (t : TypeId) : Option AV → Option AV
  | some .nils => nilAV P t
  | x => x

def isNilSl : Operand → Bool
  | .const (.slice none 0 0) => true
  | _ => false

def evBuiltin (P : Program) (b : Builtin) (args : List Operand) (tys : List TypeId) (pf : PF) : Option AV :=
  match b, args, tys with
  | .len, [x], [t] =>
    (match tyOf P t, opv pf x with
    | some { u := .str, .. }, some (.str s) => some (.int .i64 s.length)
    | some { u := .slice _, .. }, some (.sl _ xs) => some (.int .i64 xs.length)
    | some { u := .slice _, .. }, some (.row _ _ _ n) => some (.int .i64 n)
    | some { u := .slice _, .. }, some .nils => some (.int .i64 0)
    | _, _ => none)
  | .min, [x, y], _ =>
    (match opv pf x, opv pf y with
    | some (.int k a), some (.int k' b) => if k = k' then some (.int k (if b < a then b else a)) else none
    | _, _ => none)
  | .max, [x, y], _ =>
    (match opv pf x, opv pf y with
    | some (.int k a), some (.int k' b) => if k = k' then some (.int k (if a < b then b else a)) else none
    | _, _ => none)
  | _, _, _ => none

def shrAV (a b : AV) : Option AV :=
  match a, b with
  | .int k x, .int _ y => if 0 ≤ y then some (.int k (x.fdiv (2 ^ (min y.toNat k.bits)))) else none
  | _, _ => none

/-- A struct of two texts and a truth value, which can be compared. -/
def eqOk (P : Program) (T : TypeId) : Bool :=
  match P.underlying T with
  | some (.struct F) =>
    (match F.toList with
    | [a, b, c] => a.name != "_" && b.name != "_" && c.name != "_" && a.offset == 0 && b.offset == 1 && c.offset == 2 &&
        (match P.underlying a.type, P.underlying b.type, P.underlying c.type with | some .string, some .string, some .bool => true | _, _, _ => false)
    | _ => false) && !P.stoodInHeld T && !P.eqGuardType P.depth T
  | _ => false
def aggEq (P : Program) (op : BinOp) (T : TypeId) (xs ys : List AV) : Option AV :=
  match xs, ys with
  | [.str a, .str b, .bool c], [.str a', .str b', .bool c'] =>
    if eqOk P T = true then
      (match op with
      | .eql => some (.bool (a == a' && (b == b' && c == c')))
      | .neq => some (.bool (!(a == a' && (b == b' && c == c'))))
      | _ => none)
    else none
  | _, _ => none

/-- A part of a row that is an object. -/
def partRow (id sz off l h : Nat) : AV := if l = 0 then .row id sz off h else if l < h then .row id sz (off + l * sz) (h - l) else .sl sz []
/-- Is it an interface's type? -/
def ifaceT (P : Program) (t : TypeId) : Bool := match P.underlying t with | some (.interface _) => true | _ => false

def evBin (P : Program) (op : BinOp) (T : TypeId) (a b : AV) : Option AV :=
  match op with
  | .shr => shrAV a b
  | op =>
    match a, b with
    | .bool a, .bool b => (match tyOf P T with | some { u := .bool, .. } => boolAV op a b | _ => none)
    | .agg xs, .agg ys => aggEq P op T xs ys
    | a, b => binAV op a b

def evPlain (P : Program) (op : Op) (type : TypeId) (pf : PF) : Option AV :=
  match op with
  | .move x => mvAV P type (opv pf x)
  | .assign x => mvAV P type (opv pf x)
  | .pick c a b =>
    match opv pf c with
    | some (.bool t) => if t then opv pf a else opv pf b
    | _ => none
  | .binOp op T x y _ =>
    match opv pf x, opv pf y with
    | some a, some b => evBin P op T a b
    | _, _ => none
  | .unOp op _ x =>
    match op, opv pf x with
    | .not, some (.bool b) => some (.bool (!b))
    | .neg, some (.int k n) => some (.int k (k.wrap (0 - n)))
    | _, _ => none
  | .convert s d x =>
    match tyOf P s, tyOf P d, opv pf x with
    | some _, some { u := .int k, .. }, some (.int _ n) => some (.int k (k.wrap n))
    | some _, some { u := .str, .. }, some (.str l) => some (.str l)
    | _, _, _ => none
  | .index t x i =>
    match tyOf P t, opv pf x, opv pf i with
    | some { u := .str, .. }, some (.str s), some (.int _ n) =>
      if 0 ≤ n then (match s[n.toNat]? with | some c => some (.int .u8 c.toNat) | none => none) else none
    | _, _, _ => none
  | .slice t x lo hi mx =>
    if mx.isSome then none else
    match lo.mapM (opv pf), hi.mapM (opv pf) with
    | some lo, some hi =>
      match tyOf P t, opv pf x with
      | some { u := .str, .. }, some (.str s) => (bnds lo hi s.length).map fun p => .str ((s.drop p.1).take (p.2 - p.1))
      | some { u := .slice e, .. }, some (.sl sz xs) =>
        (match tyOf P e with
        | some ty => if sz = ty.size then (bnds lo hi xs.length).map fun p => .sl sz ((xs.drop p.1).take (p.2 - p.1)) else none
        | none => none)
      | some { u := .slice e, .. }, some (.row id sz off n) =>
        (match tyOf P e with
        | some ty => if sz = ty.size then (bnds lo hi n).map fun p => partRow id sz off p.1 p.2 else none
        | none => none)
      | _, _ => none
    | _, _ => none
  | .indexAddr t x i =>
    match tyOf P t, opv pf x, opv pf i with
    | some { u := .slice e, .. }, some (.sl sz xs), some (.int _ n) =>
      (match tyOf P e with
      | some ty => if sz = ty.size ∧ 0 ≤ n then (match xs[n.toNat]? with | some v => some (.ref v) | none => none) else none
      | none => none)
    | some { u := .slice e, .. }, some (.row id sz off k), some (.int _ n) =>
      (match tyOf P e with
      | some ty => if sz = ty.size ∧ 0 ≤ n ∧ n.toNat < k then some (.box id (off + n.toNat * sz)) else none
      | none => none)
    | _, _, _ => none
  | .load t x =>
    match tyOf P t, opv pf x with
    | some ty, some (.ref v) => loadAV ty v
    | _, _ => none
  | .field t x f =>
    match tyOf P t, opv pf x with
    | some { u := .struct fs, .. }, some (.agg cs) =>
      (match fs[f]? with
      | some (ft, off) => (match tyOf P ft with | some ty => partAV ty cs off | none => none)
      | none => none)
    | _, _ => none
  | .extract x i =>
    match opv pf x with
    | some (.tup vs) => vs[i]?
    | _ => none
  | .makeInterface t x =>
    match tyOf P t, opv pf x with
    | some _, some v => if ifaceT P t then none else some (.ifc t v)
    | _, _ => none
  | .call c =>
    match c.callee with
    | .builtin b => evBuiltin P b c.args.toList c.argTypes.toList pf
    | _ => none
  | _ => none

/-! ### The machine's side -/
theorem tyOf_some {P : Program} {t : TypeId} {ty : Ty} (h : tyOf P t = some ty) :
    ∃ i d, P.info? t = some i ∧ P.underlying t = some d ∧ ty = { size := i.size, bytes := i.bytes, agg := aggOf d, u := uOf d, zero := i.zero } := by
  unfold tyOf at h
  split at h
  · rename_i i d hi hd
    injection h with h
    exact ⟨i, d, hi, hd, h.symm⟩
  · cases h

section
variable {P : Program} {w : World}
theorem run_und {t : TypeId} {d : TypeDesc} (h : P.underlying t = some d) : (underlying t).run P w = .ok d w := by
  simp [underlying, program, Sem.run, h]
theorem run_info {t : TypeId} {i : TypeInfo} (h : P.info? t = some i) : (typeInfo t).run P w = .ok i w := by
  simp [typeInfo, program, Sem.run, h]
theorem run_size {t : TypeId} {i : TypeInfo} (h : P.info? t = some i) : (sizeOf t).run P w = .ok i.size w := by
  simp [sizeOf, run_info h]
theorem run_isAgg {t : TypeId} {d : TypeDesc} (h : P.underlying t = some d) : (isAgg t).run P w = .ok (aggOf d) w := by
  simp [isAgg, run_und h]
  cases d <;> rfl

theorem toList_mk (l : List UInt8) : (⟨l.toArray⟩ : ByteArray).toList = l := by
  simp

theorem binAV_sound {R : Reads} {M : List Nat} {op : BinOp} {x y : Value} {a b c : AV} (hx : VR R M x a) (hy : VR R M y b) (h : binAV op a b = some c) (T : TypeId) :
    ∃ v, (binOp op T x y).run P w = .ok v w ∧ VR R M v c := by
  unfold binAV at h
  split at h
  · cases hx; cases hy
    split at h
    · rename_i hk; subst hk
      cases op <;> simp at h
      all_goals first
        | (subst h; exact ⟨_, by (simp [binOp, Op.intArith, Op.intCmp, Sem.run_pure]; rfl), by constructor⟩)
        | (obtain ⟨h0, h⟩ := h; subst h; exact ⟨_, by (simp [binOp, Op.intDiv, h0]; rfl), by constructor⟩)
    · cases h
  · cases hx; cases hy
    rename_i s t
    cases op <;> simp at h
    all_goals first
      | (subst h; exact ⟨_, by (simp [binOp, Op.stringOp]; rfl), by constructor⟩)
      | (obtain ⟨h0, h⟩ := h; subst h; refine ⟨.string ⟨(s ++ t).toArray⟩, ?_, .str _⟩
         have h1 : ¬ ((9223372036854775807 : Int) < (s.length : Int) + (t.length : Int)) := by omega
         have h2 : ((⟨s.toArray⟩ : ByteArray) ++ ⟨t.toArray⟩) = ⟨(s ++ t).toArray⟩ := by
           apply ByteArray.ext; simp [ByteArray.data_append]
         simp [binOp, Op.stringOp, h1, ByteArray.size, h2])
  · cases h

theorem binOp_noGuard {R : Reads} {M : List Nat} {op : BinOp} {x y : Value} {a b c : AV} (hx : VR R M x a) (hy : VR R M y b) (h : binAV op a b = some c) (T : TypeId) (X Y : Operand) :
    (eqGuard op T X Y x y).run P w = .ok () w := by
  unfold binAV at h
  split at h
  · cases hx; cases hy
    cases op <;> simp [eqGuard]
  · cases hx; cases hy
    cases op <;> simp [eqGuard]
  · cases h

theorem bnds_sound {R : Reads} {M : List Nat} {lo hi : Option Value} {la ha : Option AV} {n c : Nat} {p : Nat × Nat} {s : Bool}
    (hl : ∀ v, la = some v → ∃ x, lo = some x ∧ VR R M x v) (hl0 : la = none → lo = none)
    (hh : ∀ v, ha = some v → ∃ x, hi = some x ∧ VR R M x v) (hh0 : ha = none → hi = none)
    (h : bnds la ha n = some p) (hc : n ≤ c) :
    (Instr.sliceBounds s n c lo hi none).run P w = .ok (p.1, p.2, c) w ∧ p.1 ≤ p.2 ∧ p.2 ≤ n := by
  unfold bnds at h
  cases ha with
  | none =>
    rw [hh0 rfl]
    cases la with
    | none =>
      rw [hl0 rfl]
      simp at h
      subst h
      simp [Instr.sliceBounds]
    | some l =>
      obtain ⟨x, rfl, hx⟩ := hl l rfl
      simp only at h
      split at h
      · cases h
      · rename_i h1
        cases hx <;> simp at h1
        obtain ⟨⟨h2, h3⟩, h4⟩ := h1
        subst h4
        injection h with h; subst h
        refine ⟨?_, ?_, Nat.le_refl _⟩
        · simp [Instr.sliceBounds, Instr.sliceBound, asIntOf, h2, h3]
        · simp; omega
  | some hv =>
    obtain ⟨y, rfl, hy⟩ := hh hv rfl
    simp only at h
    split at h
    · cases h
    · rename_i hb h1
      cases hy <;> simp at h1
      obtain ⟨⟨h2, h3⟩, h4⟩ := h1
      subst h4
      rename_i hn
      have h5 : hn ≤ (c : Int) := by omega
      have h6 : hn ≤ (n : Int) := h3
      cases la with
      | none =>
        rw [hl0 rfl]
        simp at h
        subst h
        refine ⟨?_, Nat.zero_le _, by simp; omega⟩
        simp [Instr.sliceBounds, Instr.sliceBound, asIntOf, h2, h5]
      | some l =>
        obtain ⟨x, rfl, hx⟩ := hl l rfl
        split at h
        · cases h
        · rename_i h7
          cases hx <;> simp at h7
          obtain ⟨⟨h8, h9⟩, h10⟩ := h7
          subst h10
          injection h with h; subst h
          refine ⟨?_, ?_, by simp; omega⟩
          · have h11 := Int.toNat_of_nonneg h2
            simp [Instr.sliceBounds, Instr.sliceBound, asIntOf, h2, h5, h8, h11]
            omega
          · simp; omega
end
end Go.Proofs.YtmcfnnpihlediaaGreatDoor.Ex

/- The plain operations: the machine's answer is the pure one. -/
namespace Go.Proofs.YtmcfnnpihlediaaGreatDoor.Ex
open Go
section
variable {P : Program} {w : World} {R : Reads} {M : List Nat}

theorem VR.bool_inv {v : Value} {b : Bool} (h : VR R M v (.bool b)) : v = .bool b := by cases h; rfl
theorem VR.int_inv {v : Value} {k : IntKind} {n : Int} (h : VR R M v (.int k n)) : v = .int k n := by cases h; rfl
theorem VR.str_inv {v : Value} {s : List UInt8} (h : VR R M v (.str s)) : v = .string ⟨s.toArray⟩ := by cases h; rfl

theorem VR.agg3 {v : Value} {a b : List UInt8} {c : Bool} (h : VR R M v (.agg [.str a, .str b, .bool c])) : v = .agg #[.string ⟨a.toArray⟩, .string ⟨b.toArray⟩, .bool c] := by
  cases h with
  | agg cs _ hs hall =>
    have h0 := (hall 0 (by simp [hs]) (by simp)).str_inv
    have h1 := (hall 1 (by simp [hs]) (by simp)).str_inv
    have h2 := (hall 2 (by simp [hs]) (by simp)).bool_inv
    congr 1
    apply Array.ext
    · simpa using hs
    · intro i k1 k2
      simp at k2
      match i, k2 with
      | 0, _ => simpa using h0
      | 1, _ => simpa using h1
      | 2, _ => simpa using h2

theorem run_equal3 {T : TypeId} (hok : eqOk P T = true) (a b a' b' : List UInt8) (c c' : Bool) :
    (Op.equal T (.agg #[.string ⟨a.toArray⟩, .string ⟨b.toArray⟩, .bool c]) (.agg #[.string ⟨a'.toArray⟩, .string ⟨b'.toArray⟩, .bool c'])).run P w = .ok (a == a' && (b == b' && c == c')) w := by
  unfold eqOk at hok
  split at hok
  case h_2 => cases hok
  rename_i F hT
  simp only [Bool.and_eq_true, Bool.not_eq_true'] at hok
  obtain ⟨⟨h1, h2⟩, h3⟩ := hok
  split at h1
  case h_2 => cases h1
  rename_i x y z hF
  simp only [Bool.and_eq_true, bne_iff_ne, beq_iff_eq] at h1
  obtain ⟨⟨⟨⟨⟨⟨n1, n2⟩, n3⟩, o1⟩, o2⟩, o3⟩, ht⟩ := h1
  split at ht
  case h_2 => cases ht
  rename_i t1 t2 t3
  have hF' : F = #[x, y, z] := by apply Array.toList_inj.1; simpa using hF
  subst hF'
  have ba : ∀ (p q : List UInt8), ((⟨p.toArray⟩ : ByteArray) == ⟨q.toArray⟩) = (p == q) := by
    intro p q
    show (p.toArray == q.toArray) = _
    simp
  have key : ∀ d, (Op.equalIn (d + 2) T (.agg #[.string ⟨a.toArray⟩, .string ⟨b.toArray⟩, .bool c]) (.agg #[.string ⟨a'.toArray⟩, .string ⟨b'.toArray⟩, .bool c'])).run P w = .ok (a == a' && (b == b' && c == c')) w := by
    intro d
    simp only [Op.equalIn, Sem.run_bind, run_und hT, Result.andThen_ok]
    simp [program, Sem.run, h2, n1, n2, n3, o1, o2, o3, part, run_und t1, run_und t2, run_und t3, isAgg, ba]
    by_cases e1 : a = a' <;> by_cases e2 : b = b' <;> by_cases e3 : c = c' <;> simp [e1, e2, e3]
  exact key 9998

theorem aggOf_struct {d : TypeDesc} {fs : List (TypeId × Nat)} (h : uOf d = .struct fs) : ∃ F, d = .struct F ∧ fs = F.toList.map fun f => (f.type, f.offset) := by
  cases d <;> simp [uOf] at h
  exact ⟨_, rfl, h.symm⟩
theorem uOf_slice {d : TypeDesc} {e : TypeId} (h : uOf d = .slice e) : d = .slice e := by
  cases d <;> simp [uOf] at h
  rw [h]
theorem uOf_str {d : TypeDesc} (h : uOf d = .str) : d = .string := by
  cases d <;> simp [uOf] at h
  rfl
theorem uOf_int {d : TypeDesc} {k : IntKind} (h : uOf d = .int k) : d = .int k := by
  cases d <;> simp [uOf] at h
  rw [h]

theorem tyOf_u {t : TypeId} {ty : Ty} (h : tyOf P t = some ty) : ∃ i d, P.info? t = some i ∧ P.underlying t = some d ∧ ty.size = i.size ∧ ty.bytes = i.bytes ∧ ty.agg = aggOf d ∧ ty.u = uOf d ∧ ty.zero = i.zero := by
  obtain ⟨i, d, hi, hd, rfl⟩ := tyOf_some h
  exact ⟨i, d, hi, hd, rfl, rfl, rfl, rfl, rfl⟩

theorem cells_agg (cs : List AV) : (AV.agg cs).cells = cs := rfl

/-- A load of what is read. -/
theorem load_sound {a : Addr} {x v : AV} {t : TypeId} {ty : Ty} (hs : Stab R w) (h : VR R M (.pointer (some a)) (.ref x)) (ht : tyOf P t = some ty) (hl : loadAV ty x = some v) :
    ∃ u, (loadVar t a).run P w = .ok u w ∧ VR R M u v := by
  obtain ⟨i, d, hi, hd, h1, h2, h3, h4, h5⟩ := tyOf_u ht
  cases h with
  | ref _ _ f hR hV =>
  unfold loadAV at hl
  split at hl
  · rename_i cs
    split at hl
    · rename_i hc
      injection hl with hl; subst hl
      simp only [Bool.and_eq_true, beq_iff_eq] at hc
      have hld := run_loadCells (P := P) w a i.size f (fun j hj => (hs _ _ (hR j (by simp only [AV.cells]; omega))).1)
      refine ⟨.agg ((List.range i.size).map f).toArray, ?_, ?_⟩
      · simp [loadVar, run_isAgg hd, ← h3, hc.1, run_size hi, hld]
      · refine .agg _ _ (by simp; omega) fun j hj1 hj2 => ?_
        have := hV j hj2
        simpa [AV.cells] using this
    · cases hl
  · cases hl
  · cases hl
  · rename_i x' hx1 hx2 hx3
    split at hl
    · cases hl
    · rename_i hagg
      injection hl with hl; subst hl
      have hc : x.cells = [x] := by cases x <;> first | rfl | exact absurd rfl (hx1 _)
      have h0 := hs _ _ (hR 0 (by rw [hc]; simp))
      have hv0 := hV 0 (by rw [hc]; simp)
      have ha : a.add 0 = a := by simp [Addr.add]
      rw [ha] at h0
      refine ⟨f 0, ?_, by simpa [hc] using hv0⟩
      simp [loadVar, run_isAgg hd, ← h3, hagg, run_load, h0.1]

theorem part_sound {cs : Array Value} {xs : List AV} {t : TypeId} {ty : Ty} {off : Nat} {v : AV} (h : VR R M (.agg cs) (.agg xs)) (ht : tyOf P t = some ty) (hl : partAV ty xs off = some v) :
    ∃ u, (part t cs off).run P w = .ok u w ∧ VR R M u v := by
  obtain ⟨i, d, hi, hd, h1, h2, h3, h4, h5⟩ := tyOf_u ht
  cases h with
  | agg _ _ hsz hall =>
  unfold partAV at hl
  by_cases ha : ty.agg = true
  · simp only [ha, if_true] at hl
    split at hl
    · rename_i hle
      injection hl with hl; subst hl
      refine ⟨_, by simp [part, run_isAgg hd, ← h3, ha, run_size hi]; rfl, ?_⟩
      refine .agg _ _ (by simp; omega) fun j hj1 hj2 => ?_
      simp at hj1 hj2
      simpa using hall (off + j) (by omega) (by omega)
    · cases hl
  · simp only [ha, if_false, Bool.false_eq_true] at hl
    obtain ⟨hlt, hv⟩ := List.getElem?_eq_some_iff.1 hl
    subst hv
    have hlt' : off < cs.size := by omega
    refine ⟨cs[off], ?_, hall off hlt' hlt⟩
    simp [part, run_isAgg hd, ← h3, ha, Array.getElem?_eq_getElem hlt']

theorem opvM_sound {a : Act} {pf : PF} (hf : FrR R M a.tmps pf) {x : Option Operand} {y : Option AV} (h : x.mapM (opv pf) = some y) :
    (∀ v, y = some v → ∃ u, x.map a.eval = some u ∧ VR R M u v) ∧ (y = none → x.map a.eval = none) := by
  cases x with
  | none => simp at h; subst h; simp
  | some x =>
    simp at h
    obtain ⟨v, hv, rfl⟩ := h
    exact ⟨fun u hu => by injection hu with hu; subst hu; exact ⟨_, rfl, opv_sound hf hv⟩, by simp⟩

theorem slice_sound {A : Option Addr} {n c sz l h : Nat} {xs : List AV} (hv : VR R M (.slice A n c) (.sl sz xs)) (h1 : l ≤ h) (h2 : h ≤ xs.length) :
    VR R M (.slice (if c = l then A else A.map (·.add (l * sz))) (h - l) (c - l)) (.sl sz ((xs.drop l).take (h - l))) := by
  cases hv with
  | slnil =>
    simp at h2
    subst h2
    have : l = 0 := by omega
    subst this
    simp; exact .slnil _
  | sl a _ _ _ _ f hn hc hz hR hV =>
    subst hn
    by_cases hcl : c = l
    · have e1 : h = l := by omega
      have e2 : xs.length = l := by omega
      simp only [hcl, if_true]
      rw [e1, Nat.sub_self, List.take_zero]
      exact .sl a 0 0 sz [] f rfl (Nat.le_refl _) (by simp) (by simp) (by simp)
    · simp only [hcl, if_false, Option.map_some]
      have hlen : ((xs.drop l).take (h - l)).length = h - l := by simp; omega
      refine .sl _ _ _ _ _ (fun i j => f (l + i) j) hlen.symm (by omega) ?_ ?_ ?_
      · intro i hi
        simp only [List.getElem_take, List.getElem_drop]
        exact hz _ _
      · intro i j hi hj
        rw [hlen] at hi
        rw [add_add, show l * sz + (i * sz + j) = (l + i) * sz + j by rw [Nat.add_mul]; omega]
        exact hR _ _ (by omega) hj
      · intro i j hi hj
        simp only [List.getElem_take, List.getElem_drop] at hj ⊢
        exact hV _ _ _ _

theorem VR.slice_inv {v : Value} {sz : Nat} {xs : List AV} (h : VR R M v (.sl sz xs)) : ∃ A n c, v = .slice A n c ∧ n = xs.length ∧ n ≤ c := by
  cases h with
  | slnil => exact ⟨none, 0, 0, rfl, rfl, Nat.le_refl _⟩
  | sl a n c _ _ f hn hc => exact ⟨some a, n, c, rfl, hn, hc⟩

theorem VR.row_inv {v : Value} {id sz off n : Nat} (h : VR R M v (.row id sz off n)) : ∃ b k c, v = .slice (some ⟨b, off, none⟩) n c ∧ M[id]? = some b ∧ M[id + 1]? = some k ∧ n ≤ c ∧ off + c * sz ≤ k ∧ c ≤ maxLen := by
  cases h with
  | row _ _ _ _ c b k h1 h2 h3 h4 h5 => exact ⟨b, k, c, rfl, h1, h2, h3, h4, h5⟩

theorem addr_add (b off j : Nat) : (⟨b, off, none⟩ : Addr).add j = ⟨b, off + j, none⟩ := by
  unfold Addr.add
  by_cases h : j = 0
  · simp [h]
  · simp [h]

/-- A part of a row that is an object. -/
theorem partRow_sound {b id sz off n c l h : Nat} (hv : VR R M (.slice (some ⟨b, off, none⟩) n c) (.row id sz off n)) (h1 : l ≤ h) (h2 : h ≤ n) :
    VR R M (.slice (if c = l then some ⟨b, off, none⟩ else (some ⟨b, off, none⟩ : Option Addr).map (·.add (l * sz))) (h - l) (c - l)) (partRow id sz off l h) := by
  obtain ⟨b', k, c', he, k1, k2, k3, k4, k5⟩ := hv.row_inv
  injection he with e1 _ e3
  injection e1 with e1; injection e1 with e1
  subst e1 e3
  unfold partRow
  by_cases hl : l = 0
  · subst hl
    rw [if_pos rfl]
    have e : (if c = 0 then some (⟨b, off, none⟩ : Addr) else (some (⟨b, off, none⟩ : Addr)).map (·.add (0 * sz))) = some ⟨b, off, none⟩ := by
      split
      · rfl
      · simp [addr_add]
    rw [e]
    exact .row _ _ _ _ _ _ k k1 k2 (by omega) (by simpa using k4) (by omega)
  · rw [if_neg hl]
    by_cases hlt : l < h
    · rw [if_pos hlt, if_neg (by omega)]
      simp only [Option.map_some, addr_add]
      refine .row _ _ _ _ _ _ k k1 k2 (by omega) ?_ (by omega)
      have : (c - l) * sz + l * sz = c * sz := by rw [← Nat.add_mul]; congr 1; omega
      omega
    · rw [if_neg hlt]
      have : h - l = 0 := by omega
      rw [this]
      split
      · exact .sl _ _ _ _ _ (fun _ _ => Go.undef) rfl (Nat.zero_le _) (by simp) (by simp) (by simp)
      · exact .sl _ _ _ _ _ (fun _ _ => Go.undef) rfl (Nat.zero_le _) (by simp) (by simp) (by simp)

theorem VR.elem {A : Option Addr} {n c sz : Nat} {xs : List AV} (h : VR R M (.slice A n c) (.sl sz xs)) {i : Nat} (hi : i < xs.length) :
    ∃ a, A = some a ∧ VR R M (.pointer (some (a.add (i * sz)))) (.ref xs[i]) := by
  cases h with
  | slnil => simp at hi
  | sl a _ _ _ _ f hn hc hz hR hV =>
    refine ⟨a, rfl, .ref _ _ (f i) (fun j hj => ?_) (fun j hj => hV i j hi hj)⟩
    rw [add_add]
    exact hR i j hi (by rw [← hz i hi]; exact hj)

theorem evPlain_sound {o : Oper} {a : Act} {pf : PF} {x : AV} (hf : FrR R M a.tmps pf) (hs : Stab R w) (h : evPlain P o.op o.type pf = some x) :
    ∃ v, (execOp a.eval o).run P w = .ok (.value v) w ∧ VR R M v x := by
  obtain ⟨dst, op, type, pos, after, guard⟩ := o
  simp only at h
  have mv_sound : ∀ y : Operand, mvAV P type (opv pf y) = some x → VR R M (a.eval y) x := by
    intro y hy
    unfold mvAV at hy
    split at hy
    · rename_i hn
      have hv := opv_sound hf hn
      unfold nilAV at hy
      split at hy
      · split at hy
        · injection hy with hy; subst hy
          generalize a.eval y = u at hv
          cases hv with
          | nils => exact .slnil _
        · cases hy
      · cases hy
    · exact opv_sound hf hy
  cases op <;> try (simp [evPlain] at h; done)
  case move y =>
    simp only [evPlain] at h
    exact ⟨_, by simp [execOp], mv_sound _ h⟩
  case assign y =>
    simp only [evPlain] at h
    exact ⟨_, by simp [execOp], mv_sound _ h⟩
  case pick c y z =>
    simp only [evPlain] at h
    split at h
    · rename_i t hc
      have := (opv_sound hf hc).bool_inv
      cases t
      · exact ⟨a.eval z, by simp [execOp, this, asBool], opv_sound hf (by simpa using h)⟩
      · exact ⟨a.eval y, by simp [execOp, this, asBool], opv_sound hf (by simpa using h)⟩
    · cases h
  case binOp op T y z T2 =>
    simp only [evPlain] at h
    split at h
    · rename_i p q hp hq
      unfold evBin at h
      split at h
      · unfold shrAV at h
        split at h
        · rename_i k m k2 m2
          split at h
          · rename_i hnn
            injection h with h; subst h
            have h1 := (opv_sound hf hp).int_inv
            have h2 := (opv_sound hf hq).int_inv
            have hlt : ¬ m2 < 0 := by omega
            exact ⟨.int k (m.fdiv (2 ^ (min m2.toNat k.bits))), by simp [execOp, h1, h2, binOp, Op.shift, hlt, eqGuard], .int _ _⟩
          · cases h
        · cases h
      · rename_i hshr
        split at h
        · rename_i c d
          split at h
          case h_2 => cases h
          rename_i ht
          obtain ⟨i, u, hi, hu, _, _, _, h6, _⟩ := tyOf_u ht
          have hu' : u = .bool := by
            cases u <;> simp [uOf] at h6
            rfl
          subst hu'
          have h1 := (opv_sound hf hp).bool_inv
          have h2 := (opv_sound hf hq).bool_inv
          unfold boolAV at h
          have heq : (Op.equal T (.bool c) (.bool d)).run P w = .ok (c == d) w := by
            unfold Op.equal Op.maxDepth
            exact run_equalIn_bool' (P := P) w 9999 T c d hu
          cases op <;> simp at h
          · subst h
            exact ⟨.bool (c == d), by simp [execOp, h1, h2, binOp, heq, eqGuard], .bool _⟩
          · subst h
            exact ⟨.bool (!(c == d)), by simp [execOp, h1, h2, binOp, heq, eqGuard], .bool _⟩
        · unfold aggEq at h
          split at h
          case h_2 => cases h
          rename_i c1 c2 c3 d1 d2 d3
          split at h
          case isFalse => cases h
          rename_i hok
          have h1 := (opv_sound hf hp).agg3
          have h2 := (opv_sound hf hq).agg3
          have heq := run_equal3 (w := w) hok c1 c2 d1 d2 c3 d3
          have hgd : P.eqGuardType P.depth T = false := by
            unfold eqOk at hok
            split at hok
            · simp only [Bool.and_eq_true, Bool.not_eq_true'] at hok; exact hok.2
            · cases hok
          cases op <;> simp at h
          · subst h
            exact ⟨_, by simp [execOp, h1, h2, binOp, heq, eqGuard, program, Sem.run, hgd], .bool _⟩
          · subst h
            exact ⟨_, by simp [execOp, h1, h2, binOp, heq, eqGuard, program, Sem.run, hgd], .bool _⟩
        · obtain ⟨v, hv, hr⟩ := binAV_sound (P := P) (w := w) (opv_sound hf hp) (opv_sound hf hq) h T
          have hg := binOp_noGuard (P := P) (w := w) (opv_sound hf hp) (opv_sound hf hq) h T y z
          exact ⟨v, by simp [execOp, hv, hg], hr⟩
    · cases h
  case unOp op T y =>
    simp only [evPlain] at h
    split at h
    · rename_i b hb
      have := (opv_sound hf hb).bool_inv
      injection h with h; subst h
      exact ⟨.bool (!b), by simp [execOp, this, Op.unary], .bool _⟩
    · rename_i k n hb
      have := (opv_sound hf hb).int_inv
      injection h with h; subst h
      exact ⟨.int k (k.wrap (0 - n)), by simp [execOp, this, Op.unary, Op.intArith], .int _ _⟩
    · cases h
  case convert s d y =>
    simp only [evPlain] at h
    split at h
    · rename_i k _ _ n h1 h2 h3
      obtain ⟨i, u, hi, hu, _, _, _, h6, _⟩ := tyOf_u h2
      obtain ⟨i', u', hi', hu', _⟩ := tyOf_u h1
      have := (opv_sound hf h3).int_inv
      injection h with h; subst h
      have hd := uOf_int h6.symm
      subst hd
      exact ⟨.int k (k.wrap n), by simp [execOp, convert, this, run_und hu, run_und hu', Conv.intToInt], .int _ _⟩
    · rename_i l h1 h2 h3
      obtain ⟨i, u, hi, hu, _, _, _, h6, _⟩ := tyOf_u h2
      obtain ⟨i', u', hi', hu', _⟩ := tyOf_u h1
      have := (opv_sound hf h3).str_inv
      injection h with h; subst h
      have hd := uOf_str h6.symm
      subst hd
      exact ⟨.string ⟨l.toArray⟩, by simp [execOp, convert, this, run_und hu, run_und hu'], .str _⟩
    · cases h
  case index t y z =>
    simp only [evPlain] at h
    split at h
    · rename_i s _ n h1 h2 h3
      obtain ⟨i, u, hi, hu, _, _, _, h6, _⟩ := tyOf_u h1
      have hd := uOf_str h6.symm
      subst hd
      have hy := (opv_sound hf h2).str_inv
      have hz := (opv_sound hf h3).int_inv
      split at h
      · rename_i hn
        split at h
        · rename_i c hc
          injection h with h; subst h
          refine ⟨.int .u8 c.toNat, ?_, .int _ _⟩
          have : ((⟨s.toArray⟩ : ByteArray)[n.toNat]?) = some c := by
            obtain ⟨hlt, he⟩ := List.getElem?_eq_some_iff.1 hc
            have : n.toNat < (⟨s.toArray⟩ : ByteArray).size := by simpa [ByteArray.size] using hlt
            rw [getElem?_pos (⟨s.toArray⟩ : ByteArray) n.toNat this]
            simp [ByteArray.getElem_eq_getElem_data, he]
          simp [execOp, Instr.index, hy, hz, run_und hu, asIntOf, hn, this]
        · cases h
      · cases h
    · cases h
  case slice t y lo hi mx =>
    simp only [evPlain] at h
    split at h
    · cases h
    · rename_i hmx
      have hmx' : mx = none := by cases mx <;> simp_all
      subst hmx'
      split at h
      · rename_i la ha hla hha
        obtain ⟨l1, l2⟩ := opvM_sound hf hla
        obtain ⟨h1, h2⟩ := opvM_sound hf hha
        split at h
        · rename_i s ht hy
          obtain ⟨i, u, hi, hu, _, _, _, h6, _⟩ := tyOf_u ht
          have hd := uOf_str h6.symm
          subst hd
          have hyv := (opv_sound hf hy).str_inv
          simp only [Option.map_eq_some_iff] at h
          obtain ⟨p, hp, rfl⟩ := h
          obtain ⟨hr, hle, hle2⟩ := bnds_sound (P := P) (w := w) (s := false) l1 l2 h1 h2 hp (Nat.le_refl _)
          refine ⟨.string ⟨((s.drop p.1).take (p.2 - p.1)).toArray⟩, ?_, .str _⟩
          have hsz : (⟨s.toArray⟩ : ByteArray).size = s.length := by simp [ByteArray.size]
          have hex : (⟨s.toArray⟩ : ByteArray).extract p.1 p.2 = ⟨((s.drop p.1).take (p.2 - p.1)).toArray⟩ := by
            apply ByteArray.ext
            simp [ByteArray.data_extract]
          simp only [execOp, Instr.sliceAt, Instr.slice, hyv, Sem.run_bind, run_und hu, Result.andThen_ok, hsz, Option.map_none, Option.isSome_none]
          simp [hr, hex, hsz]
        · rename_i e sz xs ht hy
          obtain ⟨i, u, hi, hu, _, _, _, h6, _⟩ := tyOf_u ht
          have hd := uOf_slice h6.symm
          subst hd
          split at h
          · rename_i ty hte
            obtain ⟨ie, ue, hie, hue, hsz, _⟩ := tyOf_u hte
            split at h
            · rename_i hsize
              simp only [Option.map_eq_some_iff] at h
              obtain ⟨p, hp, rfl⟩ := h
              have hyv := opv_sound hf hy
              obtain ⟨A, n, c, hv, hn, hc⟩ := hyv.slice_inv
              rw [hv] at hyv
              obtain ⟨hr, hle, hle2⟩ := bnds_sound (P := P) (w := w) (s := true) l1 l2 h1 h2 hp (hn ▸ hc)
              have hs2 := slice_sound hyv hle hle2
              have hsz' : ie.size = sz := by omega
              refine ⟨_, ?_, hs2⟩
              rw [← hn] at hr
              simp [execOp, Instr.sliceAt, Instr.slice, hv, run_und hu, hr, run_size hie, hsz']
            · cases h
          · cases h
        · rename_i e id sz off n ht hy
          obtain ⟨i, u, hi, hu, _, _, _, h6, _⟩ := tyOf_u ht
          have hd := uOf_slice h6.symm
          subst hd
          split at h
          · rename_i ty hte
            obtain ⟨ie, ue, hie, hue, hsz, _⟩ := tyOf_u hte
            split at h
            · rename_i hsize
              simp only [Option.map_eq_some_iff] at h
              obtain ⟨p, hp, rfl⟩ := h
              have hyv := opv_sound hf hy
              obtain ⟨b, k, c, hv, k1, k2, hc, k4, k5⟩ := hyv.row_inv
              rw [hv] at hyv
              obtain ⟨hr, hle, hle2⟩ := bnds_sound (P := P) (w := w) (s := true) l1 l2 h1 h2 hp hc
              have hs2 := partRow_sound hyv hle hle2
              have hsz' : ie.size = sz := by omega
              refine ⟨_, ?_, hs2⟩
              simp [execOp, Instr.sliceAt, Instr.slice, hv, run_und hu, hr, run_size hie, hsz']
            · cases h
          · cases h
        · cases h
      · cases h
  case indexAddr t y z =>
    simp only [evPlain] at h
    split at h
    · rename_i e sz xs _ n h1 h2 h3
      obtain ⟨i, u, hi, hu, _, _, _, h6, _⟩ := tyOf_u h1
      have hd := uOf_slice h6.symm
      subst hd
      split at h
      · rename_i ty hte
        obtain ⟨ie, ue, hie, hue, hsz, _⟩ := tyOf_u hte
        split at h
        · rename_i hc
          obtain ⟨hsize, hn0⟩ := hc
          split at h
          · rename_i v hv
            injection h with h; subst h
            obtain ⟨hlt, he⟩ := List.getElem?_eq_some_iff.1 hv
            subst he
            have hy := opv_sound hf h2
            have hz := (opv_sound hf h3).int_inv
            obtain ⟨A, m, c, hyv, hm, hc⟩ := hy.slice_inv
            rw [hyv] at hy
            obtain ⟨a', rfl, hel⟩ := hy.elem hlt
            refine ⟨_, ?_, hel⟩
            have hsz' : ie.size = sz := by omega
            have hlt2 : n < (m : Int) := by omega
            simp [execOp, Instr.indexAt, hyv, hz, asIntOf, run_und hu, hn0, hlt2, run_size hie, hsz']
          · cases h
        · cases h
      · cases h
    · rename_i e id sz off k _ n h1 h2 h3
      obtain ⟨i, u, hi, hu, _, _, _, h6, _⟩ := tyOf_u h1
      have hd := uOf_slice h6.symm
      subst hd
      split at h
      · rename_i ty hte
        obtain ⟨ie, ue, hie, hue, hsz, _⟩ := tyOf_u hte
        split at h
        · rename_i hc
          obtain ⟨hsize, hn0, hlt⟩ := hc
          injection h with h; subst h
          have hy := opv_sound hf h2
          have hz := (opv_sound hf h3).int_inv
          obtain ⟨b, kk, c, hyv, k1, k2, k3, k4, k5⟩ := hy.row_inv
          have hsz' : ie.size = sz := by omega
          have hlt2 : n < (k : Int) := by omega
          refine ⟨.pointer (some ⟨b, off + n.toNat * sz, none⟩), ?_, .box _ _ _ k1⟩
          simp [execOp, Instr.indexAt, hyv, hz, asIntOf, run_und hu, hn0, hlt2, run_size hie, hsz', addr_add]
        · cases h
      · cases h
    · cases h
  case load t y =>
    simp only [evPlain] at h
    split at h
    · rename_i ty v h1 h2
      have hy := opv_sound hf h2
      obtain ⟨b, hb⟩ : ∃ b, a.eval y = .pointer (some b) := by
        generalize a.eval y = u at hy
        cases hy with
        | ref b _ f hR hV => exact ⟨b, rfl⟩
      rw [hb] at hy
      obtain ⟨u, hu, hr⟩ := load_sound hs hy h1 h
      exact ⟨u, by simp [execOp, Instr.loadAt, Instr.sureAddr, hb, hu], hr⟩
    · cases h
  case field t y f =>
    simp only [evPlain] at h
    split at h
    · rename_i fs cs h1 h2
      obtain ⟨i, u, hi, hu, _, _, _, h6, _⟩ := tyOf_u h1
      obtain ⟨F, rfl, rfl⟩ := aggOf_struct h6.symm
      split at h
      · rename_i ft off hfo
        split at h
        · rename_i ty hty
          have hy := opv_sound hf h2
          obtain ⟨cv, hb⟩ : ∃ cv, a.eval y = .agg cv := by
            generalize a.eval y = u at hy
            cases hy with
            | agg cv _ => exact ⟨cv, rfl⟩
          rw [hb] at hy
          obtain ⟨v, hv, hr⟩ := part_sound (w := w) hy hty h
          simp only [List.getElem?_map, Option.map_eq_some_iff] at hfo
          obtain ⟨fld, hfld, he⟩ := hfo
          injection he with he1 he2
          subst he1 he2
          have hfld' : F[f]? = some fld := by simpa using hfld
          exact ⟨v, by simp [execOp, Instr.field, hb, run_und hu, hfld', asAgg, hv], hr⟩
        · cases h
      · cases h
    · cases h
  case extract y i =>
    simp only [evPlain] at h
    split at h
    · rename_i vs hv
      have hy := opv_sound hf hv
      obtain ⟨cv, hb⟩ : ∃ cv, a.eval y = .tuple cv := by
        generalize a.eval y = u at hy
        cases hy with
        | tup cv _ => exact ⟨cv, rfl⟩
      rw [hb] at hy
      cases hy with
      | tup _ _ hsz h0 hall =>
      obtain ⟨hlt, he⟩ := List.getElem?_eq_some_iff.1 h
      have hlt' : i < cv.size := by omega
      subst he
      exact ⟨cv[i], by simp [execOp, Instr.extract, hb, Array.getElem?_eq_getElem hlt'], hall i hlt' hlt⟩
    · cases h
  case makeInterface t y =>
    simp only [evPlain] at h
    split at h
    · rename_i v h1 h2
      split at h
      · cases h
      · rename_i hni
        obtain ⟨i, u, hi, hu, _⟩ := tyOf_u h1
        injection h with h; subst h
        refine ⟨.iface t (a.eval y), ?_, .ifc _ _ _ (opv_sound hf h2)⟩
        have hu2 : ∀ m, u ≠ .interface m := by
          rintro m rfl
          simp [ifaceT, hu] at hni
        simp only [execOp, Instr.makeInterface, Sem.run_bind, run_und hu, Result.andThen_ok]
        cases u <;> first | simp | exact absurd rfl (hu2 _)
    · cases h
  case call c =>
    obtain ⟨cal, args, tys⟩ := c
    simp only [evPlain] at h
    split at h <;> try (cases h; done)
    rename_i b
    obtain ⟨args⟩ := args
    obtain ⟨tys⟩ := tys
    simp only at h
    unfold evBuiltin at h
    split at h <;> try (cases h; done)
    · rename_i y t
      split at h
      · rename_i s h1 h2
        obtain ⟨i, u, hi, hu, _, _, _, h6, _⟩ := tyOf_u h1
        have hd := uOf_str h6.symm
        subst hd
        have hy := (opv_sound hf h2).str_inv
        injection h with h; subst h
        refine ⟨.int .i64 s.length, ?_, .int _ _⟩
        have hsz : (⟨s.toArray⟩ : ByteArray).size = s.length := by simp [ByteArray.size]
        simp [execOp, resolve, invoke, builtin, Builtin.len_, hy, run_und hu, goInt, hsz]
      · rename_i sz xs h1 h2
        obtain ⟨i, u, hi, hu, _, _, _, h6, _⟩ := tyOf_u h1
        have hd := uOf_slice h6.symm
        subst hd
        obtain ⟨A, n, c, hv, hn, hc⟩ := (opv_sound hf h2).slice_inv
        injection h with h; subst h
        refine ⟨.int .i64 xs.length, ?_, .int _ _⟩
        simp [execOp, resolve, invoke, builtin, Builtin.len_, hv, run_und hu, goInt, hn]
      · rename_i id sz off n h1 h2
        obtain ⟨i, u, hi, hu, _, _, _, h6, _⟩ := tyOf_u h1
        have hd := uOf_slice h6.symm
        subst hd
        obtain ⟨b, k, c, hv, _⟩ := (opv_sound hf h2).row_inv
        injection h with h; subst h
        refine ⟨.int .i64 n, ?_, .int _ _⟩
        simp [execOp, resolve, invoke, builtin, Builtin.len_, hv, run_und hu, goInt]
      · rename_i h1 h2
        obtain ⟨i, u, hi, hu, _, _, _, h6, _⟩ := tyOf_u h1
        have hd := uOf_slice h6.symm
        subst hd
        have hv : a.eval y = .slice none 0 0 := by
          have := opv_sound hf h2
          generalize a.eval y = u at this
          cases this; rfl
        injection h with h; subst h
        refine ⟨.int .i64 0, ?_, .int _ _⟩
        simp [execOp, resolve, invoke, builtin, Builtin.len_, hv, run_und hu, goInt]
      · cases h
    · rename_i y z
      split at h
      · rename_i k p k' q h1 h2
        have hy := (opv_sound hf h1).int_inv
        have hz := (opv_sound hf h2).int_inv
        split at h
        · rename_i hk; subst hk
          injection h with h; subst h
          refine ⟨.int k (if q < p then q else p), ?_, .int _ _⟩
          simp [execOp, resolve, invoke, builtin, Builtin.min_, Builtin.min2, hy, hz]
        · cases h
      · cases h
    · rename_i y z
      split at h
      · rename_i k p k' q h1 h2
        have hy := (opv_sound hf h1).int_inv
        have hz := (opv_sound hf h2).int_inv
        split at h
        · rename_i hk; subst hk
          injection h with h; subst h
          refine ⟨.int k (if p < q then q else p), ?_, .int _ _⟩
          simp [execOp, resolve, invoke, builtin, Builtin.max_, Builtin.max2, hy, hz]
        · cases h
      · cases h

end
end Go.Proofs.YtmcfnnpihlediaaGreatDoor.Ex

/- New rows and append: what is read stays; a row that is owned is appended to. -/
namespace Go.Proofs.YtmcfnnpihlediaaGreatDoor.Ex
open Go Go.RowKit

/-- One step: what is read stays read, what is new lies in new blocks (or in block m, where others don't look). -/
structure St (R : Reads) (w : World) (R' : Reads) (w' : World) (m : Option Nat) : Prop where
  sub : ∀ a v, R a v → R' a v
  new : ∀ a v, R' a v → R a v ∨ some a.block = m ∨ w.heap.size ≤ a.block
  stab : Stab R' w'
  os : w'.os = w.os
  tape : w'.tape = w.tape
  output : w'.output = w.output
  size : w.heap.size ≤ w'.heap.size
  blk : ∀ k, k < w.heap.size → some k ≠ m → w'.heap[k]? = w.heap[k]?

theorem St.refl {R : Reads} {w : World} (h : Stab R w) (m : Option Nat) : St R w R w m :=
  ⟨fun _ _ h => h, fun _ _ h => .inl h, h, rfl, rfl, rfl, Nat.le_refl _, fun _ _ _ => rfl⟩

theorem St.below {R R' : Reads} {w w' : World} (h : St R w R' w' none) : Below w.heap.size w w' :=
  ⟨h.os, h.tape, h.output, h.size, fun k hk => h.blk k hk (by simp)⟩

/-- A row that the call owns: whoever reads it, reads below its length. -/
def OwnV (R : Reads) (base : Nat) (w : World) (v : Value) (sz : Nat) : Prop :=
  v = .slice none 0 0 ∨ ∃ b n c cur e, v = .slice (some ⟨b, 0, none⟩) n c ∧ base ≤ b ∧ w.heap[b]? = some (.cells cur e (0, 0)) ∧ n ≤ c ∧ c ≤ maxLen ∧ cur.size = c * sz ∧
    ∀ a u, R a u → a.block = b → a.off < n * sz

def blockOf : Value → Option Nat
  | .slice (some a) _ _ => some a.block
  | _ => none

theorem OwnV.step {R R' : Reads} {base : Nat} {w w' : World} {v : Value} {sz : Nat} {m : Option Nat} (h : OwnV R base w v sz) (hs : St R w R' w' m) (hne : ∀ b, blockOf v = some b → some b ≠ m) : OwnV R' base w' v sz := by
  rcases h with rfl | ⟨b, n, c, cur, e, rfl, h1, h2, h3, h4, h5, h6⟩
  · exact .inl rfl
  · have hlt : b < w.heap.size := (Array.getElem?_eq_some_iff.1 h2).1
    refine .inr ⟨b, n, c, cur, e, rfl, h1, by rw [hs.blk b hlt (hne b rfl)]; exact h2, h3, h4, h5, fun a u hr hb => ?_⟩
    rcases hs.new a u hr with h | h | h
    · exact h6 a u h hb
    · exact absurd (hb ▸ h) (hne b rfl)
    · omega

theorem add_plain (b j : Nat) : (⟨b, 0, none⟩ : Addr).add j = ⟨b, j, none⟩ := by
  unfold Addr.add; split <;> simp_all

/-- What is read, and some cells more, side by side in a block. -/
def addR (R : Reads) (b lo : Nat) (vals : List Value) : Reads := fun a u => R a u ∨ ∃ j, a = ⟨b, lo + j, none⟩ ∧ vals[j]? = some u

theorem cells_of_block {w : World} {b j : Nat} {cur : Array Value} {e : TypeId} {fz : Nat × Nat} (h : w.heap[b]? = some (.cells cur e fz)) : w.cell? ⟨b, j, none⟩ = cur[j]? := by
  simp [World.cell?, h]

theorem cell_same {w w' : World} {a : Addr} (h : w'.heap[a.block]? = w.heap[a.block]?) : w'.cell? a = w.cell? a := by
  simp [World.cell?, h]

theorem cell_lt {w : World} {a : Addr} {v : Value} (h : w.cell? a = some v) : a.block < w.heap.size := by
  unfold World.cell? at h
  rcases Nat.lt_or_ge a.block w.heap.size with h1 | h1
  · exact h1
  · simp [Array.getElem?_eq_none h1] at h

/-- A new block of cells, all of which are read from now on but for those behind. -/
theorem St.newRow {R : Reads} {w w1 : World} (hs : Stab R w) (vals : List Value) (rest : List Value) (e : TypeId) (h1 : ∀ v ∈ vals, v.oneCell' = true)
    (hw : w1.heap = w.heap ∧ w1.os = w.os ∧ w1.tape = w.tape ∧ w1.output = w.output) :
    St R w (addR R w.heap.size 0 vals) (w1.alloc (.cells (vals ++ rest).toArray e)) none := by
  obtain ⟨hh, ho, ht, hu⟩ := hw
  have hheap : (w1.alloc (.cells (vals ++ rest).toArray e)).heap = w.heap.push (.cells (vals ++ rest).toArray e) := by simp [World.alloc, hh]
  have hnew : (w1.alloc (.cells (vals ++ rest).toArray e)).heap[w.heap.size]? = some (.cells (vals ++ rest).toArray e) := by rw [hheap]; simp
  have hold : ∀ k, k < w.heap.size → (w1.alloc (.cells (vals ++ rest).toArray e)).heap[k]? = w.heap[k]? := fun k hk => by
    rw [hheap, Array.getElem?_push, if_neg (by omega)]
  refine ⟨fun _ _ h => .inl h, ?_, ?_, ho, ht, hu, by rw [hheap]; simp, fun k hk _ => hold k hk⟩
  · rintro a v (h | ⟨j, rfl, hj⟩)
    · exact .inl h
    · exact .inr (.inr (Nat.le_refl _))
  · rintro a v (h | ⟨j, rfl, hj⟩)
    · have := hs a v h
      exact ⟨by rw [cell_same (hold _ (cell_lt this.1))]; exact this.1, this.2⟩
    · obtain ⟨hlt, he⟩ := List.getElem?_eq_some_iff.1 hj
      refine ⟨?_, h1 v (he ▸ List.getElem_mem hlt)⟩
      rw [cells_of_block hnew]
      simp [List.getElem?_append_left hlt, hj]

/-- Cells behind the length of a row that is owned are written. -/
theorem St.inRow {R : Reads} {w : World} (hs : Stab R w) {b lo : Nat} {cur : Array Value} {e : TypeId} (vals : List Value) (h1 : ∀ v ∈ vals, v.oneCell' = true)
    (hb : w.heap[b]? = some (.cells cur e (0, 0))) (hfit : lo + vals.length ≤ cur.size) (hR : ∀ a u, R a u → a.block = b → a.off < lo) :
    St R w (addR R b lo vals) (w.setRow b (cur.toList.take lo ++ vals ++ cur.toList.drop (lo + vals.length)).toArray) (some b) := by
  have hnew := setRow_heap w b cur (cur.toList.take lo ++ vals ++ cur.toList.drop (lo + vals.length)).toArray e (0, 0) hb
  have hlo : lo ≤ cur.size := by omega
  have htl : (cur.toList.take lo).length = lo := by simp; omega
  refine ⟨fun _ _ h => .inl h, ?_, ?_, rfl, rfl, rfl, by simp [World.setRow], fun k hk hne => setRow_other w b k _ (fun h => hne (by rw [h]))⟩
  · rintro a v (h | ⟨j, rfl, hj⟩)
    · exact .inl h
    · exact .inr (.inl rfl)
  · rintro a v (h | ⟨j, rfl, hj⟩)
    · have := hs a v h
      refine ⟨?_, this.2⟩
      by_cases hab : a.block = b
      · have hoff := hR a v h hab
        obtain ⟨ab, ao, sp⟩ := a
        simp only at hab hoff
        subst hab
        have hc := this.1
        simp only [World.cell?, hb] at hc
        split at hc
        · cases hc
        · rename_i hsp
          have hsp' : sp = none := by cases sp <;> simp_all
          subst hsp'
          rw [cells_of_block hnew]
          have h2 : cur.toList[ao]? = some v := by simpa using hc
          simp only [List.getElem?_toArray, List.append_assoc]
          rw [List.getElem?_append_left (by omega), List.getElem?_take, if_pos hoff]
          exact h2
      · rw [cell_setRow_other w b _ a hab]; exact this.1
    · obtain ⟨hlt, he⟩ := List.getElem?_eq_some_iff.1 hj
      refine ⟨?_, h1 v (he ▸ List.getElem_mem hlt)⟩
      rw [cells_of_block hnew]
      simp only [List.getElem?_toArray, List.append_assoc]
      rw [List.getElem?_append_right (by omega), htl, Nat.add_sub_cancel_left, List.getElem?_append_left hlt]
      exact hj

/-! ### A slice's cells as a list -/
theorem divmod {sz i j : Nat} (hj : j < sz) : (i * sz + j) / sz = i ∧ (i * sz + j) % sz = j := by
  have h0 : 0 < sz := by omega
  constructor
  · rw [Nat.mul_comm, Nat.mul_add_div h0, Nat.div_eq_of_lt hj]; omega
  · rw [Nat.mul_comm, Nat.mul_add_mod, Nat.mod_eq_of_lt hj]

/-- The cells of a slice, side by side. -/
theorem VR.list {R : Reads} {M : List Nat} {w : World} (hs : Stab R w) {A : Option Addr} {n c sz : Nat} {xs : List AV} (h : VR R M (.slice A n c) (.sl sz xs)) (hsz : 0 < sz) :
    ∃ (vals : List Value) (f : Nat → Nat → Value), vals.length = n * sz ∧ n = xs.length ∧ n ≤ c ∧ (∀ v ∈ vals, v.oneCell' = true) ∧
      (∀ i (hi : i < xs.length), xs[i].cells.length = sz) ∧
      (∀ i j, i < xs.length → j < sz → vals[i * sz + j]? = some (f i j)) ∧
      (∀ i j (hi : i < xs.length) (hj : j < xs[i].cells.length), VR R M (f i j) (xs[i].cells[j])) ∧
      (∀ a, A = some a → ∀ k u, vals[k]? = some u → R (a.add k) u) ∧ (A = none → n = 0 ∧ c = 0) := by
  cases h with
  | slnil => exact ⟨[], fun _ _ => Go.undef, by simp, rfl, Nat.le_refl _, by simp, by simp, by simp, by simp, by simp, by simp⟩
  | sl a _ _ _ _ f hn hc hz hR hV =>
    have hkey : ∀ k, k < n * sz → k / sz < xs.length ∧ k % sz < sz ∧ k / sz * sz + k % sz = k := fun k hk =>
      ⟨by rw [← hn]; exact Nat.div_lt_of_lt_mul (by rw [Nat.mul_comm]; exact hk), Nat.mod_lt _ hsz, Nat.div_add_mod' k sz⟩
    refine ⟨(List.range (n * sz)).map fun k => f (k / sz) (k % sz), f, by simp, hn, hc, ?_, hz, ?_, hV, ?_, by simp⟩
    · intro v hv
      simp only [List.mem_map, List.mem_range] at hv
      obtain ⟨k, hk, rfl⟩ := hv
      obtain ⟨h1, h2, h3⟩ := hkey k hk
      exact (hs _ _ (hR _ _ h1 h2)).2
    · intro i j hi hj
      have hlt : i * sz + j < n * sz := by
        have : (i + 1) * sz ≤ n * sz := Nat.mul_le_mul_right _ (by omega)
        rw [Nat.add_mul] at this; omega
      rw [List.getElem?_map, List.getElem?_range hlt]
      obtain ⟨h1, h2⟩ := divmod (i := i) hj
      simp [h1, h2]
    · intro a' ha k u hk
      injection ha with ha; subst ha
      simp only [List.getElem?_map, Option.map_eq_some_iff] at hk
      obtain ⟨k', hk', rfl⟩ := hk
      obtain ⟨hlt, he⟩ := List.getElem?_eq_some_iff.1 hk'
      simp at hlt he
      subst he
      obtain ⟨h1, h2, h3⟩ := hkey k hlt
      have := hR _ _ h1 h2
      rwa [h3] at this

/-- Two lists of elements, side by side in a block. -/
theorem VR.join {R : Reads} {M : List Nat} {b n c sz : Nat} {xs ys : List AV} {f g : Nat → Nat → Value}
    (hn : n = (xs ++ ys).length) (hc : n ≤ c) (hzx : ∀ i (hi : i < xs.length), xs[i].cells.length = sz) (hzy : ∀ i (hi : i < ys.length), ys[i].cells.length = sz)
    (hx : ∀ i j, i < xs.length → j < sz → R ⟨b, i * sz + j, none⟩ (f i j)) (hy : ∀ i j, i < ys.length → j < sz → R ⟨b, xs.length * sz + (i * sz + j), none⟩ (g i j))
    (vx : ∀ i j (hi : i < xs.length) (hj : j < xs[i].cells.length), VR R M (f i j) (xs[i].cells[j]))
    (vy : ∀ i j (hi : i < ys.length) (hj : j < ys[i].cells.length), VR R M (g i j) (ys[i].cells[j])) : VR R M (.slice (some ⟨b, 0, none⟩) n c) (.sl sz (xs ++ ys)) := by
  refine .sl _ _ _ _ _ (fun i j => if i < xs.length then f i j else g (i - xs.length) j) hn hc ?_ ?_ ?_
  · intro i hi
    by_cases h : i < xs.length
    · rw [List.getElem_append_left h]; exact hzx i h
    · rw [List.getElem_append_right (by omega)]; exact hzy _ _
  · intro i j hi hj
    rw [add_plain]
    by_cases h : i < xs.length
    · simp only [h, if_true]; exact hx i j h hj
    · simp only [h, if_false]
      have := hy (i - xs.length) j (by simp at hi; omega) hj
      have e : xs.length * sz + ((i - xs.length) * sz + j) = i * sz + j := by
        rw [← Nat.add_assoc, ← Nat.add_mul]; congr 2; omega
      rwa [e] at this
  · intro i j hi hj
    by_cases h : i < xs.length
    · simp only [h, if_true, List.getElem_append_left h] at hj ⊢; exact vx i j h hj
    · simp only [h, if_false, List.getElem_append_right (Nat.le_of_not_lt h)] at hj ⊢; exact vy _ j _ hj

end Go.Proofs.YtmcfnnpihlediaaGreatDoor.Ex

/- Slice literals and append. -/
namespace Go.Proofs.YtmcfnnpihlediaaGreatDoor.Ex
open Go Go.RowKit

def flatAV : AV → Bool
  | .agg _ | .tup _ | .undef => false
  | _ => true

def opvs (pf : PF) : List Operand → Option (List AV)
  | [] => some []
  | x :: r =>
    match opv pf x, opvs pf r with
    | some v, some vs => some (v :: vs)
    | _, _ => none

def evBS (P : Program) (t : TypeId) (n : Nat) (parts : List (Nat × Operand)) (pf : PF) : Option AV :=
  match tyOf P t with
  | some { u := .slice e, .. } =>
    match tyOf P e, opvs pf (parts.map (·.2)) with
    | some ty, some xs =>
      if parts.map (·.1) = List.range n ∧ n * ty.size ≤ 16777216 ∧ 0 < ty.size ∧ ty.zero.isSome = true ∧ (xs.all fun x => x.cells.length == ty.size && x.cells.all flatAV) = true then
        some (.sl ty.size xs)
      else none
    | _, _ => none
  | _ => none

def evApp (P : Program) (args : List Operand) (tys : List TypeId) (pf : PF) : Option AV :=
  match args, tys with
  | [s, y], [t, t'] =>
    if t = t' then
      match tyOf P t with
      | some { u := .slice e, .. } =>
        match tyOf P e, opv pf s, opv pf y with
        | some ty, some (.sl sz xs), some (.sl sz' ys) =>
          if sz = ty.size ∧ sz' = ty.size ∧ 0 < ty.size ∧ 0 < ty.bytes ∧ (ty.zero.map (·.cells.size) == some ty.size) = true ∧ (xs.length + ys.length) * ty.bytes ≤ 140737488355328 then
            some (.sl ty.size (xs ++ ys))
          else none
        | _, _, _ => none
      | _ => none
    else none
  | _, _ => none

section
variable {P : Program} {w : World} {R : Reads} {M : List Nat}

theorem VR.cells {v : Value} {x : AV} (h : VR R M v x) : v.cells.size = x.cells.length ∧ ∀ j (h1 : j < v.cells.size) (h2 : j < x.cells.length), VR R M v.cells[j] x.cells[j] := by
  have one : ∀ (u : Value) (y : AV), VR R M u y → u.cells = #[u] → y.cells = [y] → u.cells.size = y.cells.length ∧ ∀ j (h1 : j < u.cells.size) (h2 : j < y.cells.length), VR R M u.cells[j] y.cells[j] := by
    intro u y hu h1 h2
    refine ⟨by rw [h1, h2]; rfl, fun j hj1 hj2 => ?_⟩
    have : j = 0 := by rw [h2] at hj2; simpa using hj2
    subst this
    simpa [h1, h2] using hu
  cases h with
  | agg cs xs hs hall => exact ⟨hs, hall⟩
  | undef => exact one _ _ .undef rfl rfl
  | int k n => exact one _ _ (.int k n) rfl rfl
  | bool b => exact one _ _ (.bool b) rfl rfl
  | str s => exact one _ _ (.str s) rfl rfl
  | tup cs xs hs h0 hall => exact one _ _ (.tup cs xs hs h0 hall) rfl rfl
  | slnil sz => exact one _ _ (.slnil sz) rfl rfl
  | sl a n c sz xs f hn hc hz hR hV => exact one _ _ (.sl a n c sz xs f hn hc hz hR hV) rfl rfl
  | ref a x f hR hV => exact one _ _ (.ref a x f hR hV) rfl rfl
  | nilp => exact one _ _ .nilp rfl rfl
  | errn => exact one _ _ .errn rfl rfl
  | erry t v => exact one _ _ (.erry t v) rfl rfl
  | box id off b hb => exact one _ _ (.box id off b hb) rfl rfl
  | fn f first caps fs cs h1 h2 v1 v2 => exact one _ _ (.fn f first caps fs cs h1 h2 v1 v2) rfl rfl
  | yld id l hl => exact one _ _ (.yld id l hl) rfl rfl
  | nils => exact one _ _ .nils rfl rfl
  | nilf => exact one _ _ .nilf rfl rfl
  | row id sz off n c b k h1 h2 h3 h4 h5 => exact one _ _ (.row id sz off n c b k h1 h2 h3 h4 h5) rfl rfl
  | mp id b h => exact one _ _ (.mp id b h) rfl rfl
  | ifc t v x h => exact one _ _ (.ifc t v x h) rfl rfl

theorem VR.flat {v : Value} {x : AV} (h : VR R M v x) (hx : flatAV x = true) : v.oneCell' = true := by
  cases h <;> first | rfl | (simp [flatAV] at hx)

theorem opvs_sound {a : Act} {pf : PF} (hf : FrR R M a.tmps pf) : ∀ {xs : List Operand} {vs : List AV}, opvs pf xs = some vs →
    vs.length = xs.length ∧ ∀ i (h1 : i < xs.length) (h2 : i < vs.length), VR R M (a.eval xs[i]) vs[i]
  | [], vs, h => by simp [opvs] at h; subst h; simp
  | x :: r, vs, h => by
    simp only [opvs] at h
    split at h
    · rename_i v vs' hv hvs
      injection h with h; subst h
      obtain ⟨h1, h2⟩ := opvs_sound hf hvs
      refine ⟨by simp [h1], fun i hi1 hi2 => ?_⟩
      cases i with
      | zero => exact opv_sound hf hv
      | succ i => simpa using h2 i (by simpa using hi1) (by simpa using hi2)
    · cases h

theorem zipIdx_parts (a : Act) (parts : List (Nat × Operand)) (n k : Nat) (h : parts.map (·.1) = List.range' k n) :
    parts.map (fun x => (x.1, a.eval x.2)) = ((parts.map fun x => a.eval x.2).zipIdx k).map fun x => (x.2, x.1) := by
  induction parts generalizing n k with
  | nil => rfl
  | cons p r ih =>
    cases n with
    | zero => simp at h
    | succ n =>
      simp only [List.map_cons, List.range'_succ, List.cons.injEq] at h
      simp only [List.map_cons, List.zipIdx_cons]
      rw [ih n (k + 1) h.2, h.1]

theorem evBS_sound {o : Oper} {a : Act} {pf : PF} {x : AV} {t : TypeId} {n : Nat} {parts : Array (Nat × Operand)} (ho : o.op = .buildSlice t n parts)
    (hf : FrR R M a.tmps pf) (hs : Stab R w) (h : evBS P t n parts.toList pf = some x) :
    ∃ v w' R' sz xs, (execOp a.eval o).run P w = .ok (.value v) w' ∧ St R w R' w' none ∧ x = .sl sz xs ∧ VR R' M v x ∧ OwnV R' w.heap.size w' v sz := by
  unfold evBS at h
  split at h
  · rename_i _ _ _ e _ ht
    obtain ⟨i, u, hi, hu, _, _, _, h6, _⟩ := tyOf_u ht
    have hd := uOf_slice h6.symm
    subst hd
    split at h
    · rename_i ty xs hte hxs
      obtain ⟨ie, ue, hie, hue, g1, g2, g3, g4, g5⟩ := tyOf_u hte
      split at h
      · rename_i hc
        obtain ⟨c1, c2, c3, c4, c5⟩ := hc
        injection h with h; subst h
        obtain ⟨hl, hv⟩ := opvs_sound hf hxs
        have hlen : parts.toList.length = n := by
          have := congrArg List.length c1; simpa using this
        obtain ⟨z, hz⟩ : ∃ z, ie.zero = some z := by rw [← g5]; exact Option.isSome_iff_exists.1 c4
        have hxl : xs.length = n := by rw [hl]; simpa using hlen
        let vs := parts.toList.map fun p => a.eval p.2
        have hvsl : vs.length = n := by simp [vs]; simpa using hlen
        have hvr : ∀ k (h1 : k < vs.length) (h2 : k < xs.length), VR R M vs[k] xs[k] := by
          intro k h1 h2
          have := hv k (by simp [vs] at h1; simpa using h1) h2
          simpa [vs] using this
        have hxc : ∀ k (h2 : k < xs.length), xs[k].cells.length = ty.size ∧ ∀ y ∈ xs[k].cells, flatAV y = true := by
          intro k h2
          have := List.all_eq_true.1 c5 xs[k] (List.getElem_mem h2)
          simp only [Bool.and_eq_true, beq_iff_eq, List.all_eq_true] at this
          exact this
        have hvc : ∀ v ∈ vs, v.cells.size = ie.size := by
          intro v hv'
          obtain ⟨k, hk, rfl⟩ := List.getElem_of_mem hv'
          have hk2 : k < xs.length := by omega
          rw [(hvr k hk hk2).cells.1, (hxc k hk2).1, g1]
        have hpos : 0 < ie.size := by omega
        let flat := vs.flatMap fun v => v.cells.toList
        have hfg := Go.Great.flat_get hpos vs hvc
        have hcell : ∀ i j (hi : i < xs.length) (hj : j < xs[i].cells.length), ∃ hj' : j < (vs[i]'(by omega)).cells.size, flat[i * ie.size + j]? = some ((vs[i]'(by omega)).cells[j]) := by
          intro i j hi hj
          have hj2 : j < ie.size := by rw [← g1, ← (hxc i hi).1]; exact hj
          obtain ⟨d1, d2⟩ := divmod (i := i) hj2
          have hvi : i < vs.length := by omega
          have hj' : j < (vs[i]).cells.size := by rw [hvc _ (List.getElem_mem hvi)]; exact hj2
          refine ⟨hj', ?_⟩
          rw [hfg, d1, d2, List.getElem?_eq_getElem hvi]
          simp [Array.getElem?_eq_getElem hj']
        have hone : ∀ v ∈ flat, v.oneCell' = true := by
          intro v hv'
          simp only [flat, List.mem_flatMap] at hv'
          obtain ⟨u, hu', hvu⟩ := hv'
          obtain ⟨k, hk, rfl⟩ := List.getElem_of_mem hu'
          have hk2 : k < xs.length := by omega
          obtain ⟨j, hj, rfl⟩ := List.getElem_of_mem hvu
          have hj1 : j < (vs[k]).cells.size := by simpa using hj
          have hj2 : j < xs[k].cells.length := by rw [← (hvr k hk hk2).cells.1]; exact hj1
          have := (hvr k hk hk2).cells.2 j hj1 hj2
          have hfl := (hxc k hk2).2 _ (List.getElem_mem hj2)
          simpa using this.flat hfl
        have hfl : flat.length = n * ie.size := by
          have key : ∀ l : List Value, (∀ v ∈ l, v.cells.size = ie.size) → (l.flatMap fun v => v.cells.toList).length = l.length * ie.size := by
            intro l
            induction l with
            | nil => intro _; simp
            | cons v r ih =>
              intro hl'
              have h1 := hl' v List.mem_cons_self
              have h2 := ih fun u hu' => hl' u (List.mem_cons_of_mem _ hu')
              simp only [List.flatMap_cons, List.length_append, List.length_cons, h2, Nat.add_mul]
              simp [h1]; omega
          rw [key vs hvc, hvsl]
        have hst := St.newRow (w := w) (w1 := w) hs flat [] e hone ⟨rfl, rfl, rfl, rfl⟩
        rw [List.append_nil] at hst
        have hrun : (Instr.buildSlice t n (parts.map fun (i, x) => (i, a.eval x))).run P w = .ok (.slice (some ⟨w.heap.size, 0, none⟩) n n) (w.alloc (.cells flat.toArray e)) := by
          by_cases hn0 : n = 0
          · subst hn0
            have : parts.toList = [] := List.eq_nil_of_length_eq_zero hlen
            have hp : parts = #[] := by apply Array.toList_inj.1; simpa using this
            subst hp
            simp [Instr.buildSlice, run_und hu, run_size hie, newRow, Instr.fill, flat, vs, newObj, Sem.run]
            rw [show (Array.range 0 : Array Nat) = #[] from Array.toList_inj.1 (by simp)]
            simp
          · have h0 : 0 < n * ie.size := Nat.mul_pos (by omega) hpos
            refine Go.run_buildSlice w t e n _ flat.toArray ie z hu hie hz (by rw [← g1]; omega) (by omega) ?_
            have hz2 := zipIdx_parts a parts.toList n 0 (by rw [c1, List.range_eq_range'])
            have : (parts.map fun (i, x) => (i, a.eval x)).toList = (vs.zipIdx 0).map fun x => (x.2, x.1) := by
              rw [← hz2]; simp
            rw [this]
            exact Go.Great.fill_whole hpos vs _ hvc (by simp [hvsl])
        refine ⟨_, _, _, _, _, by rw [execOp, ho]; simp only []; rw [Sem.run_bind, hrun]; rfl, hst, rfl, ?_, ?_⟩
        · refine .sl _ _ _ _ _ (fun i j => ((vs[i]?.map fun v => v.cells).getD #[])[j]?.getD Go.undef) hxl.symm (Nat.le_refl _) (fun i hi => (hxc i hi).1) ?_ ?_
          · intro i j hi hj
            have hj2 : j < xs[i].cells.length := by rw [(hxc i hi).1]; exact hj
            obtain ⟨hj', hfl⟩ := hcell i j hi hj2
            rw [add_plain]
            refine .inr ⟨i * ty.size + j, by simp, ?_⟩
            have hvi : i < vs.length := by omega
            rw [g1, hfl]
            simp [List.getElem?_eq_getElem hvi, Array.getElem?_eq_getElem hj']
          · intro i j hi hj
            obtain ⟨hj', hfl⟩ := hcell i j hi hj
            have hvi : i < vs.length := by omega
            have := (hvr i hvi hi).cells.2 j hj' hj
            have h2 := this.mono hst.sub
            simpa [List.getElem?_eq_getElem hvi, Array.getElem?_eq_getElem hj'] using h2
        · refine .inr ⟨w.heap.size, n, n, flat.toArray, e, rfl, Nat.le_refl _, (by show (w.heap.push _)[_]? = _; simp), Nat.le_refl _, ?_, ?_, ?_⟩
          · have : n ≤ n * ty.size := Nat.le_mul_of_pos_right _ c3
            unfold maxLen; omega
          · simp [hfl, g1]
          · rintro b u (hr | ⟨j, rfl, hj⟩) hb
            · have := cell_lt (hs _ _ hr).1
              omega
            · obtain ⟨hlt, _⟩ := List.getElem?_eq_some_iff.1 hj
              simp only
              rw [g1]; omega
      · cases h
    · cases h
  · cases h


theorem run_append_room' (t ty e e0 : TypeId) (i : TypeInfo) (ht : P.underlying t = some (.slice e)) (hi : P.info? e = some i)
    (g sLen sCap : Nat) (cur : Array Value) (hg : w.heap[g]? = some (.cells cur e0 (0, 0)))
    (a : Addr) (m c : Nat) (news : List Value) (hl : news.length = m * i.size) (hnews : ∀ j u, news[j]? = some u → w.cell? (a.add j) = some u) (h1 : ∀ u ∈ news, u.oneCell' = true)
    (hroom : sLen + m ≤ sCap) (hfit : sLen * i.size + news.length ≤ cur.size) :
    (Builtin.append_ #[t, t] ty #[.slice (some ⟨g, 0, none⟩) sLen sCap, .slice (some a) m c]).run P w =
      .ok (.slice (some ⟨g, 0, none⟩) (sLen + m) sCap) (w.setRow g (cur.toList.take (sLen * i.size) ++ news ++ cur.toList.drop (sLen * i.size + news.length)).toArray) := by
  have hf := run_firstCells_some (P := P) w i.size m a m c news hl hnews
  have hst := run_storeCells_at P g (sLen * i.size) e0 news 0 cur w hg (by simpa using hfit) h1
  simp only [Nat.add_zero] at hst
  simp [Builtin.append_, run_und ht, run_size hi, Builtin.lenOf, hroom, hf, add_plain, hst]

theorem run_append_zero (t ty e : TypeId) (i : TypeInfo) (ht : P.underlying t = some (.slice e)) (hi : P.info? e = some i) (B A : Option Addr) (n c c' : Nat) (hc : n ≤ c) :
    (Builtin.append_ #[t, t] ty #[.slice B n c, .slice A 0 c']).run P w = .ok (.slice B n c) w := by
  cases A <;> cases B <;> simp [Builtin.append_, run_und ht, run_size hi, Builtin.lenOf, hc, Builtin.firstCells, loadCells, loadCellsFrom, storeCells]

theorem evApp_sound {o : Oper} {a : Act} {pf : PF} {x : AV} {args : Array Operand} {tys : Array TypeId} {base : Nat} {s y : Operand} (hargs : args.toList = [s, y])
    (ho : o.op = .call { callee := .builtin .append, args := args, argTypes := tys })
    (hf : FrR R M a.tmps pf) (hs : Stab R w) (hb : base ≤ w.heap.size) (h : evApp P args.toList tys.toList pf = some x)
    (hown : ∀ sz xs, opv pf s = some (.sl sz xs) → OwnV R base w (a.eval s) sz) :
    ∃ v w' R' sz xs, (execOp a.eval o).run P w = .ok (.value v) w' ∧ St R w R' w' (blockOf (a.eval s)) ∧ x = .sl sz xs ∧ VR R' M v x ∧ OwnV R' base w' v sz ∧
      (∀ b, blockOf v = some b → blockOf (a.eval s) = some b ∨ w.heap.size ≤ b) := by
  obtain ⟨args⟩ := args
  obtain ⟨tys⟩ := tys
  simp only at hargs h
  subst hargs
  unfold evApp at h
  split at h <;> try (cases h; done)
  rename_i s' y' t t' heq
  injection heq with e1 e2; injection e2 with e2 _; subst e1 e2
  split at h
  case isFalse => cases h
  rename_i htt; subst htt
  split at h
  case h_2 => cases h
  rename_i _ _ _ e _ ht
  obtain ⟨i, u, hi, hu, _, _, _, h6, _⟩ := tyOf_u ht
  have hd := uOf_slice h6.symm
  subst hd
  split at h
  case h_2 => cases h
  rename_i ty sz xs sz' ys hte hx hy
  obtain ⟨ie, ue, hie, hue, g1, g2, g3, g4, g5⟩ := tyOf_u hte
  split at h
  case isFalse => cases h
  rename_i hc
  obtain ⟨rfl, rfl, c3, c4, c5, c6⟩ := hc
  injection h with h; subst h
  have hX := opv_sound hf hx
  have hY := opv_sound hf hy
  have hO := hown _ _ hx
  obtain ⟨B, n, c, hvx, hn, hnc⟩ := hX.slice_inv
  obtain ⟨A, m, c', hvy, hm, hmc⟩ := hY.slice_inv
  rw [hvx] at hX hO ⊢
  rw [hvy] at hY
  obtain ⟨z, hz, hzs⟩ : ∃ z, ie.zero = some z ∧ z.cells.size = ty.size := by
    rw [← g5]
    cases hzz : ty.zero with
    | none => rw [hzz] at c5; simp at c5
    | some z => rw [hzz] at c5; exact ⟨z, rfl, by simpa using c5⟩
  have hpos : 0 < ie.size := by omega
  obtain ⟨xv, fx, xl, _, _, xone, xz, xat, xvr, xR, xnil⟩ := hX.list hs c3
  obtain ⟨yv, fy, yl, _, _, yone, yz, yat, yvr, yR, ynil⟩ := hY.list hs c3
  have hcall : ∀ V W, (Builtin.append_ #[t, t] o.type #[.slice B n c, .slice A m c']).run P w = .ok V W → (execOp a.eval o).run P w = .ok (.value V) W := by
    intro V W hr
    rw [execOp, ho]
    simp only [resolve, Sem.run_bind, invoke, builtin, List.map_toArray, List.map_cons, List.map_nil, hvx, hvy]
    simp [hr]
  have hbytes : (n + m) * ie.bytes ≤ 140737488355328 := by rw [← g2, hn, hm]; exact c6
  have hle : n + m ≤ (n + m) * ie.bytes := Nat.le_mul_of_pos_right _ (by omega)
  have hsmall : n + m ≤ 140737488355328 := by omega
  by_cases hm0 : m = 0
  · subst hm0
    have hys : ys = [] := List.eq_nil_of_length_eq_zero hm.symm
    subst hys
    refine ⟨_, _, R, _, _, hcall _ _ (run_append_zero t o.type e ie hu hie B A n c c' hnc), St.refl hs _, rfl, by rw [List.append_nil]; exact hX, hO, fun b hb => .inl hb⟩
  · have hA : ∃ ad, A = some ad := by
      cases A with
      | none => exact absurd (ynil rfl).1 hm0
      | some ad => exact ⟨ad, rfl⟩
    obtain ⟨ad, rfl⟩ := hA
    have hYR := yR ad rfl
    have hnews : ∀ j u, yv[j]? = some u → w.cell? (ad.add j) = some u := fun j u hj => (hs _ _ (hYR j u hj)).1
    have hyl : yv.length = m * ie.size := by rw [yl, g1]
    -- what a new row holds
    have grown : ∀ (cap : Nat), n + m ≤ cap → cap ≤ maxLen → ∀ (w1 : World), (w1.heap = w.heap ∧ w1.os = w.os ∧ w1.tape = w.tape ∧ w1.output = w.output) → ∀ mm,
        St R w (addR R w.heap.size 0 (xv ++ yv)) (w1.alloc (.cells (xv.toArray ++ yv.toArray ++ Builtin.zeroCells z.cells (cap - (n + m))) e)) mm ∧
        VR (addR R w.heap.size 0 (xv ++ yv)) M (.slice (some ⟨w.heap.size, 0, none⟩) (n + m) cap) (.sl ty.size (xs ++ ys)) ∧
        OwnV (addR R w.heap.size 0 (xv ++ yv)) base (w1.alloc (.cells (xv.toArray ++ yv.toArray ++ Builtin.zeroCells z.cells (cap - (n + m))) e)) (.slice (some ⟨w.heap.size, 0, none⟩) (n + m) cap) ty.size := by
      intro cap hcap hcm w1 hw1 mm
      have hcells : (xv.toArray ++ yv.toArray ++ Builtin.zeroCells z.cells (cap - (n + m))) = ((xv ++ yv) ++ (Builtin.zeroCells z.cells (cap - (n + m))).toList).toArray := by
        apply Array.toList_inj.1; simp
      have hst := St.newRow (w1 := w1) hs (xv ++ yv) (Builtin.zeroCells z.cells (cap - (n + m))).toList e (fun v hv => (List.mem_append.1 hv).elim (xone v) (yone v)) hw1
      rw [hcells]
      refine ⟨⟨hst.sub, fun a u hr => (hst.new a u hr).imp_right fun h => h.imp_left (by simp), hst.stab, hst.os, hst.tape, hst.output, hst.size, fun k hk _ => hst.blk k hk (by simp)⟩, ?_, ?_⟩
      · refine VR.join (by simp [hn, hm]) hcap xz yz ?_ ?_ (fun i j hi hj => (xvr i j hi hj).mono hst.sub) (fun i j hi hj => (yvr i j hi hj).mono hst.sub)
        · intro i j hi hj
          refine .inr ⟨i * ty.size + j, by simp, ?_⟩
          have := xat i j hi hj
          rw [List.getElem?_append_left (List.getElem?_eq_some_iff.1 this).1]; exact this
        · intro i j hi hj
          refine .inr ⟨xs.length * ty.size + (i * ty.size + j), by simp, ?_⟩
          have := yat i j hi hj
          rw [List.getElem?_append_right (by rw [xl, hn]; omega), xl, hn, Nat.add_sub_cancel_left]; exact this
      · refine .inr ⟨w.heap.size, n + m, cap, ((xv ++ yv) ++ (Builtin.zeroCells z.cells (cap - (n + m))).toList).toArray, e, rfl, hb, ?_, hcap, hcm, ?_, ?_⟩
        · show (w1.heap.push _)[_]? = _
          rw [hw1.1]; simp
        · simp only [List.size_toArray, List.length_append, Array.length_toList, size_zeroCells, hzs, xl, yl, ← Nat.add_mul]
          congr 1; omega
        · rintro b u (hr | ⟨j, rfl, hj⟩) hb'
          · have := cell_lt (hs _ _ hr).1; omega
          · obtain ⟨hlt, _⟩ := List.getElem?_eq_some_iff.1 hj
            simp only [List.length_append, xl, yl, ← Nat.add_mul] at hlt
            simpa using hlt
    rcases hO with hO | ⟨b, n', cap, cur, e0, hO, k1, k2, k3, k4, k5, k6⟩
    · injection hO with q1 q2 q3
      subst q1 q2 q3
      have hxs : xs = [] := List.eq_nil_of_length_eq_zero hn.symm
      subst hxs
      have hxv : xv = [] := List.eq_nil_of_length_eq_zero (by simpa using xl)
      subst hxv
      have hr := run_append_nil (P := P) w t o.type e ie z hu hie hz ad m c' yv hyl hnews (by omega) (by omega) (by simp only [Nat.zero_add] at hbytes; omega)
      obtain ⟨r1, r2, r3⟩ := grown (grownCap w m 0 e) (by simpa using grownCap_ge w m 0 e) (grownCap_le_maxLen w m 0 e (by unfold maxLen; omega)) w.drew ⟨rfl, rfl, rfl, rfl⟩ (blockOf (.slice none 0 0))
      simp only [Nat.zero_add, List.nil_append, Array.empty_append] at r1 r2 r3
      exact ⟨_, _, _, _, _, hcall _ _ hr, r1, rfl, r2, r3, fun b hb => .inr (by simp [blockOf] at hb; omega)⟩
    · injection hO with q1 q2 q3
      subst q1 q2 q3
      by_cases hroom : n + m ≤ c
      · have hfit : n * ie.size + yv.length ≤ cur.size := by rw [hyl, k5, g1, ← Nat.add_mul]; exact Nat.mul_le_mul_right _ hroom
        have hr := run_append_room' (P := P) (w := w) t o.type e e0 ie hu hie b n c cur k2 ad m c' yv hyl hnews yone hroom hfit
        rw [← g1] at hr hfit
        have hst := St.inRow hs (lo := n * ty.size) yv yone k2 hfit k6
        refine ⟨_, _, _, _, _, hcall _ _ hr, hst, rfl, ?_, ?_, fun b hb => .inl hb⟩
        · refine VR.join (by simp [hn, hm]) hroom xz yz ?_ ?_ (fun i j hi hj => (xvr i j hi hj).mono hst.sub) (fun i j hi hj => (yvr i j hi hj).mono hst.sub)
          · intro i j hi hj
            have := xR ⟨b, 0, none⟩ rfl _ _ (xat i j hi hj)
            rw [add_plain] at this
            exact .inl this
          · intro i j hi hj
            exact .inr ⟨i * ty.size + j, by rw [hn], yat i j hi hj⟩
        · refine .inr ⟨b, n + m, c, _, e0, rfl, k1, setRow_heap w b cur _ e0 (0, 0) k2, hroom, k4, ?_, ?_⟩
          · simp only [List.size_toArray, List.length_append, List.length_take, List.length_drop, Array.length_toList]
            omega
          · rintro q u (hr | ⟨j, rfl, hj⟩) hb'
            · have := k6 q u hr hb'
              have : n * ty.size ≤ (n + m) * ty.size := Nat.mul_le_mul_right _ (by omega)
              omega
            · obtain ⟨hlt, _⟩ := List.getElem?_eq_some_iff.1 hj
              rw [yl] at hlt
              simp only [Nat.add_mul]; omega
      · have hXR := xR ⟨b, 0, none⟩ rfl
        have hr := run_append_grow (P := P) w t o.type e ie z hu hie hz ⟨b, 0, none⟩ n c xv (by rw [xl, g1]) (fun j u hj => (hs _ _ (hXR j u hj)).1) ad m c' yv hyl hnews (by omega) (by omega) (growslice_fits (by omega) hbytes)
        obtain ⟨r1, r2, r3⟩ := grown (grownCap w (n + m) c e) (grownCap_ge w (n + m) c e) (grownCap_le_maxLen w (n + m) c e (by unfold maxLen; omega)) w.drew ⟨rfl, rfl, rfl, rfl⟩ (blockOf (.slice (some ⟨b, 0, none⟩) n c))
        exact ⟨_, _, _, _, _, hcall _ _ hr, r1, rfl, r2, r3, fun b hb => .inr (by simp [blockOf] at hb; omega)⟩

end
end Go.Proofs.YtmcfnnpihlediaaGreatDoor.Ex

/- Objects in memory: variables, accumulators, loops; the state that goes along. -/
namespace Go.Proofs.YtmcfnnpihlediaaGreatDoor.Ex
open Go Go.RowKit

structure LoopA where
  state : LoopState
  pending : Option Code
  pf : PF
  nt : Nat
  params : List Nat
  assign : Code
  body : Code

/-- An object: a variable of some cells; a variable that holds a row that none else appends to; the record of a range over a function;
    a block for deferred calls; a builder; what is gone; a row that is written to (its capacity is the number behind its own); a map. -/
inductive Ob where
  | cells (cs : List AV)
  | acc (sz : Nat) (xs : List AV)
  | loop (r : LoopA)
  | dfr
  | bld (tb te : TypeId) (s : List UInt8)
  | gone
  | rowo (id : Nat) (cs : List AV)
  | mapo (es : List (AV × AV))

abbrev Obs := List Ob
abbrev BL := List (Nat × List Nat)
def mains (bl : BL) : List Nat := bl.map (·.1)
def fp (bl : BL) : List Nat := bl.flatMap fun p => p.2

inductive Cal where
  | f (id : FuncId)
  | y (id : Nat)

abbrev CallT := Cal → List AV → Obs → Option (List AV × Obs)

/-- A builder, of a type, with a buffer of its own. -/
def BldR (R : Reads) (w : World) (p : Nat × List Nat) (tb te : TypeId) (s : List UInt8) : Prop :=
  (∀ a u, R a u → a.block ≠ p.1 ∧ a.block ∉ p.2) ∧ ∃ q v, (q = .pointer none ∨ q = .pointer (some ⟨p.1, 0, none⟩)) ∧ w.heap[p.1]? = some (.cells #[q, v] tb (0, 0)) ∧
    w.ownsRow 0 te 1 v s.length (Lib.byteCells s) ∧ v.ownBlock ≠ some p.1 ∧ ∀ b, v.ownBlock = some b → b ∈ p.2

/-- What an object is in the world. -/
def ObR (LOK : LoopA → Prop) (R : Reads) (M : List Nat) (w : World) (p : Nat × List Nat) : Ob → Prop
  | .cells cs => p.2 = [p.1] ∧ (∀ a u, R a u → a.block ≠ p.1) ∧ ∃ vals e, w.heap[p.1]? = some (.cells vals e (0, 0)) ∧ vals.size = cs.length ∧
      ∀ j (h1 : j < vals.size) (h2 : j < cs.length), VR R M vals[j] cs[j] ∧ vals[j].oneCell' = true
  | .acc sz xs => ∃ q, p.2 = p.1 :: q ∧ (∀ a u, R a u → a.block ≠ p.1) ∧ ∃ v e, w.heap[p.1]? = some (.cells #[v] e (0, 0)) ∧ v.oneCell' = true ∧ VR R M v (.sl sz xs) ∧ OwnV R 0 w v sz ∧
      (∀ b, blockOf v = some b → b ∈ q)
  | .loop r => p.2 = [p.1] ∧ LOK r ∧ ∃ rec, w.heap[p.1]? = some (.loop rec) ∧ rec.state = r.state ∧ rec.pending = r.pending ∧ rec.params.toList = r.params ∧ rec.assign = r.assign ∧
      rec.body = r.body ∧ rec.tmps.size = r.nt ∧ FrR R M rec.tmps r.pf
  | .dfr => p.2 = [p.1] ∧ w.heap[p.1]? = some (.deferred (some []))
  | .bld tb te s => ∃ q, p.2 = p.1 :: q ∧ BldR R w (p.1, q) tb te s
  | .gone => True
  | .rowo id cs => p.2 = [p.1] ∧ M[id]? = some p.1 ∧ (∀ a u, R a u → a.block ≠ p.1) ∧ ∃ vals e k, w.heap[p.1]? = some (.cells vals e (0, 0)) ∧ M[id + 1]? = some k ∧ k ≤ vals.size ∧ cs.length ≤ vals.size ∧
      ∀ j (h1 : j < vals.size) (h2 : j < cs.length), VR R M vals[j] cs[j] ∧ vals[j].oneCell' = true
  | .mapo es => p.2 = [p.1] ∧ (∀ a u, R a u → a.block ≠ p.1) ∧ ∃ E c, w.heap[p.1]? = some (.map E c) ∧ E.size = es.length ∧
      ∀ j (h1 : j < E.size) (h2 : j < es.length), VR R M E[j].key es[j].1 ∧ VR R M E[j].val es[j].2

structure SR (LOK : LoopA → Prop) (R : Reads) (bl : BL) (w : World) (S : Obs) : Prop where
  len : bl.length = S.length
  nodup : (fp bl).Nodup
  lt : ∀ k ∈ fp bl, k < w.heap.size
  obj : ∀ (i : Nat) (p : Nat × List Nat) (o : Ob), bl[i]? = some p → S[i]? = some o → ObR LOK R (mains bl) w p o

/-- One step, the objects' blocks set aside. -/
structure Stp (R : Reads) (bl : BL) (w : World) (R' : Reads) (bl' : BL) (w' : World) : Prop where
  sub : ∀ a v, R a v → R' a v
  new : ∀ a v, R' a v → R a v ∨ a.block ∈ fp bl ∨ w.heap.size ≤ a.block
  stab : Stab R' w'
  os : w'.os = w.os
  tape : w'.tape = w.tape
  output : w'.output = w.output
  size : w.heap.size ≤ w'.heap.size
  blk : ∀ k, k < w.heap.size → k ∉ fp bl → w'.heap[k]? = w.heap[k]?
  main : ∀ (i b : Nat), (mains bl)[i]? = some b → (mains bl')[i]? = some b
  foot : ∀ k ∈ fp bl', k ∈ fp bl ∨ w.heap.size ≤ k

theorem Stp.refl {R : Reads} {bl : BL} {w : World} (h : Stab R w) : Stp R bl w R bl w :=
  ⟨fun _ _ h => h, fun _ _ h => .inl h, h, rfl, rfl, rfl, Nat.le_refl _, fun _ _ _ => rfl, fun _ _ h => h, fun _ h => .inl h⟩

theorem Stp.trans {R0 R1 R2 : Reads} {b0 b1 b2 : BL} {w0 w1 w2 : World} (h : Stp R0 b0 w0 R1 b1 w1) (k : Stp R1 b1 w1 R2 b2 w2) : Stp R0 b0 w0 R2 b2 w2 := by
  refine ⟨fun a v hr => k.sub _ _ (h.sub _ _ hr), fun a v hr => ?_, k.stab, k.os.trans h.os, k.tape.trans h.tape, k.output.trans h.output, Nat.le_trans h.size k.size, fun i hi hn => ?_, fun i b hb => k.main _ _ (h.main _ _ hb), fun i hi => ?_⟩
  · rcases k.new a v hr with h1 | h1 | h1
    · exact h.new a v h1
    · exact .inr (h.foot _ h1)
    · have := h.size; exact .inr (.inr (by omega))
  · rw [k.blk i (Nat.lt_of_lt_of_le hi h.size) fun hm => ?_, h.blk i hi hn]
    rcases h.foot i hm with h1 | h1
    · exact hn h1
    · omega
  · rcases k.foot i hi with h1 | h1
    · exact h.foot i h1
    · have := h.size; exact .inr (by omega)

theorem mem_fp {bl : BL} {k : Nat} : k ∈ fp bl ↔ ∃ p ∈ bl, k ∈ p.2 := by
  simp only [fp, List.mem_flatMap]

theorem fp_at {bl : BL} {i : Nat} {p : Nat × List Nat} (h : bl[i]? = some p) : ∀ k ∈ p.2, k ∈ fp bl := by
  have hm := List.mem_of_getElem? h
  exact fun k hk => mem_fp.2 ⟨p, hm, hk⟩

theorem mains_at {bl : BL} {i : Nat} {p : Nat × List Nat} (h : bl[i]? = some p) : (mains bl)[i]? = some p.1 := by
  simp [mains, h]
theorem mains_inv {bl : BL} {i b : Nat} (h : (mains bl)[i]? = some b) : ∃ p, bl[i]? = some p ∧ p.1 = b := by
  simp only [mains, List.getElem?_map, Option.map_eq_some_iff] at h
  obtain ⟨p, h1, h2⟩ := h
  exact ⟨p, h1, h2⟩

/-- Two objects share no block. -/
theorem fp_apart {bl : BL} (hn : (fp bl).Nodup) : ∀ {i j : Nat} {p q : Nat × List Nat}, bl[i]? = some p → bl[j]? = some q → i ≠ j → ∀ k, k ∈ p.2 → ¬ k ∈ q.2 := by
  induction bl with
  | nil => intro i j p q h; simp at h
  | cons x r ih =>
    have hd : fp (x :: r) = x.2 ++ fp r := rfl
    rw [hd] at hn
    obtain ⟨h1, h2, h3⟩ := List.nodup_append.1 hn
    intro i j p q hi hj hne k hk hk'
    cases i with
    | zero =>
      simp at hi; subst hi
      cases j with
      | zero => exact hne rfl
      | succ j =>
        simp at hj
        exact h3 k hk k (mem_fp.2 ⟨q, List.mem_of_getElem? hj, hk'⟩) rfl
    | succ i =>
      simp at hi
      cases j with
      | zero =>
        simp at hj; subst hj
        exact h3 k hk' k (mem_fp.2 ⟨p, List.mem_of_getElem? hi, hk⟩) rfl
      | succ j =>
        simp at hj
        exact ih h2 hi hj (by omega) k hk hk'

section
variable {LOK : LoopA → Prop} {R R' : Reads} {w w' : World} {M M' : List Nat} {p : Nat × List Nat} {o : Ob} {bl : BL} {S : Obs}

theorem OwnV.keep {base : Nat} {v : Value} {sz : Nat} (h : OwnV R base w v sz) (hsub : ∀ a u, R' a u → R a u ∨ ∀ b, blockOf v = some b → a.block ≠ b) (hb : ∀ b, blockOf v = some b → w'.heap[b]? = w.heap[b]?) : OwnV R' base w' v sz := by
  rcases h with rfl | ⟨b, n, c, cur, e, rfl, h1, h2, h3, h4, h5, h6⟩
  · exact .inl rfl
  · refine .inr ⟨b, n, c, cur, e, rfl, h1, by rw [hb b rfl]; exact h2, h3, h4, h5, fun a u hr hab => ?_⟩
    rcases hsub a u hr with h | h
    · exact h6 a u h hab
    · exact absurd hab (h b rfl)

theorem _root_.Go.World.ownsRow.same {base : Nat} {e : TypeId} {size : Nat} {v : Value} {n : Nat} {xs : List Value} (h : w.ownsRow base e size v n xs) (hb : ∀ b, v.ownBlock = some b → w'.heap[b]? = w.heap[b]?) :
    w'.ownsRow base e size v n xs := by
  refine ⟨h.1, ?_⟩
  rcases h.2 with h1 | ⟨g, cap, cur, rfl, k1, k2, k3⟩
  · exact .inl h1
  · exact .inr ⟨g, cap, cur, rfl, k1, by rw [hb g rfl]; exact k2, k3⟩

/-- An object stays what it is, where its blocks stay and nothing new is read in them. -/
theorem ObR.keep (h : ObR LOK R M w p o) (hsub : ∀ a v, R a v → R' a v) (hM : ∀ (i b : Nat), M[i]? = some b → M'[i]? = some b)
    (hnew : ∀ a v, R' a v → R a v ∨ ¬ a.block ∈ p.2) (hb : ∀ k ∈ p.2, w'.heap[k]? = w.heap[k]?) : ObR LOK R' M' w' p o := by
  have noR : p.1 ∈ p.2 → (∀ a u, R a u → a.block ≠ p.1) → ∀ a u, R' a u → a.block ≠ p.1 := by
    intro hm hR a u hr
    rcases hnew a u hr with h2 | h2
    · exact hR a u h2
    · exact fun e => h2 (e ▸ hm)
  cases o with
  | cells cs =>
    obtain ⟨g1, g2, vals, e, g3, g4, g5⟩ := h
    have hm : p.1 ∈ p.2 := by rw [g1]; simp
    exact ⟨g1, noR hm g2, vals, e, by rw [hb _ hm]; exact g3, g4, fun j k1 k2 => ⟨(g5 j k1 k2).1.monoM hsub hM, (g5 j k1 k2).2⟩⟩
  | acc sz xs =>
    obtain ⟨q, g1, g2, v, e, g3, g4, g5, g6, g7⟩ := h
    have hm : p.1 ∈ p.2 := by rw [g1]; simp
    have g8 : ∀ b, blockOf v = some b → b ∈ p.2 := fun b hbv => by rw [g1]; exact List.mem_cons_of_mem _ (g7 b hbv)
    refine ⟨q, g1, noR hm g2, v, e, by rw [hb _ hm]; exact g3, g4, g5.monoM hsub hM, g6.keep (fun a u hr => ?_) (fun b hbv => hb b (g8 b hbv)), g7⟩
    rcases hnew a u hr with h2 | h2
    · exact .inl h2
    · exact .inr fun b hbv e => h2 (e ▸ g8 b hbv)
  | loop r =>
    obtain ⟨g1, g2, rec, g3, g4, g5, g6, g7, g8, g9, g10⟩ := h
    have hm : p.1 ∈ p.2 := by rw [g1]; simp
    exact ⟨g1, g2, rec, by rw [hb _ hm]; exact g3, g4, g5, g6, g7, g8, g9, fun t => (g10 t).monoM hsub hM⟩
  | dfr => exact ⟨h.1, by rw [hb _ (by rw [h.1]; simp)]; exact h.2⟩
  | bld tb te s =>
    obtain ⟨qq, g0, g1, q, v, g2, g3, g4, g5, g6⟩ := h
    have hm : p.1 ∈ p.2 := by rw [g0]; simp
    have g8 : ∀ b ∈ qq, b ∈ p.2 := fun b hbv => by rw [g0]; exact List.mem_cons_of_mem _ hbv
    refine ⟨qq, g0, fun a u hr => ?_, q, v, g2, by rw [hb _ hm]; exact g3, g4.same (fun b hbv => hb b (g8 b (g6 b hbv))), g5, g6⟩
    rcases hnew a u hr with h2 | h2
    · exact g1 a u h2
    · exact ⟨fun e => h2 (by rw [e]; exact hm), fun e => h2 (g8 _ e)⟩
  | gone => trivial
  | rowo id cs =>
    obtain ⟨g1, g0, g2, vals, e, k, g3, g4, g5, g6, g7⟩ := h
    have hm : p.1 ∈ p.2 := by rw [g1]; simp
    exact ⟨g1, hM _ _ g0, noR hm g2, vals, e, k, by rw [hb _ hm]; exact g3, hM _ _ g4, g5, g6, fun j k1 k2 => ⟨(g7 j k1 k2).1.monoM hsub hM, (g7 j k1 k2).2⟩⟩
  | mapo es =>
    obtain ⟨g1, g2, E, c, g3, g4, g5⟩ := h
    have hm : p.1 ∈ p.2 := by rw [g1]; simp
    exact ⟨g1, noR hm g2, E, c, by rw [hb _ hm]; exact g3, g4, fun j k1 k2 => ⟨(g5 j k1 k2).1.monoM hsub hM, (g5 j k1 k2).2.monoM hsub hM⟩⟩

/-- No object is touched. -/
theorem SR.keep (h : SR LOK R bl w S) (hsub : ∀ a v, R a v → R' a v) (hnew : ∀ a v, R' a v → R a v ∨ a.block ∉ fp bl) (hsz : w.heap.size ≤ w'.heap.size)
    (hb : ∀ k ∈ fp bl, w'.heap[k]? = w.heap[k]?) : SR LOK R' bl w' S := by
  refine ⟨h.len, h.nodup, fun k hk => Nat.lt_of_lt_of_le (h.lt k hk) hsz, fun i p o hi ho => (h.obj i p o hi ho).keep hsub (fun _ _ h => h) (fun a v hr => ?_) fun k hk => ?_⟩
  · rcases hnew a v hr with h1 | h1
    · exact .inl h1
    · exact .inr fun h2 => h1 (fp_at hi _ h2)
  · exact hb _ (fp_at hi _ hk)

end
end Go.Proofs.YtmcfnnpihlediaaGreatDoor.Ex

/- The operations with objects: their pure answers. -/
namespace Go.Proofs.YtmcfnnpihlediaaGreatDoor.Ex
open Go Go.RowKit

mutual
def noBox : AV → Bool
  | .box _ _ => false
  | .yld _ => false
  | .agg cs => noBoxL cs
  | .tup cs => noBoxL cs
  | .sl _ cs => noBoxL cs
  | .ref x => noBox x
  | .fn _ fs cs => noBoxL fs && noBoxL cs
  | .undef => true
  | .int _ _ => true
  | .bool _ => true
  | .str _ => true
  | .nilp => true
  | .err _ => true
  | .nils => true
  | .nilf => true
  | .row _ _ _ _ => false
  | .mp _ => false
  | .ifc _ x => noBox x
  | .pan _ => false
def noBoxL : List AV → Bool
  | [] => true
  | x :: r => noBox x && noBoxL r
end

theorem noBoxL_at {l : List AV} (h : noBoxL l = true) : ∀ i (hi : i < l.length), noBox l[i] = true := by
  induction l with
  | nil => intro i hi; simp at hi
  | cons x r ih =>
    simp only [noBoxL, Bool.and_eq_true] at h
    intro i hi
    cases i with
    | zero => exact h.1
    | succ i => exact ih h.2 i (by simpa using hi)

theorem noBoxL_map {α : Type} (f : α → AV) (h : ∀ x, noBox (f x) = true) (l : List α) : noBoxL (l.map f) = true := by
  induction l with
  | nil => rfl
  | cons x r ih => simp [noBoxL, h x, ih]

theorem noBox_cells {x : AV} (h : noBox x = true) : ∀ j (hj : j < x.cells.length), noBox x.cells[j] = true := by
  intro j hj
  cases x with
  | agg cs => simp only [noBox] at h; exact noBoxL_at (l := cs) h j hj
  | _ => have : j = 0 := by (simp [AV.cells] at hj; exact hj)
         subst this; simpa [AV.cells] using h

theorem VR.noBox {R : Reads} {M M' : List Nat} {v : Value} {x : AV} (hv : VR R M v x) : noBox x = true → VR R M' v x := by
  induction hv with
  | undef => intro _; exact .undef
  | int k n => intro _; exact .int k n
  | bool b => intro _; exact .bool b
  | str s => intro _; exact .str s
  | agg cs xs hs _ ih => intro h; simp only [Ex.noBox] at h; exact .agg cs xs hs fun i h1 h2 => ih i h1 h2 (noBoxL_at h i h2)
  | tup cs xs hs h0 _ ih => intro h; simp only [Ex.noBox] at h; exact .tup cs xs hs h0 fun i h1 h2 => ih i h1 h2 (noBoxL_at h i h2)
  | slnil sz => intro _; exact .slnil sz
  | sl a n c sz xs f hn hc hz hR _ ih => intro h; simp only [Ex.noBox] at h; exact .sl a n c sz xs f hn hc hz hR fun i j hi hj => ih i j hi hj (noBox_cells (noBoxL_at h i hi) j hj)
  | ref a x f hR _ ih => intro h; simp only [Ex.noBox] at h; exact .ref a x f hR fun j hj => ih j hj (noBox_cells h j hj)
  | nilp => intro _; exact .nilp
  | errn => intro _; exact .errn
  | erry t v => intro _; exact .erry t v
  | box id off b hb => intro h; simp [Ex.noBox] at h
  | fn f first caps fs cs h1 h2 _ _ i1 i2 =>
    intro h; simp only [Ex.noBox, Bool.and_eq_true] at h
    exact .fn f first caps fs cs h1 h2 (fun i k1 k2 => i1 i k1 k2 (noBoxL_at h.1 i k2)) (fun i k1 k2 => i2 i k1 k2 (noBoxL_at h.2 i k2))
  | yld id l hl => intro h; simp [Ex.noBox] at h
  | nils => intro _; exact .nils
  | nilf => intro _; exact .nilf
  | row id sz off n c b k h1 h2 h3 h4 h5 => intro h; simp [Ex.noBox] at h
  | mp id b hb => intro h; simp [Ex.noBox] at h
  | ifc t v x _ ih => intro h; simp only [Ex.noBox] at h; exact .ifc t v x (ih h)

/-- A type's zero, cell by cell. -/
def zeroCells (P : Program) : Nat → TypeId → Option (List AV)
  | 0, _ => none
  | d + 1, t =>
    match tyOf P t with
    | none => none
    | some ty =>
      match ty.u with
      | .int k => some [.int k 0]
      | .bool => some [.bool false]
      | .str => some [.str []]
      | .slice e => (match tyOf P e with | some te => some [.sl te.size []] | none => none)
      | .ptr _ => some [.nilp]
      | .struct fs => fs.foldl (fun acc f => match acc, zeroCells P d f.1 with | some a, some b => some (a ++ b) | _, _ => none) (some [])
      | .other => (match ty.zero with | some .nilIface => some [.err false] | _ => none)

/-- A zero cell's value and what stands for it. -/
def zOk : Value → AV → Bool
  | .int k n, .int k' m => k == k' && n == m
  | .bool b, .bool c => b == c
  | .string s, .str l => s.data.toList == l
  | .slice none 0 0, .sl _ [] => true
  | .slice none 0 0, .nils => true
  | .pointer none, .nilp => true
  | .nilIface, .err false => true
  | _, _ => false

def zerosOk (vs : List Value) (xs : List AV) : Bool := vs.length == xs.length && (vs.zip xs).all fun p => zOk p.1 p.2

/-- Is a nil row of this type told apart, since it is written to? -/
def nilT (own : FuncId → Bool) (t : TypeId) : Bool := own (4000000 + t)
/-- Are the nil rows of this struct? -/
def nilS (own : FuncId → Bool) (t : TypeId) : Bool := own (5000000 + t)
def isFA : Op → Bool
  | .fieldAddr _ _ _ => true
  | _ => false
/-- Is a slot loaded from a field in this very region? -/
def fromField (ops : Array Oper) (s : Nat) : Bool :=
  ops.toList.any fun o => o.dst == some s && match o.op with
    | .load _ (.tmp p) => ops.toList.any fun q => q.dst == some p && isFA q.op
    | _ => false
/-- Is it an append to a row that is an object? -/
def appRow (own : FuncId → Bool) (ops : Array Oper) : Op → Bool
  | .call { callee := .builtin .append, args, argTypes } =>
    (match argTypes.toList with | t :: _ => nilT own t | _ => false) || (match args.toList with | .tmp s :: _ => fromField ops s | _ => false)
  | _ => false

/-- Is a row, loaded by this slot, appended to in this very region? -/
def takes (own : FuncId → Bool) (ops : Array Oper) (d : Option Nat) : Bool :=
  match d with
  | none => false
  | some d => (ops.toList.any fun o => isAppOf o.op d && !appRow own ops o.op) || (own 3000000 && isRet ops.toList d)
where
  isRet : List Oper → Nat → Bool
    | [{ op := .load .., .. }, { op := .assign (.tmp t), .. }], d => t == d
    | _, _ => false
  isAppOf : Op → Nat → Bool
    | .call { callee := .builtin .append, args, .. }, d => (match args.toList with | .tmp s :: _ => s == d | _ => false)
    | _, _ => false

/-- Is what is stored a row that was made in this very region? -/
def gives (own : FuncId → Bool) (ops : Array Oper) (v : Operand) : Bool :=
  match v with
  | .tmp t => ops.toList.any fun o => o.dst == some t && o.guard.isNone && makes o.op && !appRow own ops o.op
  | _ => false
where
  makes : Op → Bool
    | .buildSlice .. => true
    | .call { callee := .builtin .append, .. } => true
    | .call { callee := .value (.func f), .. } => own f
    | _ => false

/-- A struct's parts, laid in. -/
def putPart (P : Program) (fs : List (TypeId × Nat)) (pf : PF) : List (Nat × Operand) → List AV → Option (List AV)
  | [], cs => some cs
  | (i, x) :: r, cs =>
    match fs[i]? with
    | some (ft, off) =>
      (match tyOf P ft, mvAV P ft (opv pf x) with
      | some ty, some v => if v.cells.length = ty.size ∧ off + v.cells.length ≤ cs.length then putPart P fs pf r (cs.take off ++ v.cells ++ cs.drop (off + v.cells.length)) else none
      | _, _ => none)
    | none => none
def evBuild (P : Program) (t : TypeId) (parts : List (Nat × Operand)) (pf : PF) : Option AV :=
  match tyOf P t with
  | some { u := .struct fs, zero := some z, .. } =>
    if fs.all (fun f => (tyOf P f.1).isSome) = true then
      (match zeroCells P 6 t with
      | some zs => if zerosOk z.cells.toList zs then (putPart P fs pf parts zs).map .agg else none
      | none => none)
    else none
  | _ => none

/-- Nil rows, told apart. -/
def nilAll (zs : List AV) : List AV := zs.map fun x => match x with | .sl _ [] => .nils | x => x
def evBuildN (P : Program) (t : TypeId) (parts : List (Nat × Operand)) (pf : PF) : Option AV :=
  match tyOf P t with
  | some { u := .struct fs, zero := some z, .. } =>
    if fs.all (fun f => (tyOf P f.1).isSome) = true then
      (match zeroCells P 6 t with
      | some zs => if zerosOk z.cells.toList (nilAll zs) then (putPart P fs pf parts (nilAll zs)).map .agg else none
      | none => none)
    else none
  | _ => none
/-- A nil row that is told apart; a struct of such. -/
def evNil (P : Program) (own : FuncId → Bool) (op : Op) (type : TypeId) (pf : PF) : Option AV :=
  match op with
  | .move x => (match opv pf x with | some .nils => if nilT own type then some .nils else none | _ => none)
  | .assign x => (match opv pf x with | some .nils => if nilT own type then some .nils else none | _ => none)
  | .build t parts => if nilS own t then evBuildN P t parts.toList pf else none
  | _ => none

/-- Operations that read and write no object, but speak of their places. -/
def evPlace (P : Program) (op : Op) (pf : PF) : Option AV :=
  match op with
  | .fieldAddr t x f =>
    match tyOf P t with
    | some { u := .struct fs, .. } =>
      (match fs[f]?, opv pf x with
      | some (ft, off), some (.box id o) => (match tyOf P ft with | some ty => if ty.size = 0 then none else some (.box id (o + off)) | none => none)
      | some (ft, off), some (.ref (.agg cs)) => (match tyOf P ft with | some ty => if ty.size = 0 then none else (match partAV ty cs off with | some v => if ty.agg || flatAV v then some (.ref v) else none | none => none) | none => none)
      | _, _ => none)
    | _ => none
  | .nilCheck x =>
    match opv pf x with
    | some (.box id o) => some (.box id o)
    | some (.ref v) => some (.ref v)
    | some (.fn f fs cs) => some (.fn f fs cs)
    | some (.yld id) => some (.yld id)
    | _ => none
  | .makeFunc fn first caps =>
    match fn, opvs pf first.toList, opvs pf caps.toList with
    | .func f, some fs, some cs => some (.fn f fs cs)
    | _, _, _ => none
  | .build t parts => evBuild P t parts.toList pf
  | _ => none

/-- The cells of an object that is a variable. -/
def obCells : Option Ob → Option (List AV)
  | some (.cells cs) => some cs
  | some (.acc sz xs) => some [.sl sz xs]
  | some (.rowo _ cs) => some cs
  | _ => none
def isRowo : Option Ob → Bool
  | some (.rowo _ _) => true
  | _ => false
/-- The object, of other cells. -/
def putOb : Option Ob → List AV → Ob
  | some (.rowo id _), cs => .rowo id cs
  | _, cs => .cells cs

/-- An append to a row that is an object: a new object. -/
def evRow (P : Program) (args : List Operand) (tys : List TypeId) (pf : PF) (S : Obs) : Option (AV × Obs) :=
  match args, tys with
  | [s, y], [t, t'] =>
    if t = t' then
      match tyOf P t with
      | some { u := .slice e, .. } =>
        match tyOf P e, opv pf s, opv pf y with
        | some ty, some x, some (.sl sz ys) =>
          if sz = ty.size ∧ 0 < ty.size ∧ 0 < ty.bytes ∧ (ty.zero.map (·.cells.size) == some ty.size) = true then
            match x with
            | .nils =>
              if ys.isEmpty then some (.nils, S)
              else if ys.length * ty.bytes ≤ 140737488355328 then some (.row S.length sz 0 ys.length, S ++ [.rowo S.length (ys.flatMap AV.cells), .gone]) else none
            | .row id sz' off n =>
              if ys.isEmpty then some (.row id sz' off n, S)
              else if sz' = sz ∧ off = 0 ∧ (n + ys.length) * ty.bytes ≤ 140737488355328 then
                (match S[id]? with
                | some (.rowo rid cs) => if rid = id ∧ n * sz ≤ cs.length then some (.row S.length sz 0 (n + ys.length), S.set id .gone ++ [.rowo S.length (cs.take (n * sz) ++ ys.flatMap AV.cells), .gone]) else none
                | _ => none)
              else none
            | _ => none
          else none
        | _, _, _ => none
      | _ => none
    else none
  | _, _ => none

/-- A new row of zeros. -/
def evMake (P : Program) (t : TypeId) (len cap : Operand) (pf : PF) (S : Obs) : Option (AV × Obs) :=
  match tyOf P t with
  | some { u := .slice e, .. } =>
    match tyOf P e, opv pf len, opv pf cap with
    | some ty, some (.int .i64 n), some (.int .i64 m) =>
      if n = m ∧ 0 ≤ n ∧ ty.size = 1 ∧ 0 < ty.bytes ∧ n * ty.bytes ≤ 140737488355328 then
        (match ty.zero, zeroCells P 6 e with
        | some z, some [x] => if zOk z x then some (.row S.length 1 0 n.toNat, S ++ [.rowo S.length (List.replicate n.toNat x), .gone]) else none
        | _, _ => none)
      else none
    | _, _, _ => none
  | _ => none

/-- Is it a builder's type? Its buffer's element type. -/
def bldTy (P : Program) (t : TypeId) : Option TypeId :=
  match tyOf P t with
  | some { u := .struct [(p, 0), (s, 1)], zero := some z, .. } =>
    (match tyOf P p, tyOf P s with
    | some { u := .ptr t', .. }, some { u := .slice e, .. } => if t' = t ∧ zerosOk z.cells.toList [.nilp, .sl 1 []] = true then some e else none
    | _, _ => none)
  | _ => none

/-- Operations on objects. -/
def evObj (P : Program) (own : FuncId → Bool) (ops : Array Oper) (o : Oper) (pf : PF) (S : Obs) : Option (AV × Obs) :=
  match o.op with
  | .alloc t =>
    match bldTy P t with
    | some e => some (.box S.length 0, S ++ [.bld t e []])
    | none =>
    match tyOf P t with
    | some ty =>
      (match ty.zero with
      | some z =>
        (match ty.u with
        | .slice e =>
          if nilT own t then (if zOk z .nils then some (.box S.length 0, S ++ [.cells [.nils]]) else none)
          else (match tyOf P e with | some te => if zOk z (.sl te.size []) then some (.box S.length 0, S ++ [.acc te.size []]) else none | none => none)
        | _ =>
          if nilS own t then (match zeroCells P 6 t with | some zs => if zerosOk z.cells.toList (nilAll zs) then some (.box S.length 0, S ++ [.cells (nilAll zs)]) else none | none => none)
          else (match zeroCells P 6 t with | some zs => if zerosOk z.cells.toList zs then some (.box S.length 0, S ++ [.cells zs]) else none | none => none))
      | none => none)
    | none => none
  | .box t x =>
      (match opv pf x with
      | some .nils => (match nilAV P t with | some (.sl sz _) => some (.box S.length 0, S ++ [.acc sz []]) | _ => none)
      | some v => if v.cells.all flatAV then some (.box S.length 0, S ++ [.cells v.cells]) else none
      | none => none)
  | .load t x =>
    match tyOf P t, opv pf x with
    | some ty, some (.box id off) =>
      (match S[id]? with
      | some (.acc sz xs) => if off = 0 ∧ ty.agg = false then some (.sl sz xs, if takes own ops o.dst then S.set id (.cells [.sl sz xs]) else S) else none
      | some (.cells cs) => if takes own ops o.dst then none else (partAV ty cs off).map fun v => (v, S)
      | _ => none)
    | _, _ => none
  | .makeSlice t len cap => evMake P t len cap pf S
  | .store t x y =>
    match tyOf P t, opv pf x, opv pf y with
    | some ty, some (.box id off), some v =>
      (match obCells S[id]? with
      | some cs =>
        if v.cells.length = ty.size ∧ v.cells.all flatAV = true ∧ off + v.cells.length ≤ cs.length then
          if gives own ops y = true ∧ cs.length = 1 ∧ isRowo S[id]? = false then (match v with | .sl sz xs => some (.undef, S.set id (.acc sz xs)) | _ => none)
          else some (.undef, S.set id (putOb S[id]? (cs.take off ++ v.cells ++ cs.drop (off + v.cells.length))))
        else none
      | none => none)
    | _, _, _ => none
  | _ => none

end Go.Proofs.YtmcfnnpihlediaaGreatDoor.Ex

/- One operation: calls among them; the relation between the pure state and the machine's. -/
namespace Go.Proofs.YtmcfnnpihlediaaGreatDoor.Ex
open Go Go.RowKit

def packAV : List AV → AV
  | [] => .undef
  | [v] => v
  | vs => .tup vs

def retv : List Value → Value
  | [v] => v
  | vs => .tuple vs.toArray

abbrev VRs (R : Reads) (M : List Nat) (vs : List Value) (xs : List AV) : Prop := vs.length = xs.length ∧ ∀ i (h1 : i < vs.length) (h2 : i < xs.length), VR R M vs[i] xs[i]

theorem VRs.monoM {R R' : Reads} {M M' : List Nat} (h : ∀ a v, R a v → R' a v) (hM : ∀ (i b : Nat), M[i]? = some b → M'[i]? = some b) {vs : List Value} {xs : List AV} (hv : VRs R M vs xs) : VRs R' M' vs xs :=
  ⟨hv.1, fun i h1 h2 => (hv.2 i h1 h2).monoM h hM⟩

theorem VRs.noBox {R : Reads} {M M' : List Nat} {vs : List Value} {xs : List AV} (hv : VRs R M vs xs) (h : noBoxL xs = true) : VRs R M' vs xs :=
  ⟨hv.1, fun i h1 h2 => (hv.2 i h1 h2).noBox (noBoxL_at h i h2)⟩

theorem VRs.pack {R : Reads} {M : List Nat} {vs : List Value} {xs : List AV} (h : VRs R M vs xs) : VR R M (retv vs) (packAV xs) := by
  obtain ⟨hl, hv⟩ := h
  match vs, xs, hl with
  | [], [], _ => exact .undef
  | [v], [x], _ => exact hv 0 (by simp) (by simp)
  | v :: v' :: vs, x :: x' :: xs, hl =>
    refine .tup _ _ (by simpa using hl) (by simp) fun i h1 h2 => ?_
    have := hv i (by simpa using h1) h2
    simpa using this

theorem VRs.append {R : Reads} {M : List Nat} {vs us : List Value} {xs ys : List AV} (h : VRs R M vs xs) (k : VRs R M us ys) : VRs R M (vs ++ us) (xs ++ ys) := by
  refine ⟨by simp [h.1, k.1], fun i h1 h2 => ?_⟩
  by_cases hi : i < vs.length
  · rw [List.getElem_append_left hi, List.getElem_append_left (by rw [← h.1]; exact hi)]; exact h.2 i hi _
  · rw [List.getElem_append_right (Nat.le_of_not_lt hi), List.getElem_append_right (by rw [← h.1]; exact Nat.le_of_not_lt hi)]
    have := k.2 (i - vs.length) (by simp at h1; omega) (by have := h.1; simp at h2; omega)
    simpa [h.1] using this

/-- A callee's value: who is called, with what ahead and behind. -/
def calleeAV (pf : PF) : Operand → Option (Cal × List AV × List AV)
  | .func f => some (.f f, [], [])
  | .tmp t => (match pf t with | .fn f fs cs => some (.f f, fs, cs) | .yld id => some (.y id, [], []) | _ => none)
  | _ => none

/-- A call that touches no object. -/
def callP (call : CallT) (c : Cal) (avs : List AV) : Option AV :=
  match c with
  | .f f => if noBoxL avs then (match call (.f f) avs [] with | some (rs, _) => if noBoxL rs then some (packAV rs) else none | none => none) else none
  | .y _ => none

def loadD (P : Program) (t : TypeId) (p : Option AV) (S : Obs) : Option AV :=
  match tyOf P t, p with
  | some ty, some (.ref v) => loadAV ty v
  | some ty, some (.box id off) =>
    (match S[id]? with
    | some (.acc sz xs) => if off = 0 ∧ ty.agg = false then some (.sl sz xs) else none
    | some (.cells cs) => partAV ty cs off
    | some (.rowo _ cs) => partAV ty cs off
    | _ => none)
  | _, _ => none

/-- Does a call end in a panic? -/
def isPan1 : AV → Bool
  | .pan _ => true
  | _ => false
def isPan : List AV → Bool
  | [x] => isPan1 x
  | _ => false
/-- A call that comes back. -/
def okRes (r : Option (List AV × Obs)) : Option (AV × Obs) := r.bind fun p => if isPan p.1 then none else some (packAV p.1, p.2)

/-- Operations that leave all objects as they are. -/
def evOpD (P : Program) (call : CallT) (S : Obs) (o : Oper) (pf : PF) : Option AV :=
  match o.op with
  | .buildSlice t n parts => evBS P t n parts.toList pf
  | .load t x => loadD P t (opv pf x) S
  | .fieldAddr t x f => evPlace P (.fieldAddr t x f) pf
  | .nilCheck x => evPlace P (.nilCheck x) pf
  | .makeFunc fn first caps => evPlace P (.makeFunc fn first caps) pf
  | .build t parts => evPlace P (.build t parts) pf
  | .alloc _ => none
  | .box _ _ => none
  | .store _ _ _ => none
  | .call c =>
    (match c.callee with
    | .value x =>
      (match calleeAV pf x, opvs pf c.args.toList with
      | some (k, fs, cs), some avs => callP call k (fs ++ avs ++ cs)
      | _, _ => none)
    | .builtin .append => none
    | .builtin b => evBuiltin P b c.args.toList c.argTypes.toList pf
    | _ => none)
  | _ => evPlain P o.op o.type pf

def isApp : Op → Bool
  | .call { callee := .builtin .append, .. } => true
  | _ => false

def evOp (P : Program) (own : FuncId → Bool) (call : CallT) (ops : Array Oper) (o : Oper) (pf : PF) (S : Obs) : Option (AV × Obs) :=
  match evNil P own o.op o.type pf with
  | some x => some (x, S)
  | none =>
  match o.op with
  | .makeSlice _ _ _ => evObj P own ops o pf S
  | .alloc _ => evObj P own ops o pf S
  | .box _ _ => evObj P own ops o pf S
  | .store _ _ _ => evObj P own ops o pf S
  | .load t x => if takes own ops o.dst then evObj P own ops o pf S else (evOpD P call S o pf).map fun x => (x, S)
  | .call c =>
    (match c.callee with
    | .value x =>
      (match calleeAV pf x, opvs pf c.args.toList with
      | some (k, fs, cs), some avs =>
        (match callP call k (fs ++ avs ++ cs) with
        | some v => some (v, S)
        | none => okRes (call k (fs ++ avs ++ cs) S))
      | _, _ => none)
    | .builtin .append => if appRow own ops o.op then evRow P c.args.toList c.argTypes.toList pf S else (evApp P c.args.toList c.argTypes.toList pf).map fun x => (x, S)
    | _ => (evOpD P call S o pf).map fun x => (x, S))
  | _ => (evOpD P call S o pf).map fun x => (x, S)

/-- An operation that panics: with what. -/
def evPan (call : CallT) (o : Oper) (pf : PF) (S : Obs) : Option (AV × Obs) :=
  match o.op with
  | .panic x => (match opv pf x with | some (.ifc t v) => some (.ifc t v, S) | _ => none)
  | .call c =>
    (match c.callee with
    | .value x =>
      (match calleeAV pf x, opvs pf c.args.toList with
      | some (k, fs, cs), some avs =>
        (match call k (fs ++ avs ++ cs) S with
        | some ([.pan v], S') => some (v, S')
        | _ => none)
      | _, _ => none)
    | _ => none)
  | _ => none

/-! ### Who owns a row -/
abbrev Env := List (Nat × Nat)
def delE (E : Env) (d : Nat) : Env := E.filter fun p => p.1 != d
def delO (E : Env) (d : Option Nat) : Env := match d with | some d => delE E d | none => E
def freshE (E : Env) : Nat := E.foldl (fun m p => max m (p.2 + 1)) 0
def findE (E : Env) (s : Nat) : Option Nat := (E.find? fun p => p.1 == s).map (·.2)
def dropG (E : Env) (g : Nat) : Env := E.filter fun p => p.2 != g

/-- Does the operation hand the row that a slot owns over to an object? -/
def givesOp (own : FuncId → Bool) (ops : Array Oper) : Op → Option Operand
  | .store _ _ y => if gives own ops y then some y else none
  | _ => none

/-- What becomes of who owns what, by an operation that is done. -/
def trans (own : FuncId → Bool) (ops : Array Oper) (E : Env) (o : Oper) : Option Env :=
  match givesOp own ops o.op with
  | some y =>
    (match y, o.dst, o.guard with
    | .tmp t, none, none => (match findE E t with | some g => some (dropG E g) | none => none)
    | _, _, _ => none)
  | none =>
  match o.dst with
  | none => if isApp o.op then none else some E
  | some d =>
    if o.guard.isSome then (if isApp o.op || takes own ops (some d) then none else some (delE E d)) else
    match o.op with
    | .move x | .assign x =>
      (match x with
      | .tmp t => match findE E t with | some g => some ((d, g) :: delE E d) | none => some (delE E d)
      | x => if isNilSl x && !nilT own o.type then some ((d, freshE E) :: delE E d) else some (delE E d))
    | .buildSlice .. => some ((d, freshE E) :: delE E d)
    | .load .. => if takes own ops (some d) then some ((d, freshE E) :: delE E d) else some (delE E d)
    | .call c =>
      (match c.callee with
      | .value (.func f) => if own f then some ((d, freshE E) :: delE E d) else some (delE E d)
      | .builtin .append =>
        if appRow own ops o.op then some (delE E d) else
        (match c.args.toList with
        | .tmp s :: _ => match findE E s with | some g => some ((d, freshE E) :: delE (dropG E g) d) | none => none
        | _ => none)
      | _ => some (delE E d))
    | _ => some (delE E d)

theorem mem_delE {E : Env} {d s g : Nat} : (s, g) ∈ delE E d ↔ (s, g) ∈ E ∧ s ≠ d := by simp [delE]
theorem mem_dropG {E : Env} {k s g : Nat} : (s, g) ∈ dropG E k ↔ (s, g) ∈ E ∧ g ≠ k := by simp [dropG]
theorem freshE_lt {E : Env} {s g : Nat} (h : (s, g) ∈ E) : g < freshE E := by
  unfold freshE
  have key : ∀ (l : Env) (m : Nat), m ≤ l.foldl (fun m p => max m (p.2 + 1)) m ∧ ((s, g) ∈ l → g < l.foldl (fun m p => max m (p.2 + 1)) m) := by
    intro l
    induction l with
    | nil => intro m; simp
    | cons p r ih =>
      intro m
      obtain ⟨h1, h2⟩ := ih (max m (p.2 + 1))
      refine ⟨by simp only [List.foldl_cons]; omega, fun hm => ?_⟩
      simp only [List.foldl_cons]
      rcases List.mem_cons.1 hm with rfl | hm
      · omega
      · exact h2 hm
  exact (key E 0).2 h
theorem findE_mem {E : Env} {s g : Nat} (h : findE E s = some g) : (s, g) ∈ E := by
  unfold findE at h
  simp only [Option.map_eq_some_iff] at h
  obtain ⟨p, hp, rfl⟩ := h
  have h1 := List.mem_of_find?_eq_some hp
  have h2 := List.find?_some hp
  simp at h2
  rw [← h2]; exact h1

theorem OwnV.lt {R : Reads} {base : Nat} {w : World} {v : Value} {sz : Nat} (h : OwnV R base w v sz) {b : Nat} (hb : blockOf v = some b) : base ≤ b ∧ b < w.heap.size := by
  rcases h with rfl | ⟨b', n, c, cur, e, rfl, h1, h2, _⟩
  · cases hb
  · have : b' = b := by simpa [blockOf] using hb
    subst this
    exact ⟨h1, (Array.getElem?_eq_some_iff.1 h2).1⟩

theorem OwnV.mono_base {R : Reads} {w : World} {base base' : Nat} {v : Value} {sz : Nat} (h : OwnV R base' w v sz) (hb : base ≤ base') : OwnV R base w v sz := by
  rcases h with h1 | ⟨b, n, c, cur, e, h1, h2, h3⟩
  · exact .inl h1
  · exact .inr ⟨b, n, c, cur, e, h1, by omega, h3⟩

theorem getD_put (a : Act) (d t : Nat) (v : Value) (hd : d < a.tmps.size) : (a.put (some d) v).tmps.getD t Go.undef = if t = d then v else a.tmps.getD t Go.undef := by
  simp only [Act.put, Array.getD_eq_getD_getElem?, Array.getElem?_setIfInBounds]
  by_cases h : t = d
  · subst h; simp [hd]
  · simp [h, Ne.symm h]

/-- The marks of an activation, by their objects. -/
def DfR (bl : BL) (ds : List Deferred) (D : List Nat) : Prop :=
  ∃ bs : List Nat, ds = bs.map (fun b => ({ target := .collected b, args := #[] } : Deferred)) ∧ bs.length = D.length ∧
    ∀ (k b i : Nat), bs[k]? = some b → D[k]? = some i → (mains bl)[i]? = some b

theorem DfR.mono {bl bl' : BL} {ds : List Deferred} {D : List Nat} (h : DfR bl ds D) (hM : ∀ (i b : Nat), (mains bl)[i]? = some b → (mains bl')[i]? = some b) : DfR bl' ds D := by
  obtain ⟨bs, h1, h2, h3⟩ := h
  exact ⟨bs, h1, h2, fun k b i hk hi => hM _ _ (h3 k b i hk hi)⟩

/-- Where a step begins. -/
structure Base where
  R : Reads
  bl : BL
  w : World

/-- May the activation write in this block? -/
def Base.mine (B : Base) (b : Nat) : Prop := B.w.heap.size ≤ b ∨ b ∈ fp B.bl

/-- The pure state and the machine's. -/
structure Rel (LOK : LoopA → Prop) (B : Base) (nt : Nat) (E : Env) (pf : PF) (S : Obs) (D : List Nat) (a : Act) (w : World) (R : Reads) (bl : BL) : Prop where
  size : a.tmps.size = nt
  defers : DfR bl a.defers D
  fr : FrR R (mains bl) a.tmps pf
  sr : SR LOK R bl w S
  stp : Stp B.R B.bl B.w R bl w
  own : ∀ s g, (s, g) ∈ E → ∃ sz xs, pf s = .sl sz xs ∧ OwnV R 0 w (a.tmps.getD s Go.undef) sz
  mine : ∀ s g, (s, g) ∈ E → ∀ b, blockOf (a.tmps.getD s Go.undef) = some b → B.mine b ∧ b ∉ fp bl
  dist : ∀ s g s' g', (s, g) ∈ E → (s', g') ∈ E → g ≠ g' → ∀ b, blockOf (a.tmps.getD s Go.undef) = some b → blockOf (a.tmps.getD s' Go.undef) ≠ some b

theorem Stp.st {R0 R R' : Reads} {bl0 bl : BL} {w0 w w' : World} {m : Option Nat} (h : Stp R0 bl0 w0 R bl w) (hs : St R w R' w' m) (hm : ∀ b, m = some b → w0.heap.size ≤ b ∨ b ∈ fp bl0) : Stp R0 bl0 w0 R' bl w' := by
  refine ⟨fun a v hr => hs.sub _ _ (h.sub _ _ hr), fun a v hr => ?_, hs.stab, hs.os.trans h.os, hs.tape.trans h.tape, hs.output.trans h.output, Nat.le_trans h.size hs.size, fun i hi hn => ?_, h.main, h.foot⟩
  · rcases hs.new a v hr with h1 | h1 | h1
    · exact h.new a v h1
    · rcases hm _ h1.symm with h2 | h2
      · exact .inr (.inr h2)
      · exact .inr (.inl h2)
    · have := h.size; exact .inr (.inr (by omega))
  · rw [hs.blk i (Nat.lt_of_lt_of_le hi h.size) fun he => ?_, h.blk i hi hn]
    rcases hm i he.symm with h1 | h1
    · omega
    · exact hn h1

theorem SR.st {LOK : LoopA → Prop} {R R' : Reads} {bl : BL} {w w' : World} {S : Obs} {m : Option Nat} (h : SR LOK R bl w S) (hs : St R w R' w' m) (hm : ∀ b, m = some b → b ∉ fp bl) : SR LOK R' bl w' S := by
  refine h.keep hs.sub (fun a v hr => ?_) hs.size (fun k hk => hs.blk k (h.lt k hk) fun he => hm k he.symm hk)
  rcases hs.new a v hr with h1 | h1 | h1
  · exact .inl h1
  · exact .inr (hm _ h1.symm)
  · exact .inr fun hk => by have := h.lt _ hk; omega

theorem St.stp {R R' : Reads} {bl : BL} {w w' : World} (hs : St R w R' w' none) (hst : Stab R w) : Stp R bl w R' bl w' :=
  (Stp.refl (bl := bl) hst).st hs (by simp)

section
variable {LOK : LoopA → Prop} {B : Base} {nt : Nat} {E : Env} {pf : PF} {S S' : Obs} {D : List Nat} {a : Act} {w w' : World} {R R' : Reads} {bl bl' : BL}

theorem Rel.stab (h : Rel LOK B nt E pf S D a w R bl) : Stab R w := h.stp.stab

/-- What a slot owns stays, if its block does. -/
def Kept (R R' : Reads) (w w' : World) (bl' : BL) (b : Nat) : Prop := w'.heap[b]? = w.heap[b]? ∧ (∀ a u, R' a u → R a u ∨ a.block ≠ b) ∧ b ∉ fp bl'

/-- A slot is written, or none. -/
theorem Rel.put (h : Rel LOK B nt E pf S D a w R bl) (hstp : Stp B.R B.bl B.w R' bl' w') (hsub : ∀ a v, R a v → R' a v) (hM : ∀ (i b : Nat), (mains bl)[i]? = some b → (mains bl')[i]? = some b)
    (hsr : SR LOK R' bl' w' S') {v : Value} {x : AV} (hv : VR R' (mains bl') v x) {o : Option Nat} (hd : ∀ d, o = some d → d < nt) {E' : Env}
    (hE : ∀ s g, (s, g) ∈ E' → (o ≠ some s ∧ (s, g) ∈ E ∧ ∀ b, blockOf (a.tmps.getD s Go.undef) = some b → Kept R R' w w' bl' b) ∨
      (o = some s ∧ (∃ sz xs, x = .sl sz xs ∧ OwnV R' 0 w' v sz) ∧ (∀ b, blockOf v = some b → B.mine b ∧ b ∉ fp bl') ∧
        ∀ s' g', (s', g') ∈ E' → o ≠ some s' → g ≠ g' → ∀ b, blockOf v = some b → blockOf (a.tmps.getD s' Go.undef) ≠ some b))
    (hu : ∀ d g g', o = some d → (d, g) ∈ E' → (d, g') ∈ E' → g = g') :
    Rel LOK B nt E' (updO pf o x) S' D (a.put o v) w' R' bl' := by
  have hget : ∀ t, (a.put o v).tmps.getD t Go.undef = if o = some t then v else a.tmps.getD t Go.undef := by
    intro t
    cases o with
    | none => simp [Act.put]
    | some d =>
      rw [getD_put a d t v (by rw [h.size]; exact hd d rfl)]
      by_cases ht : t = d
      · simp [ht]
      · rw [if_neg ht, if_neg (by intro e; injection e with e; exact ht e.symm)]
  have hpf : ∀ t, updO pf o x t = if o = some t then x else pf t := by
    intro t
    cases o with
    | none => simp [updO]
    | some d =>
      simp only [updO, upd]
      by_cases ht : t = d
      · simp [ht]
      · rw [if_neg ht, if_neg (by intro e; injection e with e; exact ht e.symm)]
  refine ⟨?_, ?_, ?_, hsr, hstp, ?_, ?_, ?_⟩
  · cases o <;> simp [Act.put, h.size]
  · have e : (a.put o v).defers = a.defers := by cases o <;> rfl
    rw [e]; exact h.defers.mono hM
  · intro t
    rw [hget, hpf]
    by_cases ht : o = some t
    · simp [ht, hv]
    · simp only [ht, if_false]; exact (h.fr t).monoM hsub hM
  · intro s g hsg
    rw [hget, hpf]
    rcases hE s g hsg with ⟨h1, h2, h3⟩ | ⟨h1, h2, h3⟩
    · obtain ⟨sz, xs, h4, h5⟩ := h.own s g h2
      refine ⟨sz, xs, by simp [h1, h4], ?_⟩
      simp only [h1, if_false]
      refine h5.keep (fun q u hq => ?_) (fun b hb => (h3 b hb).1)
      by_cases hc : ∃ b, blockOf (a.tmps.getD s Go.undef) = some b ∧ q.block = b
      · obtain ⟨b, hb, hqb⟩ := hc
        rcases (h3 b hb).2.1 q u hq with h6 | h6
        · exact .inl h6
        · exact absurd hqb h6
      · exact .inr fun b hb e => hc ⟨b, hb, e⟩
    · obtain ⟨sz, xs, h4, h5⟩ := h2
      exact ⟨sz, xs, by simp [h1, h4], by simpa [h1] using h5⟩
  · intro s g hsg b
    rw [hget]
    rcases hE s g hsg with ⟨h1, h2, h3⟩ | ⟨h1, h2, h3, h4⟩
    · simp only [h1, if_false]; intro hb; exact ⟨(h.mine s g h2 b hb).1, (h3 b hb).2.2⟩
    · simp only [h1, if_true]; exact h3 b
  · intro s g s' g' hsg hsg' hne b
    rw [hget, hget]
    rcases hE s g hsg with ⟨h1, h2, h3⟩ | ⟨h1, h2, h3, h4⟩
    · simp only [h1, if_false]
      rcases hE s' g' hsg' with ⟨k1, k2, k3⟩ | ⟨k1, k2, k3, k4⟩
      · simp only [k1, if_false]; exact h.dist s g s' g' h2 k2 hne b
      · simp only [k1, if_true]
        intro hb hb'
        exact k4 s g hsg h1 (Ne.symm hne) b hb' hb
    · rw [if_pos h1]
      by_cases hs' : o = some s'
      · have : s = s' := by rw [h1] at hs'; injection hs'
        subst this
        exact absurd (hu s g g' h1 hsg hsg') hne
      · rw [if_neg hs']; exact h4 s' g' hsg' hs' hne b

/-- It is written with what nobody owns. -/
theorem Rel.put_plain (h : Rel LOK B nt E pf S D a w R bl) (hstp : Stp B.R B.bl B.w R' bl' w') (hsub : ∀ a v, R a v → R' a v) (hM : ∀ (i b : Nat), (mains bl)[i]? = some b → (mains bl')[i]? = some b)
    (hsr : SR LOK R' bl' w' S') {v : Value} {x : AV} (hv : VR R' (mains bl') v x) {o : Option Nat} (hd : ∀ d, o = some d → d < nt)
    (hk : ∀ s g, (s, g) ∈ E → ∀ b, blockOf (a.tmps.getD s Go.undef) = some b → Kept R R' w w' bl' b) :
    Rel LOK B nt (delO E o) (updO pf o x) S' D (a.put o v) w' R' bl' := by
  refine h.put hstp hsub hM hsr hv hd (fun s g hsg => .inl ?_) (fun d g g' ho h1 _ => ?_)
  · cases o with
    | none => exact ⟨by simp, hsg, hk s g hsg⟩
    | some d =>
      have := mem_delE.1 hsg
      exact ⟨by simpa using Ne.symm this.2, this.1, hk s g this.1⟩
  · subst ho; exact absurd rfl (mem_delE.1 h1).2

/-- It is written with a row that is new. -/
theorem Rel.put_fresh (h : Rel LOK B nt E pf S D a w R bl) (hstp : Stp B.R B.bl B.w R' bl' w') (hsub : ∀ a v, R a v → R' a v) (hM : ∀ (i b : Nat), (mains bl)[i]? = some b → (mains bl')[i]? = some b)
    (hsr : SR LOK R' bl' w' S') {v : Value} {x : AV} (hv : VR R' (mains bl') v x) {d : Nat} (hd : d < nt)
    (hk : ∀ s g, (s, g) ∈ E → ∀ b, blockOf (a.tmps.getD s Go.undef) = some b → Kept R R' w w' bl' b)
    {sz : Nat} {xs : List AV} (hx : x = .sl sz xs) (hO : OwnV R' 0 w' v sz) (hmine : ∀ b, blockOf v = some b → B.mine b ∧ b ∉ fp bl')
    (hne : ∀ b, blockOf v = some b → ∀ s g, (s, g) ∈ E → blockOf (a.tmps.getD s Go.undef) ≠ some b) :
    Rel LOK B nt ((d, freshE E) :: delE E d) (updO pf (some d) x) S' D (a.put (some d) v) w' R' bl' := by
  refine h.put hstp hsub hM hsr hv (fun d' e => by injection e with e; exact e ▸ hd) (fun s g hsg => ?_) (fun d' g g' ho h1 h2 => ?_)
  · rcases List.mem_cons.1 hsg with hsg | hsg
    · injection hsg with e1 e2
      subst e1 e2
      refine .inr ⟨rfl, ⟨sz, xs, hx, hO⟩, hmine, fun s' g' hs' hns _ b hb hb' => ?_⟩
      rcases List.mem_cons.1 hs' with hs' | hs'
      · injection hs' with e1; exact hns (by rw [e1])
      · exact hne b hb s' g' (mem_delE.1 hs').1 hb'
    · have := mem_delE.1 hsg
      exact .inl ⟨by simpa using Ne.symm this.2, this.1, hk s g this.1⟩
  · injection ho with ho
    subst ho
    rcases List.mem_cons.1 h1 with h1 | h1
    · rcases List.mem_cons.1 h2 with h2 | h2
      · injection h1 with _ e1; injection h2 with _ e2; omega
      · exact absurd rfl (mem_delE.1 h2).2
    · exact absurd rfl (mem_delE.1 h1).2

/-- A step with new blocks alone keeps what slots own. -/
theorem Rel.kept_st (h : Rel LOK B nt E pf S D a w R bl) {m : Option Nat} (hs : St R w R' w' m) {s g : Nat} (hsg : (s, g) ∈ E) {b : Nat} (hb : blockOf (a.tmps.getD s Go.undef) = some b) (hm : m ≠ some b) : Kept R R' w w' bl b := by
  obtain ⟨sz, xs, h4, h5⟩ := h.own s g hsg
  have hlt := (h5.lt hb).2
  refine ⟨hs.blk b hlt fun e => hm e.symm, fun q u hq => ?_, (h.mine s g hsg b hb).2⟩
  rcases hs.new q u hq with h1 | h1 | h1
  · exact .inl h1
  · exact .inr fun e => hm (by rw [← e]; exact h1.symm)
  · exact .inr (by omega)

/-- So does a step on the objects. -/
theorem Rel.kept_stp (h : Rel LOK B nt E pf S D a w R bl) (hs : Stp R bl w R' bl' w') {s g : Nat} (hsg : (s, g) ∈ E) {b : Nat} (hb : blockOf (a.tmps.getD s Go.undef) = some b) : Kept R R' w w' bl' b := by
  obtain ⟨sz, xs, h4, h5⟩ := h.own s g hsg
  have hlt := (h5.lt hb).2
  have hnf := (h.mine s g hsg b hb).2
  refine ⟨hs.blk b hlt hnf, fun q u hq => ?_, fun hf => ?_⟩
  · rcases hs.new q u hq with h1 | h1 | h1
    · exact .inl h1
    · exact .inr fun e => hnf (e ▸ h1)
    · exact .inr (by omega)
  · rcases hs.foot b hf with h1 | h1
    · exact hnf h1
    · omega

end
end Go.Proofs.YtmcfnnpihlediaaGreatDoor.Ex

/- Operations that leave the objects as they are: the machine's answer is the pure one. -/
namespace Go.Proofs.YtmcfnnpihlediaaGreatDoor.Ex
open Go Go.RowKit

/-- The wide fence, within a round or not. -/
def fen (ro : Option Nat) : Fence := { Fence.wide with round := ro }

def callable (P : Program) (f : FuncId) : Bool :=
  match P.funcs[f]? with
  | some fn => fn.name != "runtime.NumGoroutine" && fn.body.isSome
  | none => false

def ownC (own : FuncId → Bool) : Cal → Bool
  | .f f => own f
  | .y _ => false

/-- A call, of a function or of a loop's yield. -/
def CallC (P : Program) (M : List Nat) (c : Cal) (args : Array Value) (w : World) (Q : Ending → World → Prop) : Prop :=
  match c with
  | .f f => Calls P f args w Q
  | .y id => ∃ l f tmps asg body, M[id]? = some l ∧ (Instr.yield l args).run P w = .ok (.round l f tmps asg body) w ∧ RoundIn Fence.wide 0 P l f tmps asg body w Q

/-- What holds of the world all along: it speaks of what is read, and of the blocks below a base. -/
structure Gee where
  base : Nat
  P : Reads → World → Prop
  stable : ∀ R w R' w', P R w → (∀ a v, R a v → R' a v) → Below base w w' → Stab R' w' → P R' w'

structure Gd (C : Gee) (R : Reads) (bl : BL) (w : World) : Prop where
  p : C.P R w
  low : ∀ k ∈ fp bl, C.base ≤ k
  size : C.base ≤ w.heap.size

theorem Gd.step {C : Gee} {R R' : Reads} {bl bl' : BL} {w w' : World} (h : Gd C R bl w) (hs : Stp R bl w R' bl' w') : Gd C R' bl' w' := by
  refine ⟨C.stable R w R' w' h.p hs.sub ⟨hs.os, hs.tape, hs.output, hs.size, fun k hk => hs.blk k (Nat.lt_of_lt_of_le hk h.size) fun hf => ?_⟩ hs.stab, fun k hk => ?_, Nat.le_trans h.size hs.size⟩
  · have := h.low k hf; omega
  · rcases hs.foot k hk with h1 | h1
    · exact h.low k h1
    · have := h.size; omega

theorem Gd.bare {C : Gee} {R : Reads} {bl : BL} {w : World} (h : Gd C R bl w) : Gd C R [] w := ⟨h.p, by simp [fp], h.size⟩

/-- How a call ends: it returns, or panics; the objects behind it. -/
def EndOK (LOK : LoopA → Prop) (own : Bool) (R : Reads) (bl : BL) (w : World) (rs : List AV) (S' : Obs) (e : Ending) (w' : World) : Prop :=
  (∃ vs R' bl', e = .returned (retv vs) ∧ VRs R' (mains bl') vs rs ∧ Stp R bl w R' bl' w' ∧ SR LOK R' bl' w' S' ∧
      (own = true → ∃ v sz xs, vs = [v] ∧ rs = [.sl sz xs] ∧ OwnV R' 0 w' v sz ∧ ∀ b, blockOf v = some b → (w.heap.size ≤ b ∨ b ∈ fp bl) ∧ b ∉ fp bl')) ∨
  (∃ x u R' bl', rs = [.pan x] ∧ e = .panicked [{ v := u, recovered := false }] ∧ VR R' (mains bl') u x ∧ Stp R bl w R' bl' w' ∧ SR LOK R' bl' w' S')

/-- What is known of a callee: called where the pure answer is told, it comes to that. -/
def COK (LOK : LoopA → Prop) (P : Program) (C : Gee) (own : FuncId → Bool) (c : Cal) (sem : List AV → Obs → Option (List AV × Obs)) : Prop :=
  ∀ (R : Reads) (bl : BL) (w : World) (S : Obs) (args : List Value) (avs rs : List AV) (S' : Obs), Gd C R bl w → Stab R w → SR LOK R bl w S → VRs R (mains bl) args avs → sem avs S = some (rs, S') →
    CallC P (mains bl) c args.toArray w fun e w' => EndOK LOK (ownC own c) R bl w rs S' e w'

theorem VRs.noPan {R : Reads} {M : List Nat} {vs : List Value} {rs : List AV} (h : VRs R M vs rs) : isPan rs = false := by
  match rs, h with
  | [], _ => rfl
  | [x], h =>
    match vs, h with
    | [], h => exact absurd h.1 (by simp)
    | u :: _, h =>
      have := h.2 0 (by simp) (by simp)
      simp only [List.getElem_cons_zero] at this
      cases x <;> first | rfl | cases this
  | _ :: _ :: _, _ => rfl

/-- Operations whose answer is a row of the call's own. -/
def ownOp (own : FuncId → Bool) : Op → Bool
  | .move x | .assign x => isNilSl x
  | .buildSlice .. => true
  | .call c => (match c.callee with | .value (.func f) => own f | _ => false)
  | _ => false

section
variable {LOK : LoopA → Prop} {P : Program} {C : Gee} {own : FuncId → Bool} {call : CallT} {R : Reads} {w w' : World} {a : Act} {pf : PF} {M : List Nat}
  {ro : Option Nat} {n : Nat} {next : Act → World → Prop} {Q : Exit → Act → World → Prop}

theorem CallC.mono {c : Cal} {args : Array Value} {Q Q' : Ending → World → Prop} (h : CallC P M c args w Q) (hq : ∀ e w', Q e w' → Q' e w') : CallC P M c args w Q' := by
  cases c with
  | f f => exact Calls.mono h hq
  | y id =>
    obtain ⟨l, f, tmps, asg, body, h1, h2, h3⟩ := h
    exact ⟨l, f, tmps, asg, body, h1, h2, h3.mono hq⟩

theorem semAt_exec {o : Oper} (h : ∀ c, o.op ≠ .defer c) (ρ : Operand → Value) : o.semAt (fen ro).round ρ = execOp ρ o := by
  cases ro with
  | none => rfl
  | some l => exact Oper.semAt_some l ρ o h

theorem wpIn_value {o : Oper} {v : Value} (hnd : ∀ c, o.op ≠ .defer c) (hr : (execOp a.eval o).run P w = .ok (.value v) w') (h : next (a.put o.dst v) w') : o.wpIn (fen ro) n P a w next Q := by
  refine ⟨fun _ _ => trivial, ?_⟩
  rw [semAt_exec hnd, hr]
  exact h

theorem wpIn_skipv {o : Oper} (hnd : ∀ c, o.op ≠ .defer c) (hr : (execOp a.eval o).run P w = .ok .skip w') (h : next (a.put o.dst Go.undef) w') : o.wpIn (fen ro) n P a w next Q := by
  refine ⟨fun _ _ => trivial, ?_⟩
  rw [semAt_exec hnd, hr]
  exact h

theorem calleeAV_sound (hf : FrR R M a.tmps pf) {x : Operand} {k : Cal} {fs cs : List AV} (h : calleeAV pf x = some (k, fs, cs)) :
    ∃ (fn : Fn) (first caps : List Value), a.eval x = .func fn first.toArray caps.toArray ∧ VRs R M first fs ∧ VRs R M caps cs ∧
      (match k with | .f f => fn = .func f | .y id => ∃ l, fn = .yield l ∧ M[id]? = some l ∧ first = [] ∧ caps = []) := by
  cases x with
  | tmp t =>
    simp only [calleeAV] at h
    have hv := hf t
    split at h
    · rename_i f fs' cs' ht
      injection h with h; injection h with h1 h2; injection h2 with h2 h3; subst h1 h2 h3
      rw [ht] at hv
      show ∃ _, _
      have e : a.eval (.tmp t) = a.tmps.getD t Go.undef := rfl
      rw [e]
      generalize a.tmps.getD t Go.undef = v at hv
      cases hv with
      | fn _ first caps _ _ h1 h2 v1 v2 =>
        refine ⟨.func f, first.toList, caps.toList, by simp, ⟨by simpa using h1, fun i k1 k2 => ?_⟩, ⟨by simpa using h2, fun i k1 k2 => ?_⟩, rfl⟩
        · simpa using v1 i (by simpa using k1) k2
        · simpa using v2 i (by simpa using k1) k2
    · rename_i id ht
      injection h with h; injection h with h1 h2; injection h2 with h2 h3; subst h1 h2 h3
      rw [ht] at hv
      have e : a.eval (.tmp t) = a.tmps.getD t Go.undef := rfl
      rw [e]
      generalize a.tmps.getD t Go.undef = v at hv
      cases hv with
      | yld _ l hl => exact ⟨.yield l, [], [], rfl, ⟨rfl, by simp⟩, ⟨rfl, by simp⟩, l, rfl, hl, rfl, rfl⟩
    · cases h
  | const c => cases h
  | global g => cases h
  | func f =>
    simp only [calleeAV] at h
    injection h with h; injection h with h1 h2; injection h2 with h2 h3; subst h1 h2 h3
    exact ⟨.func f, [], [], rfl, ⟨rfl, by simp⟩, ⟨rfl, by simp⟩, rfl⟩

theorem opvs_vrs (hf : FrR R M a.tmps pf) {args : Array Operand} {avs : List AV} (h : opvs pf args.toList = some avs) : VRs R M (args.toList.map a.eval) avs := by
  obtain ⟨hl, hva⟩ := opvs_sound hf h
  exact ⟨by simp [hl], fun i h1 h2 => by have := hva i (by simpa using h1) h2; simpa using this⟩

/-- A call by the machine. -/
theorem wpIn_call (hf : FrR R M a.tmps pf) {dst : Option Tmp} {x : Operand} {args : Array Operand} {tys : Array TypeId} {type : TypeId} {pos : String} {after : Array Edge} {guard : Option (Nat × Bool)}
    {k : Cal} {fs cs avs : List AV} (hk : calleeAV pf x = some (k, fs, cs)) (ha : opvs pf args.toList = some avs) (hcb : ∀ f, k = .f f → callable P f = true)
    (h : ∀ vals, VRs R M vals (fs ++ avs ++ cs) → CallC P M k vals.toArray w fun e w' => (∃ u, e = .returned u ∧ next (a.put dst u) w') ∨ (∃ u, e = .panicked [{ v := u, recovered := false }] ∧ Q (.panic [{ v := u, recovered := false }]) a w')) :
    (⟨dst, .call ⟨.value x, args, tys⟩, type, pos, after, guard⟩ : Oper).wpIn (fen ro) n P a w next Q := by
  obtain ⟨fn, first, caps, he, hfs, hcs, hfn⟩ := calleeAV_sound hf hk
  have hva := opvs_vrs hf ha
  have hvals := h (first ++ args.toList.map a.eval ++ caps) ((hfs.append hva).append hcs)
  refine ⟨fun _ _ => trivial, ?_⟩
  rw [semAt_exec (by simp)]
  cases k with
  | f f =>
    simp only at hfn
    subst hfn
    have hc := hcb f rfl
    unfold callable at hc
    split at hc
    case h_2 => cases hc
    rename_i fn hfn
    simp only [Bool.and_eq_true, bne_iff_ne] at hc
    obtain ⟨cb, hbody⟩ := Option.isSome_iff_exists.1 hc.2
    have hrun : (execOp a.eval ⟨dst, .call ⟨.value x, args, tys⟩, type, pos, after, guard⟩).run P w = .ok (.enter f (first ++ args.toList.map a.eval ++ caps).toArray) w := by
      have e : (first ++ args.toList.map a.eval ++ caps).toArray = first.toArray ++ args.map a.eval ++ caps.toArray := by
        apply Array.toList_inj.1; simp
      rw [e]
      simp [execOp, resolve, he, Deferred.ofValue, invoke, callFunc, program, Sem.run, hfn, hc.1, hbody]
    rw [hrun]
    refine ⟨fun h => by simp [fen, Fence.wide] at h, ?_⟩
    have hw : Calls P f (first ++ args.toList.map a.eval ++ caps).toArray w _ := hvals
    have := (callsIn_wide (n := n - 1)).2 hw
    exact CallsIn.mono (F := fen ro) this fun e w' hp => by
      rcases hp with ⟨u, rfl, hn⟩ | ⟨u, rfl, hn⟩
      · exact hn
      · exact hn
  | y id =>
    obtain ⟨l, rfl, hl, rfl, rfl⟩ := hfn
    obtain ⟨l', f, tmps, asg, body, h1, h2, h3⟩ := hvals
    rw [hl] at h1
    injection h1 with h1
    subst h1
    have hrun : (execOp a.eval ⟨dst, .call ⟨.value x, args, tys⟩, type, pos, after, guard⟩).run P w = .ok (.round l f tmps asg body) w := by
      rw [← h2]
      have e : ([] ++ args.toList.map a.eval ++ []).toArray = args.map a.eval := by apply Array.toList_inj.1; simp
      rw [e]
      simp [execOp, resolve, he, Deferred.ofValue, invoke]
    rw [hrun]
    refine ⟨fun h => by simp [fen, Fence.wide] at h, ?_⟩
    have h4 : RoundIn Fence.wide (n - 1) P l f tmps asg body w _ := ⟨h3.1, fun c cs _ => h3.2 c cs (room_wide _)⟩
    exact RoundIn.mono (F := fen ro) h4 fun e w' hp => by
      rcases hp with ⟨u, rfl, hn⟩ | ⟨u, rfl, hn⟩
      · exact hn
      · exact hn

theorem nilAV_sl {t : TypeId} {x : AV} (h : nilAV P t = some x) : ∃ sz, x = .sl sz [] := by
  unfold nilAV at h
  split at h
  · split at h
    · injection h with h; exact ⟨_, h.symm⟩
    · cases h
  · cases h

theorem isNilSl_eval {x : Operand} (h : isNilSl x = true) (a : Act) : a.eval x = .slice none 0 0 := by
  unfold isNilSl at h
  split at h
  · rfl
  · cases h

theorem mains_nil_sub (M : List Nat) : ∀ (i b : Nat), ([] : List Nat)[i]? = some b → M[i]? = some b := by intro i b h; simp at h

theorem OwnV.up {base base' : Nat} {v : Value} {sz : Nat} (h : OwnV R base w v sz) (hb : ∀ b, blockOf v = some b → base' ≤ b) : OwnV R base' w v sz := by
  rcases h with h7 | ⟨b, n', c2, cur, e, h7, h8, h9⟩
  · exact .inl h7
  · exact .inr ⟨b, n', c2, cur, e, h7, hb b (by rw [h7]; rfl), h9⟩

/-- A call that touches no object. -/
theorem callP_sound (hcall : ∀ c, COK LOK P C own c (call c)) (hcb : ∀ f avs S r, call (.f f) avs S = some r → callable P f = true) {bl : BL} (hG : Gd C R bl w) (hs : Stab R w) {c : Cal} {vals : List Value} {avs : List AV} {x : AV}
    (hv : VRs R M vals avs) (h : callP call c avs = some x) :
    (∀ f, c = .f f → callable P f = true) ∧ CallC P M c vals.toArray w fun e w' => ∃ v R', e = .returned v ∧ St R w R' w' none ∧ VR R' M v x ∧
      (ownC own c = true → ∃ sz xs, x = .sl sz xs ∧ OwnV R' w.heap.size w' v sz) := by
  cases c with
  | y id => cases h
  | f f =>
    simp only [callP] at h
    split at h
    case isFalse => cases h
    rename_i hnb
    split at h
    case h_2 => cases h
    rename_i rs S' hc
    split at h
    case isFalse => cases h
    rename_i hnr
    injection h with h; subst h
    refine ⟨fun f' e => by injection e with e; exact e ▸ hcb f avs [] _ hc, ?_⟩
    have hsr : SR LOK R [] w [] := ⟨rfl, by simp [fp], by simp [fp], by simp⟩
    refine CallC.mono (hcall (.f f) R [] w [] vals avs rs S' hG.bare hs hsr (hv.noBox hnb) hc) fun e w' hp => ?_
    rcases hp with ⟨vs, R', bl', rfl, hvs, hst, hsr', hO⟩ | ⟨x, u, R', bl', rfl, _⟩
    case inr => simp [noBoxL, noBox] at hnr
    refine ⟨retv vs, R', rfl, ⟨hst.sub, fun q u hq => ?_, hst.stab, hst.os, hst.tape, hst.output, hst.size, fun k hk _ => hst.blk k hk (by simp [fp])⟩, (hvs.noBox hnr).pack, fun ho => ?_⟩
    · rcases hst.new q u hq with h1 | h1 | h1
      · exact .inl h1
      · simp [fp] at h1
      · exact .inr (.inr h1)
    · obtain ⟨v, sz, xs, rfl, rfl, h1, h2⟩ := hO ho
      exact ⟨sz, xs, rfl, h1.up fun b hb => by
        rcases (h2 b hb).1 with h3 | h3
        · exact h3
        · simp [fp] at h3⟩

theorem loadD_sound {bl : BL} {S : Obs} (hf : FrR R (mains bl) a.tmps pf) (hs : Stab R w) (hsr : SR LOK R bl w S) {t : TypeId} {y : Operand} {x : AV} (h : loadD P t (opv pf y) S = some x) :
    ∃ v, (Instr.loadAt t (a.eval y)).run P w = .ok v w ∧ VR R (mains bl) v x := by
  unfold loadD at h
  split at h
  · rename_i ty v ht hy
    have hv := opv_sound hf hy
    have hp : ∃ A, a.eval y = .pointer (some A) := by
      generalize a.eval y = u at hv
      cases hv with
      | ref A _ f _ _ => exact ⟨A, rfl⟩
    obtain ⟨A, hA⟩ := hp
    rw [hA] at hv ⊢
    obtain ⟨u, hr, hu⟩ := load_sound hs hv ht h
    exact ⟨u, by simpa [Instr.loadAt, Instr.sureAddr] using hr, hu⟩
  · rename_i ty id off ht hy
    obtain ⟨i, d, hi, hd, h1, h2, h3, h4, h5⟩ := tyOf_u ht
    have hv := opv_sound hf hy
    have hp : ∃ b, a.eval y = .pointer (some ⟨b, off, none⟩) ∧ (mains bl)[id]? = some b := by
      generalize a.eval y = u at hv
      cases hv with
      | box _ _ b hb => exact ⟨b, rfl, hb⟩
    obtain ⟨b, hA, hb⟩ := hp
    rw [hA]
    obtain ⟨p, hp, rfl⟩ := mains_inv hb
    split at h
    · rename_i sz xs hS
      split at h
      case isFalse => cases h
      rename_i hoff
      injection h with h; subst h
      obtain ⟨qq, g1, g2, v, e, g3, g4, g5, g6, g7⟩ := hsr.obj id p _ hp hS
      refine ⟨v, ?_, g5⟩
      have hc : w.cell? ⟨p.1, 0, none⟩ = some v := by rw [cells_of_block g3]; rfl
      simp [Instr.loadAt, Instr.sureAddr, loadVar, run_isAgg hd, ← h3, hoff.1, hoff.2, run_load, hc]
    · rename_i cs hS
      obtain ⟨g1, g2, vals, e, g3, g4, g5⟩ := hsr.obj id p _ hp hS
      unfold partAV at h
      by_cases ha : ty.agg = true
      · simp only [ha, if_true] at h
        split at h
        case isFalse => cases h
        rename_i hle
        injection h with h; subst h
        have hcell : ∀ j, j < i.size → w.cell? ((⟨p.1, off, none⟩ : Addr).add j) = some ((fun j => (vals[off + j]?).getD Go.undef) j) := by
          intro j hj
          have hadd : (⟨p.1, off, none⟩ : Addr).add j = ⟨p.1, off + j, none⟩ := by unfold Addr.add; split <;> simp_all
          rw [hadd, cells_of_block g3]
          have : off + j < vals.size := by omega
          simp [Array.getElem?_eq_getElem this]
        have hld := run_loadCells (P := P) w ⟨p.1, off, none⟩ i.size _ hcell
        refine ⟨.agg ((List.range i.size).map fun j => (vals[off + j]?).getD Go.undef).toArray, ?_, ?_⟩
        · simp [Instr.loadAt, Instr.sureAddr, loadVar, run_isAgg hd, ← h3, ha, run_size hi, hld]
        · refine .agg _ _ (by simp; omega) fun j hj1 hj2 => ?_
          have hj1' : j < i.size := by simpa using hj1
          have h6 : off + j < vals.size := by omega
          have h7 := (g5 (off + j) h6 (by omega)).1
          simpa [Array.getElem?_eq_getElem h6] using h7
      · simp only [ha, if_false, Bool.false_eq_true] at h
        obtain ⟨hlt, he⟩ := List.getElem?_eq_some_iff.1 h
        subst he
        have h6 : off < vals.size := by omega
        have hc : w.cell? ⟨p.1, off, none⟩ = some vals[off] := by rw [cells_of_block g3]; exact Array.getElem?_eq_getElem h6
        refine ⟨vals[off], ?_, (g5 off h6 hlt).1⟩
        simp [Instr.loadAt, Instr.sureAddr, loadVar, run_isAgg hd, ← h3, ha, run_load, hc]
    · rename_i cs hS
      obtain ⟨g1, g0, g2, vals, e, kk, g3, g8, g9, g4, g5⟩ := hsr.obj id p _ hp hS
      unfold partAV at h
      by_cases ha : ty.agg = true
      · simp only [ha, if_true] at h
        split at h
        case isFalse => cases h
        rename_i hle
        injection h with h; subst h
        have hcell : ∀ j, j < i.size → w.cell? ((⟨p.1, off, none⟩ : Addr).add j) = some ((fun j => (vals[off + j]?).getD Go.undef) j) := by
          intro j hj
          have hadd : (⟨p.1, off, none⟩ : Addr).add j = ⟨p.1, off + j, none⟩ := by unfold Addr.add; split <;> simp_all
          rw [hadd, cells_of_block g3]
          have : off + j < vals.size := by omega
          simp [Array.getElem?_eq_getElem this]
        have hld := run_loadCells (P := P) w ⟨p.1, off, none⟩ i.size _ hcell
        refine ⟨.agg ((List.range i.size).map fun j => (vals[off + j]?).getD Go.undef).toArray, ?_, ?_⟩
        · simp [Instr.loadAt, Instr.sureAddr, loadVar, run_isAgg hd, ← h3, ha, run_size hi, hld]
        · refine .agg _ _ (by simp; omega) fun j hj1 hj2 => ?_
          have hj1' : j < i.size := by simpa using hj1
          have h6 : off + j < vals.size := by omega
          have h7 := (g5 (off + j) h6 (by omega)).1
          simpa [Array.getElem?_eq_getElem h6] using h7
      · simp only [ha, if_false, Bool.false_eq_true] at h
        obtain ⟨hlt, he⟩ := List.getElem?_eq_some_iff.1 h
        subst he
        have h6 : off < vals.size := by omega
        have hc : w.cell? ⟨p.1, off, none⟩ = some vals[off] := by rw [cells_of_block g3]; exact Array.getElem?_eq_getElem h6
        refine ⟨vals[off], ?_, (g5 off h6 hlt).1⟩
        simp [Instr.loadAt, Instr.sureAddr, loadVar, run_isAgg hd, ← h3, ha, run_load, hc]
    · cases h
  · cases h

end
end Go.Proofs.YtmcfnnpihlediaaGreatDoor.Ex

/- Operations that leave the objects as they are, done. -/
namespace Go.Proofs.YtmcfnnpihlediaaGreatDoor.Ex
open Go Go.RowKit

section
variable {LOK : LoopA → Prop} {P : Program} {C : Gee} {own : FuncId → Bool} {call : CallT} {R : Reads} {w w' : World} {a : Act} {pf : PF} {M : List Nat} {bl : BL} {S : Obs}
  {ro : Option Nat} {n : Nat} {next : Act → World → Prop} {Q : Exit → Act → World → Prop}

theorem add_addr (b off j : Nat) : (⟨b, off, none⟩ : Addr).add j = ⟨b, off + j, none⟩ := by
  unfold Addr.add; split <;> simp_all

theorem flat_cells {x : AV} (h : flatAV x = true) : x.cells = [x] := by
  cases x <;> first | rfl | (cases h; done)

theorem zOk_sound {M : List Nat} {v : Value} {x : AV} (h : zOk v x = true) : VR R M v x ∧ v.oneCell' = true := by
  unfold zOk at h
  split at h
  · simp at h; obtain ⟨rfl, rfl⟩ := h; exact ⟨.int _ _, rfl⟩
  · simp at h; subst h; exact ⟨.bool _, rfl⟩
  · rename_i s l
    simp at h
    have e : s = ⟨l.toArray⟩ := by rw [← h]
    rw [e]; exact ⟨.str _, rfl⟩
  · exact ⟨.slnil _, rfl⟩
  · exact ⟨.nils, rfl⟩
  · exact ⟨.nilp, rfl⟩
  · exact ⟨.errn, rfl⟩
  · cases h

theorem zerosOk_sound {M : List Nat} {vs : List Value} {xs : List AV} (h : zerosOk vs xs = true) :
    vs.length = xs.length ∧ ∀ j (h1 : j < vs.length) (h2 : j < xs.length), VR R M vs[j] xs[j] ∧ vs[j].oneCell' = true := by
  unfold zerosOk at h
  simp only [Bool.and_eq_true, beq_iff_eq, List.all_eq_true] at h
  refine ⟨h.1, fun j h1 h2 => zOk_sound (h.2 (vs[j], xs[j]) ?_)⟩
  have : (vs.zip xs)[j]? = some (vs[j], xs[j]) := by
    rw [List.getElem?_zip_eq_some]; simp [h1, h2]
  exact List.mem_of_getElem? this

theorem vrs_take {vs : List Value} {xs : List AV} (h : VRs R M vs xs) (k : Nat) : VRs R M (vs.take k) (xs.take k) := by
  refine ⟨by simp [h.1], fun i h1 h2 => ?_⟩
  simp only [List.getElem_take]
  exact h.2 i _ _
theorem vrs_drop {vs : List Value} {xs : List AV} (h : VRs R M vs xs) (k : Nat) : VRs R M (vs.drop k) (xs.drop k) := by
  refine ⟨by simp [h.1], fun i h1 h2 => ?_⟩
  simp only [List.getElem_drop]
  exact h.2 _ _ _

theorem setCells_list : ∀ (l : List Value) (k off : Nat) (cs : Array Value), off + k + l.length ≤ cs.size →
    ((l.zipIdx k).foldl (fun cs (p : Value × Nat) => cs.setIfInBounds (off + p.2) p.1) cs).toList = cs.toList.take (off + k) ++ l ++ cs.toList.drop (off + k + l.length)
  | [], k, off, cs, h => by simp
  | v :: l, k, off, cs, h => by
    simp only [List.zipIdx_cons, List.foldl_cons, List.length_cons] at h ⊢
    rw [setCells_list l (k + 1) off _ (by simp; omega)]
    simp only [Array.toList_setIfInBounds]
    have hlt : off + k < cs.toList.length := by simp; omega
    have e1 : (cs.toList.set (off + k) v).take (off + (k + 1)) = cs.toList.take (off + k) ++ [v] := by
      rw [← Nat.add_assoc, List.take_set, List.take_succ_eq_append_getElem hlt, List.set_append_right _ _ (by simp; omega)]
      have hle : min (off + k) cs.size = off + k := by simp at hlt; omega
      simp [hle]
    have e2 : (cs.toList.set (off + k) v).drop (off + (k + 1) + l.length) = cs.toList.drop (off + k + (l.length + 1)) := by
      rw [List.drop_set_of_lt (by omega)]
      congr 1; omega
    rw [e1, e2]
    simp

def szOf (P : Program) (t : TypeId) : Nat := ((P.info? t).map (·.size)).getD 0

theorem run_places (F : Array Field) (h : ∀ f ∈ F.toList, (P.info? f.type).isSome = true) :
    (F.mapM (m := Sem) fun f => do pure (f.offset, ← sizeOf f.type)).run P w = .ok (F.map fun f => (f.offset, szOf P f.type)) w := by
  have key : ∀ (l : List Field), (∀ f ∈ l, (P.info? f.type).isSome = true) → (l.mapM (m := Sem) fun f => do pure (f.offset, ← sizeOf f.type)).run P w = .ok (l.map fun f => (f.offset, szOf P f.type)) w := by
    intro l
    induction l with
    | nil => intro _; rfl
    | cons f r ih =>
      intro hl
      obtain ⟨i, hi⟩ := Option.isSome_iff_exists.1 (hl f (by simp))
      have := ih fun g hg => hl g (List.mem_cons_of_mem _ hg)
      simp only [List.mapM_cons, Sem.run_bind, run_size hi, Result.andThen_ok, Sem.run_pure, this]
      simp [szOf, hi]
  obtain ⟨l⟩ := F
  rw [List.mapM_toArray, Sem.run_map, key l h]
  simp

theorem putPart_sound (hf : FrR R M a.tmps pf) {F : Array Field} : ∀ (parts : List (Nat × Operand)) (cells : Array Value) (xs xs' : List AV), VRs R M cells.toList xs →
    putPart P (F.toList.map fun f => (f.type, f.offset)) pf parts xs = some xs' →
    ∃ cells', Instr.fill ((F.map fun f => (f.offset, szOf P f.type))[·]?) cells (parts.map fun p => (p.1, a.eval p.2)) = some cells' ∧ VRs R M cells'.toList xs'
  | [], cells, xs, xs', hv, h => by
    simp only [putPart] at h; injection h with h; subst h
    exact ⟨cells, rfl, hv⟩
  | (i, x) :: r, cells, xs, xs', hv, h => by
    simp only [putPart] at h
    split at h
    case h_2 => cases h
    rename_i ft off hfs
    split at h
    case h_2 => cases h
    rename_i ty v hty hx
    split at h
    case isFalse => cases h
    rename_i hc
    simp only [List.getElem?_map, Option.map_eq_some_iff] at hfs
    obtain ⟨f, hF, he⟩ := hfs
    injection he with e1 e2
    subst e1 e2
    obtain ⟨i2, u2, hi2, hu2, k1, _⟩ := tyOf_u hty
    have hvx : VR R M (a.eval x) v := by
      cases hox : opv pf x with
      | none => rw [hox] at hx; cases hx
      | some y =>
        have hy := opv_sound hf hox
        rw [hox] at hx
        by_cases hn : y = .nils
        · subst hn
          simp only [mvAV] at hx
          obtain ⟨sz, rfl⟩ := nilAV_sl hx
          generalize a.eval x = u at hy
          cases hy with
          | nils => exact .slnil sz
        · have : mvAV P f.type (some y) = some y := by cases y <;> first | rfl | exact absurd rfl hn
          rw [this] at hx
          injection hx with hx; subst hx
          exact hy
    obtain ⟨hc1, hc2⟩ := hvx.cells
    have hlen : cells.size = xs.length := by have := hv.1; simpa using this
    have hp : (F.map fun f => (f.offset, szOf P f.type))[i]? = some (f.offset, szOf P f.type) := by
      have : F[i]? = some f := by simpa using hF
      simp [this]
    have hsz : szOf P f.type = ty.size := by simp [szOf, hi2, k1]
    have hnew : VRs R M (((a.eval x).cells.zipIdx.foldl (fun cs (p : Value × Nat) => cs.setIfInBounds (f.offset + p.2) p.1) cells)).toList (xs.take f.offset ++ v.cells ++ xs.drop (f.offset + v.cells.length)) := by
      rw [← Array.foldl_toList, Array.toList_zipIdx, setCells_list _ 0 f.offset cells (by simp; omega)]
      simp only [Nat.add_zero, Array.length_toList, hc1]
      refine ((vrs_take hv _).append ⟨by simpa using hc1, fun j k1 k2 => by simpa using hc2 j (by simpa using k1) k2⟩).append (vrs_drop hv _)
    obtain ⟨cells', h1, h2⟩ := putPart_sound hf r _ _ xs' hnew h
    refine ⟨cells', ?_, h2⟩
    simp only [List.map_cons, Instr.fill, hp]
    rw [if_neg (by simp; omega)]
    exact h1

theorem build_core {o : Oper} {t : TypeId} {parts : Array (Nat × Operand)} (ho : o.op = .build t parts) {x : AV} (hf : FrR R M a.tmps pf) {fs : List (TypeId × Nat)} {z : Value} {sz by_ : Nat} {ag : Bool} {zs : List AV}
    (ht : tyOf P t = some ⟨sz, by_, ag, .struct fs, some z⟩) (hall : fs.all (fun f => (tyOf P f.1).isSome) = true) (hz : zerosOk z.cells.toList zs = true) (h : (putPart P fs pf parts.toList zs).map .agg = some x) :
    ∃ v, (execOp a.eval o).run P w = .ok (.value v) w ∧ VR R M v x := by
  simp only [Option.map_eq_some_iff] at h
  obtain ⟨xs, hxs, rfl⟩ := h
  obtain ⟨i, u, hi, hu, k1, k2, k3, k4, k5⟩ := tyOf_u ht
  obtain ⟨F, rfl, rfl⟩ := aggOf_struct k4.symm
  have hz2 := zerosOk_sound (R := R) (M := M) hz
  have hiz : i.zero = some z := by rw [← k5]
  obtain ⟨cells', h1, h2⟩ := putPart_sound (P := P) (a := a) hf parts.toList z.cells zs xs ⟨hz2.1, fun j j1 j2 => (hz2.2 j j1 j2).1⟩ hxs
  have hpl := run_places (P := P) (w := w) F fun f hf' => by
    have := List.all_eq_true.1 hall (f.type, f.offset) (List.mem_map.2 ⟨f, hf', rfl⟩)
    obtain ⟨ty, hty⟩ := Option.isSome_iff_exists.1 this
    obtain ⟨i2, u2, hi2, _⟩ := tyOf_u hty
    rw [hi2]; rfl
  refine ⟨.agg cells', ?_, .agg _ _ (by simpa using h2.1) fun j j1 j2 => by rw [← Array.getElem_toList]; exact h2.2 j (by simpa using j1) j2⟩
  have hparts : (parts.map fun x => (x.1, a.eval x.2)).toList = parts.toList.map fun p => (p.1, a.eval p.2) := by simp
  simp only [execOp, ho, Instr.build, zeroValue, Sem.run_bind, run_info hi, hiz, Result.andThen_ok, Sem.run_pure, run_und hu, hpl]
  have hp2 : (parts.map fun (x : Nat × Operand) => match x with | (i, x) => (i, a.eval x)).toList = parts.toList.map fun p => (p.1, a.eval p.2) := by simp
  rw [hp2, h1]
  simp

theorem evBuildN_sound {o : Oper} {t : TypeId} {parts : Array (Nat × Operand)} (ho : o.op = .build t parts) {x : AV} (hf : FrR R M a.tmps pf) (h : evBuildN P t parts.toList pf = some x) :
    ∃ v, (execOp a.eval o).run P w = .ok (.value v) w ∧ VR R M v x := by
  unfold evBuildN at h
  split at h
  case h_2 => cases h
  rename_i _ _ _ fs z ht
  split at h
  case isFalse => cases h
  rename_i hall
  split at h
  case h_2 => cases h
  rename_i zs hzs
  split at h
  case isFalse => cases h
  rename_i hz
  exact build_core ho hf ht hall hz h

theorem evPlace_sound {o : Oper} {x : AV} (hf : FrR R M a.tmps pf) (h : evPlace P o.op pf = some x) : ∃ v, (execOp a.eval o).run P w = .ok (.value v) w ∧ VR R M v x := by
  obtain ⟨dst, op, type, pos, after, guard⟩ := o
  simp only at h
  cases op <;> try (simp [evPlace] at h; done)
  case fieldAddr t y f =>
    simp only [evPlace] at h
    split at h
    · rename_i fs ht
      obtain ⟨i, u, hi, hu, _, _, _, h6, _⟩ := tyOf_u ht
      obtain ⟨F, rfl, rfl⟩ := aggOf_struct h6.symm
      split at h
      · rename_i ft off id o' hfo hy
        split at h
        case h_2 => cases h
        rename_i ty hty
        split at h
        · cases h
        rename_i hz
        injection h with h; subst h
        obtain ⟨i2, u2, hi2, hu2, k1, _⟩ := tyOf_u hty
        simp only [List.getElem?_map, Option.map_eq_some_iff] at hfo
        obtain ⟨fld, hfld, he⟩ := hfo
        injection he with he1 he2
        subst he1 he2
        have hfld' : F[f]? = some fld := by simpa using hfld
        have hv := opv_sound hf hy
        have hp : ∃ b, a.eval y = .pointer (some ⟨b, o', none⟩) ∧ M[id]? = some b := by
          generalize a.eval y = u at hv
          cases hv with
          | box _ _ b hb => exact ⟨b, rfl, hb⟩
        obtain ⟨b, hA, hb⟩ := hp
        refine ⟨.pointer (some ⟨b, o' + fld.offset, none⟩), ?_, .box _ _ b hb⟩
        have hz' : ¬ i2.size = 0 := by omega
        simp [execOp, Instr.fieldAt, Instr.sureAddr, hA, run_und hu, hfld', fieldPlace, run_size hi2, hz', add_addr]
      · rename_i ft off cs hfo hy
        split at h
        case h_2 => cases h
        rename_i ty hty
        split at h
        · cases h
        rename_i hz
        split at h
        case h_2 => cases h
        rename_i v hpart
        split at h
        case isFalse => cases h
        rename_i hflat
        injection h with h; subst h
        obtain ⟨i2, u2, hi2, hu2, k1, k2, k3, _⟩ := tyOf_u hty
        simp only [List.getElem?_map, Option.map_eq_some_iff] at hfo
        obtain ⟨fld, hfld, he⟩ := hfo
        injection he with he1 he2
        subst he1 he2
        have hfld' : F[f]? = some fld := by simpa using hfld
        have hv := opv_sound hf hy
        have hp : ∃ (A : Addr) (fn : Nat → Value), a.eval y = .pointer (some A) ∧ (∀ j, j < cs.length → R (A.add j) (fn j)) ∧ (∀ j (hj : j < cs.length), VR R M (fn j) cs[j]) := by
          generalize a.eval y = u at hv
          cases hv with
          | ref A _ fn h1 h2 => exact ⟨A, fn, rfl, h1, h2⟩
        obtain ⟨A, fn, hA, hR, hV⟩ := hp
        have hz' : ¬ i2.size = 0 := by omega
        refine ⟨.pointer (some (A.add fld.offset)), by simp [execOp, Instr.fieldAt, Instr.sureAddr, hA, run_und hu, hfld', fieldPlace, run_size hi2, hz'], ?_⟩
        refine .ref _ _ (fun j => fn (fld.offset + j)) (fun j hj => ?_) (fun j hj => ?_)
        · rw [add_add]
          refine hR _ ?_
          unfold partAV at hpart
          split at hpart
          · split at hpart
            · injection hpart with hpart; subst hpart
              simp [AV.cells] at hj; omega
            · cases hpart
          · rename_i hagg
            obtain ⟨hlt, _⟩ := List.getElem?_eq_some_iff.1 hpart
            have hfl : flatAV v = true := by simpa [hagg] using hflat
            rw [flat_cells hfl] at hj
            simp at hj; omega
        · unfold partAV at hpart
          split at hpart
          · split at hpart
            · injection hpart with hpart; subst hpart
              simp [AV.cells] at hj ⊢
              exact hV _ (by omega)
            · cases hpart
          · rename_i hagg
            obtain ⟨hlt, he⟩ := List.getElem?_eq_some_iff.1 hpart
            have hfl : flatAV v = true := by simpa [hagg] using hflat
            have hc := flat_cells hfl
            have hj0 : j = 0 := by rw [hc] at hj; simp at hj; exact hj
            subst hj0
            have := hV fld.offset hlt
            rw [he] at this
            simp only [hc, List.getElem_cons_zero, Nat.add_zero]
            exact this
      · cases h
    · cases h
  case nilCheck y =>
    simp only [evPlace] at h
    have key : ∀ u, VR R M u x → (∀ (pre : opv pf y = some x), a.eval y = u → (∃ A, u = .pointer (some A)) ∨ (∃ f a b, u = .func (.func f) a b) ∨ (∃ f a b, u = .func (.yield f) a b)) := by
      intro u hu pre he
      rw [pre] at h
      cases hu <;> simp at h <;> simp
    split at h <;> first | (cases h; done) | skip
    all_goals
      rename_i hy
      injection h with h; subst h
      have hv := opv_sound hf hy
      rcases key _ hv hy rfl with ⟨A, hA⟩ | ⟨f, b, c, hA⟩ | ⟨f, b, c, hA⟩
      all_goals exact ⟨_, by simp [execOp, hA]; rfl, by rw [hA] at hv; exact hv⟩
  case build t parts =>
    simp only [evPlace, evBuild] at h
    split at h
    case h_2 => cases h
    rename_i _ _ _ fs z ht
    split at h
    case isFalse => cases h
    rename_i hall
    split at h
    case h_2 => cases h
    rename_i zs hzs
    split at h
    case isFalse => cases h
    rename_i hz
    exact build_core rfl hf ht hall hz h
  case makeFunc fn first caps =>
    simp only [evPlace] at h
    split at h
    · rename_i f fs cs h1 h2
      injection h with h; subst h
      have v1 := opvs_vrs hf h1
      have v2 := opvs_vrs hf h2
      refine ⟨.func (.func f) (first.map a.eval) (caps.map a.eval), by simp [execOp, Instr.makeFunc], ?_⟩
      refine .fn f _ _ fs cs (by simpa using v1.1) (by simpa using v2.1) (fun i k1 k2 => ?_) (fun i k1 k2 => ?_)
      · have := v1.2 i (by simpa using k1) k2; simpa using this
      · have := v2.2 i (by simpa using k1) k2; simpa using this
    · cases h

theorem opD_val (hcall : ∀ c, COK LOK P C own c (call c)) (hcb : ∀ f avs S r, call (.f f) avs S = some r → callable P f = true) (hG : Gd C R bl w) (hs : Stab R w) (hsr : SR LOK R bl w S)
    (hf : FrR R (mains bl) a.tmps pf) {o : Oper} {x : AV} (hev : evOpD P call S o pf = some x)
    (hn : ∀ v w' R', St R w R' w' none → VR R' (mains bl) v x → (ownOp own o.op = true → ∃ sz xs, x = .sl sz xs ∧ OwnV R' w.heap.size w' v sz) →
      (∀ t, o.op = .move (.tmp t) ∨ o.op = .assign (.tmp t) → v = a.tmps.getD t Go.undef ∧ ∀ sz xs, pf t = .sl sz xs → x = .sl sz xs) → next (a.put o.dst v) w') : o.wpIn (fen ro) n P a w next Q := by
  have plain : evPlain P o.op o.type pf = some x → (∀ c, o.op ≠ .defer c) → ((∀ y, o.op ≠ .move y ∧ o.op ≠ .assign y)) → ownOp own o.op = false → o.wpIn (fen ro) n P a w next Q := by
    intro hp hnd hmv hno
    obtain ⟨v, hr, hv⟩ := evPlain_sound (w := w) hf hs hp
    refine wpIn_value hnd hr (hn v w R (St.refl hs _) hv (fun h => by rw [hno] at h; cases h) (fun t ht => ?_))
    rcases ht with ht | ht
    · exact absurd ht (hmv _).1
    · exact absurd ht (hmv _).2
  have place : evPlace P o.op pf = some x → (∀ c, o.op ≠ .defer c) → ((∀ y, o.op ≠ .move y ∧ o.op ≠ .assign y)) → ownOp own o.op = false → o.wpIn (fen ro) n P a w next Q := by
    intro hp hnd hmv hno
    obtain ⟨v, hr, hv⟩ := evPlace_sound (w := w) hf hp
    refine wpIn_value hnd hr (hn v w R (St.refl hs _) hv (fun h => by rw [hno] at h; cases h) (fun t ht => ?_))
    rcases ht with ht | ht
    · exact absurd ht (hmv _).1
    · exact absurd ht (hmv _).2
  obtain ⟨dst, op, type, pos, after, guard⟩ := o
  have mv : ∀ y, (op = .move y ∨ op = .assign y) → (⟨dst, op, type, pos, after, guard⟩ : Oper).wpIn (fen ro) n P a w next Q := by
    intro y hy
    have hp : evPlain P op type pf = some x := by
      rcases hy with rfl | rfl <;> exact hev
    have hp2 : mvAV P type (opv pf y) = some x := by
      rcases hy with rfl | rfl <;> exact hp
    have hrun : (execOp a.eval ⟨dst, op, type, pos, after, guard⟩).run P w = .ok (.value (a.eval y)) w := by
      rcases hy with rfl | rfl <;> simp [execOp]
    obtain ⟨v, hr, hv⟩ := evPlain_sound (w := w) (o := ⟨dst, op, type, pos, after, guard⟩) hf hs hp
    rw [hrun] at hr
    injection hr with hr _; injection hr with hr; subst hr
    refine wpIn_value (by rcases hy with rfl | rfl <;> simp) hrun (hn _ w R (St.refl hs _) hv ?_ ?_)
    · intro ho
      have ho' : isNilSl y = true := by rcases hy with rfl | rfl <;> exact ho
      have hny : opv pf y = some .nils := by
        unfold isNilSl at ho'
        split at ho'
        · rfl
        · cases ho'
      rw [hny] at hp2
      obtain ⟨sz, rfl⟩ := nilAV_sl (show nilAV P type = some x from hp2)
      exact ⟨sz, [], rfl, by rw [isNilSl_eval ho']; exact .inl rfl⟩
    · intro t ht
      have hyt : y = .tmp t := by
        rcases hy with rfl | rfl <;> rcases ht with ht | ht <;> (simp at ht; try exact ht)
      subst hyt
      refine ⟨rfl, fun sz xs hpt => ?_⟩
      simp only [opv, hpt, mvAV] at hp2
      injection hp2 with hp2
      exact hp2.symm
  cases op
  case move y => exact mv y (.inl rfl)
  case assign y => exact mv y (.inr rfl)
  case buildSlice t m parts =>
    obtain ⟨v, w', R', sz, xs, hr, hst, hx, hv, ho⟩ := evBS_sound (w := w) (o := ⟨dst, .buildSlice t m parts, type, pos, after, guard⟩) rfl hf hs hev
    exact wpIn_value (by simp) hr (hn v w' R' hst hv (fun _ => ⟨sz, xs, hx, ho⟩) (fun t ht => by rcases ht with ht | ht <;> cases ht))
  case load t y =>
    obtain ⟨v, hr, hv⟩ := loadD_sound hf hs hsr hev
    refine wpIn_value (by simp) (v := v) (w' := w) (by simp [execOp, hr]) (hn v w R (St.refl hs _) hv (fun h => by cases h) (fun t ht => by rcases ht with ht | ht <;> cases ht))
  case fieldAddr t y f => exact place hev (by simp) (fun y => ⟨by simp, by simp⟩) rfl
  case nilCheck y => exact place hev (by simp) (fun y => ⟨by simp, by simp⟩) rfl
  case build t parts => exact place hev (by simp) (fun y => ⟨by simp, by simp⟩) rfl
  case makeFunc fn first caps => exact place hev (by simp) (fun y => ⟨by simp, by simp⟩) rfl
  case alloc t => cases hev
  case box t y => cases hev
  case store t y z => cases hev
  case call c =>
    obtain ⟨cal, args, tys⟩ := c
    cases cal with
    | value fo =>
      simp only [evOpD] at hev
      split at hev
      · rename_i k fs cs avs hk ha
        have hcb' : ∀ f, k = .f f → callable P f = true := by
          intro f hkf
          subst hkf
          simp only [callP] at hev
          split at hev
          · split at hev
            · rename_i r hr; exact hcb f _ _ _ hr
            · cases hev
          · cases hev
        refine wpIn_call hf hk ha hcb' fun vals hvals => ?_
        refine CallC.mono (callP_sound hcall hcb hG hs hvals hev).2 fun e w' hp => ?_
        obtain ⟨v, R', rfl, hst, hv, hO⟩ := hp
        refine .inl ⟨v, rfl, hn v w' R' hst hv (fun ho => ?_) (fun t ht => by rcases ht with ht | ht <;> cases ht)⟩
        cases fo with
        | func f =>
          simp only [calleeAV] at hk
          injection hk with hk; injection hk with hk _; subst hk
          exact hO ho
        | tmp t => cases ho
        | const v => cases ho
        | global g => cases ho
      · cases hev
    | invoke r m => cases hev
    | builtin b =>
      cases b <;> first | (exact plain hev (by simp) (fun y => ⟨by simp, by simp⟩) rfl) | (cases hev; done)
  case defer c => cases hev
  all_goals exact plain hev (by simp) (fun y => ⟨by simp, by simp⟩) rfl

end
end Go.Proofs.YtmcfnnpihlediaaGreatDoor.Ex

/- Steps on objects: a new one; one that is changed. -/
namespace Go.Proofs.YtmcfnnpihlediaaGreatDoor.Ex
open Go Go.RowKit

theorem fp_append (a b : BL) : fp (a ++ b) = fp a ++ fp b := by simp [fp]
theorem fp_cons (p : Nat × List Nat) (r : BL) : fp (p :: r) = p.2 ++ fp r := by simp [fp]
theorem mains_append (a b : BL) : mains (a ++ b) = mains a ++ mains b := by simp [mains]

theorem set_split {bl : BL} {i : Nat} {p : Nat × List Nat} (h : bl[i]? = some p) : ∃ l1 l2, bl = l1 ++ p :: l2 ∧ ∀ x, bl.set i x = l1 ++ x :: l2 := by
  obtain ⟨hlt, he⟩ := List.getElem?_eq_some_iff.1 h
  refine ⟨bl.take i, bl.drop (i + 1), ?_, fun x => ?_⟩
  · rw [← he, List.getElem_cons_drop, List.take_append_drop]
  · rw [List.set_eq_take_append_cons_drop, if_pos hlt]

theorem mains_set {bl : BL} {i : Nat} {p : Nat × List Nat} (h : bl[i]? = some p) (q : List Nat) : mains (bl.set i (p.1, q)) = mains bl := by
  obtain ⟨l1, l2, h1, h2⟩ := set_split h
  rw [h2, h1]; simp [mains]

theorem fp_set {bl : BL} {i : Nat} {p : Nat × List Nat} (h : bl[i]? = some p) {q : List Nat} {k : Nat} (hk : k ∈ fp (bl.set i (p.1, q))) : k ∈ fp bl ∨ k ∈ q := by
  obtain ⟨l1, l2, h1, h2⟩ := set_split h
  rw [h2] at hk
  rw [h1]
  simp only [fp_append, fp_cons, List.mem_append] at hk ⊢
  rcases hk with hk | hk | hk
  · exact .inl (.inl hk)
  · exact .inr hk
  · exact .inl (.inr (.inr hk))

theorem nodup_set {bl : BL} {i : Nat} {p : Nat × List Nat} (h : bl[i]? = some p) {q : List Nat} (hn : (fp bl).Nodup) (hq : q.Nodup) (hk : ∀ k ∈ q, k ∈ p.2 ∨ k ∉ fp bl) : (fp (bl.set i (p.1, q))).Nodup := by
  obtain ⟨l1, l2, h1, h2⟩ := set_split h
  rw [h2]
  have hm : ∀ k, k ∈ fp bl ↔ k ∈ fp l1 ∨ k ∈ p.2 ∨ k ∈ fp l2 := by intro k; rw [h1]; simp [fp_append, fp_cons]
  rw [h1] at hn
  simp only [fp_append, fp_cons] at hn ⊢
  obtain ⟨n1, n2, n3⟩ := List.nodup_append.1 hn
  obtain ⟨m1, m2, m3⟩ := List.nodup_append.1 n2
  have hq1 : ∀ k ∈ q, k ∉ fp l1 := fun k hkq hkl => by
    rcases hk k hkq with h3 | h3
    · exact n3 k hkl k (by simp [h3]) rfl
    · exact h3 ((hm k).2 (.inl hkl))
  have hq2 : ∀ k ∈ q, k ∉ fp l2 := fun k hkq hkl => by
    rcases hk k hkq with h3 | h3
    · exact m3 k h3 k hkl rfl
    · exact h3 ((hm k).2 (.inr (.inr hkl)))
  refine List.nodup_append.2 ⟨n1, List.nodup_append.2 ⟨hq, m2, fun x hx y hy e => ?_⟩, fun x hx y hy e => ?_⟩
  · subst e
    exact hq2 x hx hy
  · subst e
    rcases List.mem_append.1 hy with hy | hy
    · exact hq1 x hy hx
    · exact n3 x hx x (by simp [hy]) rfl

section
variable {LOK : LoopA → Prop} {R : Reads} {w w' : World} {bl : BL} {S : Obs} {B : Base}

/-- A new object. -/
theorem SR.push (h : SR LOK R bl w S) (hs : Stab R w) (o : Obj) {ob : Ob} (hob : ObR LOK R (mains (bl ++ [(w.heap.size, [w.heap.size])])) (w.alloc o) (w.heap.size, [w.heap.size]) ob) :
    SR LOK R (bl ++ [(w.heap.size, [w.heap.size])]) (w.alloc o) (S ++ [ob]) := by
  have hsz : (w.alloc o).heap.size = w.heap.size + 1 := Array.size_push ..
  have hf : fp (bl ++ [(w.heap.size, [w.heap.size])]) = fp bl ++ [w.heap.size] := by simp [fp_append, fp]
  refine ⟨by simp [h.len], ?_, fun k hk => ?_, fun i p q hi hq => ?_⟩
  · rw [hf]
    refine List.nodup_append.2 ⟨h.nodup, by simp, fun x hx y hy e => ?_⟩
    have := h.lt x hx
    simp at hy
    omega
  · rw [hf] at hk
    rcases List.mem_append.1 hk with hk | hk
    · have := h.lt k hk; omega
    · simp at hk; omega
  · rcases Nat.lt_trichotomy i bl.length with hlt | heq | hgt
    · rw [List.getElem?_append_left hlt] at hi
      rw [List.getElem?_append_left (by rw [← h.len]; exact hlt)] at hq
      have hfa := fp_at hi
      refine (h.obj i p q hi hq).keep (fun _ _ h => h) (fun j b hb => ?_) (fun a v hr => .inl hr) fun k hk => ?_
      · rw [mains_append, List.getElem?_append_left (List.getElem?_eq_some_iff.1 hb).1]; exact hb
      · have hk' : k < w.heap.size := h.lt _ (hfa _ hk)
        show (w.heap.push o)[k]? = _
        rw [Array.getElem?_push, if_neg (by omega)]
    · subst heq
      simp at hi
      rw [h.len] at hq
      simp at hq
      subst hi hq
      exact hob
    · rw [List.getElem?_eq_none (by simp; omega)] at hi; cases hi

theorem Stp.push (h : Stp B.R B.bl B.w R bl w) (hl : ∀ k ∈ fp bl, k < w.heap.size) (o : Obj) : Stp B.R B.bl B.w R (bl ++ [(w.heap.size, [w.heap.size])]) (w.alloc o) := by
  have hold : ∀ k, k < w.heap.size → (w.alloc o).heap[k]? = w.heap[k]? := fun k hk => by
    show (w.heap.push o)[k]? = _
    rw [Array.getElem?_push, if_neg (by omega)]
  have hsz : (w.alloc o).heap.size = w.heap.size + 1 := Array.size_push ..
  refine ⟨h.sub, h.new, fun a v hr => ?_, h.os, h.tape, h.output, by have := h.size; omega, fun k hk hn => ?_, fun i b hb => ?_, fun k hk => ?_⟩
  · have := h.stab a v hr
    exact ⟨by rw [cell_same (hold _ (cell_lt this.1))]; exact this.1, this.2⟩
  · rw [hold k (Nat.lt_of_lt_of_le hk h.size)]; exact h.blk k hk hn
  · have := h.main i b hb
    rw [mains_append, List.getElem?_append_left (List.getElem?_eq_some_iff.1 this).1]; exact this
  · rw [fp_append] at hk
    rcases List.mem_append.1 hk with hk | hk
    · exact h.foot k hk
    · simp [fp] at hk; have := h.size; exact .inr (by omega)

/-- An object is changed: one block's content, and which blocks it has. -/
theorem SR.upd (h : SR LOK R bl w S) {i : Nat} {p : Nat × List Nat} (hi : bl[i]? = some p) (hpm : p.1 ∈ p.2) {q : List Nat} (hq : q.Nodup) (hk : ∀ k ∈ q, k ∈ p.2 ∨ k ∉ fp bl) (hlt : ∀ k ∈ q, k < w.heap.size)
    (hsz : w.heap.size ≤ w'.heap.size) (hw : ∀ k, k ≠ p.1 → w'.heap[k]? = w.heap[k]?) {ob : Ob} (hob : ObR LOK R (mains bl) w' (p.1, q) ob) :
    SR LOK R (bl.set i (p.1, q)) w' (S.set i ob) := by
  refine ⟨by simp [h.len], nodup_set hi h.nodup hq hk, fun k hk => ?_, fun j p' o' hj hj' => ?_⟩
  · rcases fp_set hi hk with h1 | h1
    · exact Nat.lt_of_lt_of_le (h.lt k h1) hsz
    · exact Nat.lt_of_lt_of_le (hlt k h1) hsz
  · rw [mains_set hi]
    by_cases hji : j = i
    · subst hji
      have h1 := (List.getElem?_eq_some_iff.1 hi).1
      rw [List.getElem?_set_self h1] at hj
      rw [List.getElem?_set_self (by rw [← h.len]; exact h1)] at hj'
      injection hj with hj; injection hj' with hj'
      subst hj hj'
      exact hob
    · rw [List.getElem?_set_ne (Ne.symm hji)] at hj hj'
      refine (h.obj j p' o' hj hj').keep (fun _ _ h => h) (fun _ _ h => h) (fun a v hr => .inl hr) fun k hkk => hw k fun e => ?_
      exact fp_apart h.nodup hj hi hji k hkk (e ▸ hpm)

theorem Stp.upd (h : Stp B.R B.bl B.w R bl w) {i : Nat} {p : Nat × List Nat} (hi : bl[i]? = some p) (hpm : p.1 ∈ p.2) {q : List Nat} (hq : ∀ k ∈ q, k ∈ fp bl ∨ B.mine k)
    (hsz : w'.heap.size = w.heap.size) (ho : w'.os = w.os) (ht : w'.tape = w.tape) (hu : w'.output = w.output) (hw : ∀ k, k ≠ p.1 → w'.heap[k]? = w.heap[k]?)
    (hno : (∀ a u, R a u → a.block ≠ p.1) ∨ w' = w) : Stp B.R B.bl B.w R (bl.set i (p.1, q)) w' := by
  refine ⟨h.sub, h.new, fun a v hr => ?_, by rw [ho, h.os], by rw [ht, h.tape], by rw [hu, h.output], by rw [hsz]; exact h.size, fun k hk hn => ?_, fun j b hb => ?_, fun k hk => ?_⟩
  · have := h.stab a v hr
    rcases hno with hno | rfl
    · exact ⟨by rw [cell_same (hw _ (hno a v hr))]; exact this.1, this.2⟩
    · exact this
  · rw [hw k fun e => ?_]
    · exact h.blk k hk hn
    · rcases h.foot p.1 (fp_at hi _ hpm) with h1 | h1
      · exact hn (by rw [e]; exact h1)
      · omega
  · rw [mains_set hi]; exact h.main j b hb
  · rcases fp_set hi hk with h1 | h1
    · exact h.foot k h1
    · rcases hq k h1 with h2 | h2
      · exact h.foot k h2
      · rcases h2 with h3 | h3
        · exact .inr h3
        · exact .inl h3

/-! ### Rows that are objects -/
/-- An object is gone. -/
def gBL (bl : BL) : Option Nat → BL
  | some i => bl.set i ((mains bl)[i]?.getD 0, [])
  | none => bl
def gS (S : Obs) : Option Nat → Obs
  | some i => S.set i .gone
  | none => S
/-- The list of objects' blocks, where an object is gone and a row has come. -/
def rowBL (bl : BL) (i : Option Nat) (b k : Nat) : BL := gBL bl i ++ [(b, [b]), (k, [])]
def rowS (S : Obs) (i : Option Nat) (ob : Ob) : Obs := gS S i ++ [ob, .gone]

theorem goneBL {i : Nat} {p : Nat × List Nat} (h : bl[i]? = some p) : bl.set i ((mains bl)[i]?.getD 0, []) = bl.set i (p.1, []) := by rw [mains_at h]; rfl

theorem mains_rowBL {i : Option Nat} (hi : ∀ j, i = some j → ∃ p, bl[j]? = some p) (b k : Nat) : mains (rowBL bl i b k) = mains bl ++ [b, k] := by
  unfold rowBL
  cases i with
  | none => simp [gBL, mains]
  | some j =>
    obtain ⟨p, hp⟩ := hi j rfl
    simp only [gBL, goneBL hp]
    rw [mains_append, mains_set hp]
    rfl

theorem fp_rowBL {i : Option Nat} (hi : ∀ j, i = some j → ∃ p, bl[j]? = some p) {b k x : Nat} (h : x ∈ fp (rowBL bl i b k)) : x ∈ fp bl ∨ x = b := by
  unfold rowBL at h
  rw [fp_append] at h
  rcases List.mem_append.1 h with h | h
  · cases i with
    | none => exact .inl h
    | some j =>
      obtain ⟨p, hp⟩ := hi j rfl
      simp only [gBL, goneBL hp] at h
      rcases fp_set hp h with h | h
      · exact .inl h
      · cases h
  · simp [fp] at h; exact .inr h

/-- A row has come: one block is written, or new; the object that it comes from is gone. -/
theorem SR.row (h : SR LOK R bl w S) {i : Option Nat} (hi : ∀ j, i = some j → ∃ p, bl[j]? = some p) {b k : Nat}
    (hb : (∃ j p, i = some j ∧ bl[j]? = some p ∧ b ∈ p.2) ∨ b ∉ fp bl) (hlt : b < w'.heap.size) (hsz : w.heap.size ≤ w'.heap.size)
    (hw : ∀ x, x ≠ b → x < w.heap.size → w'.heap[x]? = w.heap[x]?) {ob : Ob} (hob : ObR LOK R (mains bl ++ [b, k]) w' (b, [b]) ob) :
    SR LOK R (rowBL bl i b k) w' (rowS S i ob) := by
  have hl1 : ∀ (i : Option Nat), (gBL bl i).length = bl.length := fun i => by cases i <;> simp [gBL]
  have hl2 : ∀ (i : Option Nat), (gS S i).length = S.length := fun i => by cases i <;> simp [gS]
  have hnotin : b ∉ fp (gBL bl i) := by
    cases i with
    | none =>
      rcases hb with ⟨j, p, e, _⟩ | hb
      · cases e
      · exact hb
    | some j =>
      obtain ⟨p, hp⟩ := hi j rfl
      simp only [gBL, goneBL hp]
      obtain ⟨l1, l2, k1, k2⟩ := set_split hp
      rw [k2]
      rcases hb with ⟨j', p', e, hp', hbp⟩ | hb
      · injection e with e; subst e
        rw [hp] at hp'; injection hp' with hp'; subst hp'
        have hn := h.nodup
        rw [k1] at hn
        simp only [fp_append, fp_cons] at hn ⊢
        obtain ⟨n1, n2, n3⟩ := List.nodup_append.1 hn
        obtain ⟨m1, m2, m3⟩ := List.nodup_append.1 n2
        simp only [List.nil_append, List.mem_append, not_or]
        exact ⟨fun hx => n3 b hx b (by simp [hbp]) rfl, fun hx => m3 b hbp b hx rfl⟩
      · rw [k1] at hb
        simp only [fp_append, fp_cons, List.mem_append, not_or] at hb ⊢
        exact ⟨hb.1, by simp, hb.2.2⟩
  refine ⟨?_, ?_, fun x hx => ?_, fun n p o hn ho => ?_⟩
  · simp only [rowBL, rowS, List.length_append, hl1, hl2, h.len, List.length_cons, List.length_nil]
  · unfold rowBL
    rw [fp_append]
    refine List.nodup_append.2 ⟨?_, by simp [fp], fun x hx y hy e => ?_⟩
    · cases i with
      | none => exact h.nodup
      | some j =>
        obtain ⟨p, hp⟩ := hi j rfl
        simp only [gBL, goneBL hp]
        exact nodup_set hp h.nodup (by simp) (by simp)
    · simp [fp] at hy
      subst e hy
      exact absurd hx hnotin
  · rcases fp_rowBL hi hx with hx | rfl
    · exact Nat.lt_of_lt_of_le (h.lt x hx) hsz
    · exact hlt
  · rw [mains_rowBL hi]
    simp only [rowBL, rowS] at hn ho
    rcases Nat.lt_trichotomy n bl.length with hlt' | heq | hgt
    · rw [List.getElem?_append_left (by rw [hl1]; exact hlt')] at hn
      rw [List.getElem?_append_left (by rw [hl2, ← h.len]; exact hlt')] at ho
      have hM : ∀ (i c : Nat), (mains bl)[i]? = some c → (mains bl ++ [b, k])[i]? = some c := fun i c hc => by
        rw [List.getElem?_append_left (List.getElem?_eq_some_iff.1 hc).1]; exact hc
      have keep : ∀ q oo, bl[n]? = some q → S[n]? = some oo → b ∉ q.2 → ObR LOK R (mains bl ++ [b, k]) w' q oo := fun q oo h1 h2 h3 =>
        (h.obj n q oo h1 h2).keep (fun _ _ h => h) hM (fun a v hr => .inl hr) fun x hx => hw x (fun e => h3 (e ▸ hx)) (h.lt _ (fp_at h1 _ hx))
      cases i with
      | none =>
        simp only [gBL, gS] at hn ho
        refine keep p o hn ho fun hx => ?_
        rcases hb with ⟨j, p', e, _⟩ | hb
        · cases e
        · exact hb (fp_at hn _ hx)
      | some j =>
        simp only [gBL, gS] at hn ho
        obtain ⟨p', hp'⟩ := hi j rfl
        by_cases hnj : n = j
        · subst hnj
          rw [List.getElem?_set_self (by rw [← h.len]; exact hlt')] at ho
          injection ho with ho
          subst ho
          trivial
        · rw [List.getElem?_set_ne (Ne.symm hnj)] at hn ho
          refine keep p o hn ho fun hx => ?_
          rcases hb with ⟨j', p2, e, hp2, hbp⟩ | hb
          · injection e with e; subst e
            exact fp_apart h.nodup hn hp2 hnj b hx hbp
          · exact hb (fp_at hn _ hx)
    · subst heq
      rw [List.getElem?_append_right (by rw [hl1]; exact Nat.le_refl _), hl1] at hn
      rw [List.getElem?_append_right (by rw [hl2, h.len]; exact Nat.le_refl _), hl2, h.len] at ho
      simp at hn ho
      subst hn ho
      exact hob
    · rw [List.getElem?_append_right (by rw [hl1]; omega), hl1] at hn
      rw [List.getElem?_append_right (by rw [hl2, ← h.len]; omega), hl2, ← h.len] at ho
      obtain ⟨m, hm⟩ : ∃ m, n - bl.length = m + 1 := ⟨n - bl.length - 1, by omega⟩
      rw [hm] at hn ho
      cases m with
      | zero => simp at ho; subst ho; trivial
      | succ m => simp at ho

theorem Stp.row (h : Stp B.R B.bl B.w R bl w) {i : Option Nat} (hi : ∀ j, i = some j → ∃ p, bl[j]? = some p) {b k : Nat} (hb : b ∈ fp bl ∨ w.heap.size ≤ b)
    (hsz : w.heap.size ≤ w'.heap.size) (ho : w'.os = w.os) (ht : w'.tape = w.tape) (hu : w'.output = w.output) (hw : ∀ x, x ≠ b → x < w.heap.size → w'.heap[x]? = w.heap[x]?)
    (hno : ∀ a u, R a u → a.block ≠ b) : Stp B.R B.bl B.w R (rowBL bl i b k) w' := by
  refine ⟨h.sub, h.new, fun a v hr => ?_, by rw [ho, h.os], by rw [ht, h.tape], by rw [hu, h.output], Nat.le_trans h.size hsz, fun x hx hn => ?_, fun j c hc => ?_, fun x hx => ?_⟩
  · have := h.stab a v hr
    exact ⟨by rw [cell_same (hw _ (hno a v hr) (cell_lt this.1))]; exact this.1, this.2⟩
  · rw [hw x (fun e => ?_) (Nat.lt_of_lt_of_le hx h.size)]
    · exact h.blk x hx hn
    · rcases hb with hb | hb
      · rcases h.foot b hb with h1 | h1
        · exact hn (e ▸ h1)
        · omega
      · have := h.size; omega
  · rw [mains_rowBL hi, List.getElem?_append_left (List.getElem?_eq_some_iff.1 (h.main j c hc)).1]
    exact h.main j c hc
  · rcases fp_rowBL hi hx with hx | rfl
    · exact h.foot x hx
    · rcases hb with hb | hb
      · exact h.foot x hb
      · have := h.size; exact .inr (by omega)

end
end Go.Proofs.YtmcfnnpihlediaaGreatDoor.Ex

/- One operation, done: the relation holds behind it. -/
namespace Go.Proofs.YtmcfnnpihlediaaGreatDoor.Ex
open Go Go.RowKit

section
variable {LOK : LoopA → Prop} {P : Program} {C : Gee} {own : FuncId → Bool} {call : CallT} {R : Reads} {w w' : World} {a : Act} {pf : PF} {bl : BL} {S S' : Obs} {D : List Nat} {B : Base}
  {nt : Nat} {E E' : Env} {ro : Option Nat} {n : Nat} {next : Act → World → Prop} {Q : Exit → Act → World → Prop} {ops : Array Oper}

/-- What 'trans' comes to, for an operation that gives nothing, takes nothing, and appends nothing. -/
theorem trans_D {o : Oper} (hg : givesOp own ops o.op = none) (ha : isApp o.op = false) (hl : (∀ t y, o.op ≠ .load t y) ∨ takes own ops o.dst = false) (h : trans own ops E o = some E') :
    E' = delO E o.dst ∨ (∃ d, o.dst = some d ∧ E' = (d, freshE E) :: delE E d ∧ ownOp own o.op = true) ∨
      (∃ d t g, o.dst = some d ∧ (o.op = .move (.tmp t) ∨ o.op = .assign (.tmp t)) ∧ findE E t = some g ∧ E' = (d, g) :: delE E d) := by
  unfold trans at h
  rw [hg] at h
  simp only at h
  split at h
  · rename_i hdn
    rw [ha] at h
    injection h with h; subst h
    exact .inl (by rw [hdn]; rfl)
  · rename_i d hds
    have e1 : delO E o.dst = delE E d := by rw [hds]; rfl
    rw [e1]
    split at h
    · split at h
      · cases h
      · injection h with h; exact .inl h.symm
    · split at h
      · rename_i y hop
        split at h
        · rename_i t
          split at h
          · rename_i g hgt
            injection h with h
            exact .inr (.inr ⟨d, t, g, hds, .inl hop, hgt, h.symm⟩)
          · injection h with h; exact .inl h.symm
        · split at h
          · rename_i hnil
            injection h with h
            simp only [Bool.and_eq_true] at hnil
            exact .inr (.inl ⟨d, hds, h.symm, by rw [hop]; exact hnil.1⟩)
          · injection h with h; exact .inl h.symm
      · rename_i y hop
        split at h
        · rename_i t
          split at h
          · rename_i g hgt
            injection h with h
            exact .inr (.inr ⟨d, t, g, hds, .inr hop, hgt, h.symm⟩)
          · injection h with h; exact .inl h.symm
        · split at h
          · rename_i hnil
            injection h with h
            simp only [Bool.and_eq_true] at hnil
            exact .inr (.inl ⟨d, hds, h.symm, by rw [hop]; exact hnil.1⟩)
          · injection h with h; exact .inl h.symm
      · rename_i hop
        injection h with h
        exact .inr (.inl ⟨d, hds, h.symm, by rw [hop]; rfl⟩)
      · rename_i t y hop
        rcases hl with hl | hl
        · exact absurd hop (hl _ _)
        · rw [hds] at hl
          rw [if_neg (by rw [hl]; simp)] at h
          injection h with h; exact .inl h.symm
      · rename_i c hop
        split at h
        · rename_i f hf
          split at h
          · rename_i ho
            injection h with h
            exact .inr (.inl ⟨d, hds, h.symm, by rw [hop]; simp [ownOp, hf, ho]⟩)
          · injection h with h; exact .inl h.symm
        · rename_i hcal
          rw [hop] at ha
          obtain ⟨cal, args, tys⟩ := c
          simp only at hcal
          subst hcal
          cases ha
        · injection h with h; exact .inl h.symm
      · injection h with h; exact .inl h.symm

theorem Gd.rel (hGB : Gd C B.R B.bl B.w) (hrel : Rel LOK B nt E pf S D a w R bl) : Gd C R bl w := hGB.step hrel.stp

/-- A step that leaves the objects: the relation behind it. -/
theorem Rel.step_D (hrel : Rel LOK B nt E pf S D a w R bl) {o : Oper} {x : AV} (hd : ∀ d, o.dst = some d → d < nt)
    (hg : givesOp own ops o.op = none) (ha : isApp o.op = false) (hl : (∀ t y, o.op ≠ .load t y) ∨ takes own ops o.dst = false) (htr : trans own ops E o = some E')
    {v : Value} {R' : Reads} (hst : St R w R' w' none) (hv : VR R' (mains bl) v x) (hO : ownOp own o.op = true → ∃ sz xs, x = .sl sz xs ∧ OwnV R' w.heap.size w' v sz)
    (hmv : ∀ t, o.op = .move (.tmp t) ∨ o.op = .assign (.tmp t) → v = a.tmps.getD t Go.undef ∧ ∀ sz xs, pf t = .sl sz xs → x = .sl sz xs) :
    Rel LOK B nt E' (updO pf o.dst x) S D (a.put o.dst v) w' R' bl := by
  have hstp := hrel.stp.st hst (by simp)
  have hsr := hrel.sr.st hst (by simp)
  have hk : ∀ s g, (s, g) ∈ E → ∀ b, blockOf (a.tmps.getD s Go.undef) = some b → Kept R R' w w' bl b := fun s g hsg b hb => hrel.kept_st hst hsg hb (by simp)
  rcases trans_D hg ha hl htr with rfl | ⟨d, hds, rfl, ho⟩ | ⟨d, t, g, hds, hop, hgt, rfl⟩
  · exact hrel.put_plain hstp hst.sub (fun _ _ h => h) hsr hv hd hk
  · obtain ⟨sz, xs, hx, hO'⟩ := hO ho
    have h0 := hrel.stp.size
    rw [hds]
    refine hrel.put_fresh hstp hst.sub (fun _ _ h => h) hsr hv (hd d hds) hk hx (hO'.mono_base (Nat.zero_le _)) (fun b hb => ?_) (fun b hb s g hsg hb' => ?_)
    · have := (hO'.lt hb).1
      exact ⟨.inl (by omega), fun hf => by have := hrel.sr.lt b hf; omega⟩
    · obtain ⟨sz2, xs2, _, h5⟩ := hrel.own s g hsg
      have := (hO'.lt hb).1
      have := (h5.lt hb').2
      omega
  · have hm := findE_mem hgt
    obtain ⟨hvt, hxt⟩ := hmv t hop
    obtain ⟨sz, xs, h4, h5⟩ := hrel.own t g hm
    have hx := hxt sz xs h4
    have hkt : ∀ b, blockOf v = some b → Kept R R' w w' bl b := fun b hb => hk t g hm b (by rw [← hvt]; exact hb)
    rw [hds]
    refine hrel.put hstp hst.sub (fun _ _ h => h) hsr hv (fun d' e => by injection e with e; exact e ▸ hd d hds) (fun s g' hsg => ?_) (fun d' g1 g2 ho h1 h2 => ?_)
    · rcases List.mem_cons.1 hsg with hsg | hsg
      · injection hsg with e1 e2
        subst e1 e2
        refine .inr ⟨rfl, ⟨sz, xs, hx, ?_⟩, fun b hb => ⟨(hrel.mine t _ hm b (by rw [← hvt]; exact hb)).1, (hkt b hb).2.2⟩, fun s' g2 hs' hne hgg b hb hb' => ?_⟩
        · rw [hvt]
          refine h5.keep (fun q u hq => ?_) (fun b hb => (hk t _ hm b hb).1)
          by_cases hc : ∃ b, blockOf (a.tmps.getD t Go.undef) = some b ∧ q.block = b
          · obtain ⟨b, hb, hqb⟩ := hc
            rcases (hk t _ hm b hb).2.1 q u hq with h6 | h6
            · exact .inl h6
            · exact absurd hqb h6
          · exact .inr fun b hb e => hc ⟨b, hb, e⟩
        · rcases List.mem_cons.1 hs' with hs' | hs'
          · injection hs' with e1; exact hne (by rw [e1])
          · rw [hvt] at hb
            exact hrel.dist t _ s' g2 hm (mem_delE.1 hs').1 hgg b hb hb'
      · have := mem_delE.1 hsg
        exact .inl ⟨by simpa using Ne.symm this.2, this.1, hk s g' this.1⟩
    · injection ho with ho; subst ho
      rcases List.mem_cons.1 h1 with h1 | h1
      · rcases List.mem_cons.1 h2 with h2 | h2
        · injection h1 with _ e1; injection h2 with _ e2; omega
        · exact absurd rfl (mem_delE.1 h2).2
      · exact absurd rfl (mem_delE.1 h1).2

/-- An append to a row that a slot owns. -/
theorem app_step (hrel : Rel LOK B nt E pf S D a w R bl) {o : Oper} {x : AV} (hd : ∀ d, o.dst = some d → d < nt) {args : Array Operand} {tys : Array TypeId}
    (hop : o.op = .call { callee := .builtin .append, args := args, argTypes := tys }) (hrow : appRow own ops o.op = false) (hev : evApp P args.toList tys.toList pf = some x) (htr : trans own ops E o = some E')
    (hn : ∀ a' w' R' bl', Rel LOK B nt E' (updO pf o.dst x) S D a' w' R' bl' → next a' w') : o.wpIn (fen ro) n P a w next Q := by
  unfold trans at htr
  rw [hop] at htr hrow
  simp only [givesOp, isApp] at htr
  split at htr
  · simp at htr
  · rename_i d hds
    split at htr
    · simp at htr
    · rw [hrow] at htr
      simp only [Bool.false_eq_true, if_false] at htr
      split at htr
      · rename_i s rest hargs
        split at htr
        case h_2 => cases htr
        rename_i g hg
        injection htr with htr; subst htr
        have hm := findE_mem hg
        obtain ⟨sz0, xs0, h4, h5⟩ := hrel.own s g hm
        have harg : ∃ y, args.toList = [.tmp s, y] := by
          rw [hargs] at hev
          unfold evApp at hev
          split at hev
          · rename_i heq _
            injection heq with e1 e2
            exact ⟨_, by rw [hargs, e2]⟩
          · cases hev
        obtain ⟨y, harg⟩ := harg
        obtain ⟨v, w', R', sz, xs, hr, hst, hx, hv, hO, hbv⟩ := evApp_sound (base := 0) (M := mains bl) harg hop hrel.fr hrel.stab (Nat.zero_le _) hev (fun sz xs hs => by
          have := hs
          simp only [opv] at this
          rw [h4] at this
          injection this with this
          injection this with e1 e2
          subst e1
          exact h5)
        have hsm : ∀ b, blockOf (a.eval (.tmp s)) = some b → B.mine b ∧ b ∉ fp bl := fun b hb => hrel.mine s g hm b hb
        have hstp := hrel.stp.st hst (fun b hb => (hsm b hb).1)
        have hsr := hrel.sr.st hst (fun b hb => (hsm b hb).2)
        refine wpIn_value (by rw [hop]; simp) hr (hn _ w' R' bl ?_)
        rw [hds]
        refine hrel.put hstp hst.sub (fun _ _ h => h) hsr hv (fun d' e => by injection e with e; exact e ▸ hd d hds) (fun s1 g1 hsg => ?_) (fun d' g1 g2 ho h1 h2 => ?_)
        · rcases List.mem_cons.1 hsg with hsg | hsg
          · injection hsg with e1 e2
            subst e1 e2
            refine .inr ⟨rfl, ⟨sz, xs, hx, hO⟩, fun b hb => ?_, fun s' g2 hs' hne hgg b hb hb' => ?_⟩
            · rcases hbv b hb with h7 | h7
              · exact hsm b h7
              · have := hrel.stp.size
                exact ⟨.inl (by omega), fun hf => by have := hrel.sr.lt b hf; omega⟩
            · rcases List.mem_cons.1 hs' with hs' | hs'
              · injection hs' with e1; exact hne (by rw [e1])
              · have h6 := mem_dropG.1 (mem_delE.1 hs').1
                rcases hbv b hb with h7 | h7
                · exact hrel.dist s g s' g2 hm h6.1 (Ne.symm h6.2) b h7 hb'
                · obtain ⟨sz', xs', _, hO2⟩ := hrel.own s' g2 h6.1
                  have := (hO2.lt hb').2
                  omega
          · have h6 := mem_delE.1 hsg
            have h7 := mem_dropG.1 h6.1
            refine .inl ⟨by simpa using Ne.symm h6.2, h7.1, fun b hb => hrel.kept_st hst h7.1 hb fun e => ?_⟩
            exact hrel.dist s g s1 g1 hm h7.1 (Ne.symm h7.2) b e hb
        · injection ho with ho; subst ho
          rcases List.mem_cons.1 h1 with h1 | h1
          · rcases List.mem_cons.1 h2 with h2 | h2
            · injection h1 with _ e1; injection h2 with _ e2; omega
            · exact absurd rfl (mem_delE.1 h2).2
          · exact absurd rfl (mem_delE.1 h1).2
      · cases htr

/-- A call that goes along with the objects. -/
theorem call_step (hcall : ∀ c, COK LOK P C own c (call c)) (hcb : ∀ f avs S r, call (.f f) avs S = some r → callable P f = true) (hGB : Gd C B.R B.bl B.w) (hrel : Rel LOK B nt E pf S D a w R bl)
    {dst : Option Tmp} {fo : Operand} {args : Array Operand} {tys : Array TypeId} {type : TypeId} {pos : String} {after : Array Edge} {guard : Option (Nat × Bool)}
    (hd : ∀ d, dst = some d → d < nt) {k : Cal} {fs cs avs : List AV} (hk : calleeAV pf fo = some (k, fs, cs)) (ha : opvs pf args.toList = some avs)
    {p : List AV × Obs} (hc : call k (fs ++ avs ++ cs) S = some p) (hnp : isPan p.1 = false) (htr : trans own ops E ⟨dst, .call ⟨.value fo, args, tys⟩, type, pos, after, guard⟩ = some E')
    (hn : ∀ a' w' R' bl', Rel LOK B nt E' (updO pf dst (packAV p.1)) p.2 D a' w' R' bl' → next a' w') :
    (⟨dst, .call ⟨.value fo, args, tys⟩, type, pos, after, guard⟩ : Oper).wpIn (fen ro) n P a w next Q := by
  obtain ⟨rs, S'⟩ := p
  refine wpIn_call hrel.fr hk ha (fun f hkf => by subst hkf; exact hcb f _ _ _ hc) fun vals hvals => ?_
  refine CallC.mono (hcall k R bl w S vals _ rs S' (hGB.rel hrel) hrel.stab hrel.sr hvals hc) fun e w' hp => ?_
  rcases hp with ⟨vs, R', bl', rfl, hvs, hst, hsr', hO⟩ | ⟨x, u, R', bl', rfl, _⟩
  case inr => simp [isPan, isPan1] at hnp
  refine .inl ⟨_, rfl, hn _ w' R' bl' ?_⟩
  have hstp := hrel.stp.trans hst
  have hkk : ∀ s g, (s, g) ∈ E → ∀ b, blockOf (a.tmps.getD s Go.undef) = some b → Kept R R' w w' bl' b := fun s g hsg b hb => hrel.kept_stp hst hsg hb
  rcases trans_D (E := E) (own := own) (ops := ops) (o := ⟨dst, .call ⟨.value fo, args, tys⟩, type, pos, after, guard⟩) rfl rfl (.inl (by simp)) htr with rfl | ⟨d, hds, rfl, ho⟩ | ⟨d, t, g, hds, hop, _⟩
  · exact hrel.put_plain hstp hst.sub hst.main hsr' hvs.pack hd hkk
  · have ho' : ownC own k = true := by
      cases fo with
      | func f =>
        simp only [calleeAV] at hk
        injection hk with hk; injection hk with hk _; subst hk
        exact ho
      | tmp t => cases ho
      | const v => cases ho
      | global g => cases ho
    obtain ⟨v, sz, xs, rfl, rfl, h1, h2⟩ := hO ho'
    simp only at hds
    subst hds
    have h0 := hrel.stp.size
    refine hrel.put_fresh hstp hst.sub hst.main hsr' hvs.pack (hd d rfl) hkk rfl h1 (fun b hb => ⟨?_, (h2 b hb).2⟩) (fun b hb s g hsg hb' => ?_)
    · rcases (h2 b hb).1 with h3 | h3
      · exact .inl (by omega)
      · rcases hrel.stp.foot b h3 with h4 | h4
        · exact .inr h4
        · exact .inl h4
    · obtain ⟨sz2, xs2, _, h5⟩ := hrel.own s g hsg
      have := (h5.lt hb').2
      rcases (h2 b hb).1 with h3 | h3
      · omega
      · exact (hrel.mine s g hsg b hb').2 h3
  · rcases hop with hop | hop <;> cases hop

/-- The relation where nothing is written. -/
theorem Rel.stay {R' : Reads} {bl' : BL} (hrel : Rel LOK B nt E pf S D a w R bl) (hst : Stp R bl w R' bl' w') (hsr' : SR LOK R' bl' w' S') : Rel LOK B nt E pf S' D a w' R' bl' :=
  hrel.put_plain (hrel.stp.trans hst) hst.sub hst.main hsr' .undef (o := none) (by simp) (fun s g hsg b hb => hrel.kept_stp hst hsg hb)

/-- An operation that panics. -/
theorem pan_step (hcall : ∀ c, COK LOK P C own c (call c)) (hcb : ∀ f avs S r, call (.f f) avs S = some r → callable P f = true) (hGB : Gd C B.R B.bl B.w) (hrel : Rel LOK B nt E pf S D a w R bl)
    {o : Oper} {x : AV} (hev : evPan call o pf S = some (x, S'))
    (hn : ∀ u w' R' bl', VR R' (mains bl') u x → Rel LOK B nt E pf S' D a w' R' bl' → Q (.panic [{ v := u, recovered := false }]) a w') : o.wpIn (fen ro) n P a w next Q := by
  obtain ⟨dst, op, type, pos, after, guard⟩ := o
  cases op <;> try (simp [evPan] at hev; done)
  case panic y =>
    simp only [evPan] at hev
    split at hev
    · rename_i t v hy
      injection hev with hev; injection hev with e1 e2; subst e1 e2
      have hv := opv_sound hrel.fr hy
      obtain ⟨u, hu⟩ : ∃ u, a.eval y = .iface t u := by
        generalize a.eval y = z at hv
        cases hv with
        | ifc _ u _ _ => exact ⟨u, rfl⟩
      rw [hu] at hv
      refine ⟨fun _ _ => trivial, ?_⟩
      rw [semAt_exec (by simp)]
      have hrun : (execOp a.eval ⟨dst, .panic y, type, pos, after, guard⟩).run P w = .halt (.panic (.iface t u)) w := by
        simp [execOp, Instr.panic, hu, goPanic]
      rw [hrun]
      exact hn _ w R bl hv hrel
    · cases hev
  case call c =>
    obtain ⟨cal, args, tys⟩ := c
    cases cal with
    | invoke r m => cases hev
    | builtin b => cases hev
    | value fo =>
      simp only [evPan] at hev
      split at hev
      · rename_i k fs cs avs hk ha
        split at hev
        · rename_i v S2 hc
          injection hev with hev; injection hev with e1 e2; subst e1 e2
          refine wpIn_call hrel.fr hk ha (fun f hkf => by subst hkf; exact hcb f _ _ _ hc) fun vals hvals => ?_
          refine CallC.mono (hcall k R bl w S vals _ _ S2 (hGB.rel hrel) hrel.stab hrel.sr hvals hc) fun e w' hp => ?_
          rcases hp with ⟨vs, R', bl', rfl, hvs, _⟩ | ⟨x, u, R', bl', hx, rfl, hv, hst, hsr'⟩
          · have := hvs.noPan
            simp [isPan, isPan1] at this
          · simp only [List.cons.injEq, AV.pan.injEq, and_true] at hx
            subst hx
            exact .inr ⟨u, rfl, hn u w' R' bl' hv (hrel.stay hst hsr')⟩
        · cases hev
      · cases hev

/-- An append to a row that is an object. -/
theorem rapp_step (hrel : Rel LOK B nt E pf S D a w R bl) {o : Oper} {x : AV} (hd : ∀ d, o.dst = some d → d < nt) {args : Array Operand} {tys : Array TypeId}
    (hop : o.op = .call { callee := .builtin .append, args := args, argTypes := tys }) (hrow : appRow own ops o.op = true) (hev : evRow P args.toList tys.toList pf S = some (x, S')) (htr : trans own ops E o = some E')
    (hn : ∀ a' w' R' bl', Rel LOK B nt E' (updO pf o.dst x) S' D a' w' R' bl' → next a' w') : o.wpIn (fen ro) n P a w next Q := by
  have hE : ∃ d, o.dst = some d ∧ E' = delO E o.dst := by
    unfold trans at htr
    rw [hop] at htr hrow
    simp only [givesOp, isApp] at htr
    split at htr
    · simp at htr
    · rename_i d hds
      split at htr
      · simp at htr
      · (try rw [if_pos hrow] at htr)
        injection htr with htr
        exact ⟨d, hds, by rw [hds]; exact htr.symm⟩
  obtain ⟨d, hds, rfl⟩ := hE
  obtain ⟨args⟩ := args
  obtain ⟨tys⟩ := tys
  simp only at hev
  unfold evRow at hev
  split at hev <;> try (cases hev; done)
  rename_i s y t t'
  split at hev
  case isFalse => cases hev
  rename_i htt; subst htt
  split at hev
  case h_2 => cases hev
  rename_i _ _ _ e _ ht
  obtain ⟨i, u, hi, hu, _, _, _, h6, _⟩ := tyOf_u ht
  have hdd := uOf_slice h6.symm
  subst hdd
  split at hev
  case h_2 => cases hev
  rename_i ty X sz ys hte hx hy
  obtain ⟨ie, ue, hie, hue, g1, g2, g3, g4, g5⟩ := tyOf_u hte
  split at hev
  case isFalse => cases hev
  rename_i hc
  obtain ⟨rfl, c3, c4, c5⟩ := hc
  have hX := opv_sound hrel.fr hx
  have hY := opv_sound hrel.fr hy
  obtain ⟨A, m, c', hvy, hm, hmc⟩ := hY.slice_inv
  rw [hvy] at hY
  obtain ⟨z, hz, hzs⟩ : ∃ z, ie.zero = some z ∧ z.cells.size = ty.size := by
    rw [← g5]
    cases hzz : ty.zero with
    | none => rw [hzz] at c5; simp at c5
    | some z => rw [hzz] at c5; exact ⟨z, rfl, by simpa using c5⟩
  have hpos : 0 < ie.size := by omega
  obtain ⟨yv, fy, yl, _, _, yone, yz, yat, yvr, yR, ynil⟩ := hY.list hrel.stab c3
  have hyl : yv.length = m * ie.size := by rw [yl, g1]
  -- the cells of what is put behind
  have hflat : ∀ (l : List AV) (vals : List Value) (f : Nat → Nat → Value), vals.length = l.length * ty.size → (∀ i (hi : i < l.length), l[i].cells.length = ty.size) →
      (∀ i j, i < l.length → j < ty.size → vals[i * ty.size + j]? = some (f i j)) → (∀ i j (hi : i < l.length) (hj : j < l[i].cells.length), VR R (mains bl) (f i j) (l[i].cells[j])) →
      VRs R (mains bl) vals (l.flatMap AV.cells) := by
    intro l
    induction l with
    | nil => intro vals f h1 _ _ _; exact ⟨by simpa using h1, fun i h1 h2 => by simp at h2⟩
    | cons q r ih =>
      intro vals f h1 h2 h3 h4
      have hq := h2 0 (by simp)
      simp only [List.getElem_cons_zero] at hq
      simp only [List.length_cons, Nat.add_mul, Nat.one_mul] at h1
      have hsplit : vals = vals.take ty.size ++ vals.drop ty.size := (List.take_append_drop _ _).symm
      rw [hsplit, List.flatMap_cons]
      refine VRs.append ⟨by simp; omega, fun i k1 k2 => ?_⟩ (ih _ (fun i j => f (i + 1) j) (by simp; omega) (fun i hi => by have := h2 (i + 1) (by simp; omega); simpa using this) (fun i j hi hj => ?_) (fun i j hi hj => ?_))
      · have k3 : i < ty.size := by simp at k1; omega
        have := h3 0 i (by simp) k3
        simp only [Nat.zero_mul, Nat.zero_add] at this
        obtain ⟨k4, k5⟩ := List.getElem?_eq_some_iff.1 this
        rw [List.getElem_take, k5]
        have := h4 0 i (by simp) (by simpa using k2)
        simpa using this
      · have := h3 (i + 1) j (by simp; omega) hj
        rw [List.getElem?_drop]
        rw [← this]
        congr 1
        rw [Nat.add_mul]; omega
      · have := h4 (i + 1) j (by simp; omega) (by simpa using hj)
        simpa using this
  have hYc : VRs R (mains bl) yv (ys.flatMap AV.cells) := hflat ys yv fy (by rw [yl, hm]) yz yat yvr
  have hcall : ∀ V W, (Builtin.append_ #[t, t] o.type #[a.eval s, .slice A m c']).run P w = .ok V W → (execOp a.eval o).run P w = .ok (.value V) W := by
    intro V W hr
    rw [execOp, hop]
    simp only [resolve, Sem.run_bind, invoke, builtin, List.map_toArray, List.map_cons, List.map_nil, hvy]
    simp [hr]
  have hkk : ∀ (b : Nat) (W : World), (b ∈ fp bl ∨ w.heap.size ≤ b) → (∀ k, k ≠ b → k < w.heap.size → W.heap[k]? = w.heap[k]?) → ∀ (i : Option Nat) (hi : ∀ j, i = some j → ∃ p, bl[j]? = some p) (k : Nat),
      ∀ s g, (s, g) ∈ E → ∀ b', blockOf (a.tmps.getD s Go.undef) = some b' → Kept R R w W (rowBL bl i b k) b' := by
    intro b W hb hw i hi k s g hsg b' hb'
    obtain ⟨sz2, xs2, _, h5⟩ := hrel.own s g hsg
    have hlt := (h5.lt hb').2
    have hnf := (hrel.mine s g hsg b' hb').2
    have hne : b' ≠ b := by
      rintro rfl
      rcases hb with hb | hb
      · exact hnf hb
      · omega
    refine ⟨hw b' hne hlt, fun q u hq => .inl hq, fun hf => ?_⟩
    rcases fp_rowBL hi hf with h | h
    · exact hnf h
    · exact hne h
  have hbl : S.length = bl.length := hrel.sr.len.symm
  have hmlen : (mains bl).length = S.length := by rw [hbl]; simp [mains]
  -- a new row
  have fresh : ∀ (i : Option Nat) (hi : ∀ j, i = some j → ∃ p, bl[j]? = some p) (nx : Nat) (xv : List Value) (xc : List AV), VRs R (mains bl) xv xc → (∀ v ∈ xv, v.oneCell' = true) → xv.length = nx * ty.size →
      ∀ (cap : Nat), nx + m ≤ cap → cap ≤ maxLen → ∀ (w1 : World), (w1.heap = w.heap ∧ w1.os = w.os ∧ w1.tape = w.tape ∧ w1.output = w.output) →
      (execOp a.eval o).run P w = .ok (.value (.slice (some ⟨w.heap.size, 0, none⟩) (nx + m) cap)) (w1.alloc (.cells (xv.toArray ++ yv.toArray ++ Builtin.zeroCells z.cells (cap - (nx + m))) e)) →
      (∀ a' w' R' bl', Rel LOK B nt (delO E o.dst) (updO pf o.dst (.row S.length ty.size 0 (nx + m))) (rowS S i (.rowo S.length (xc ++ ys.flatMap AV.cells))) D a' w' R' bl' → next a' w') → o.wpIn (fen ro) n P a w next Q := by
    intro i hi nx xv xc hxc xone hxl cap hcap hcm w1 hw1 hrun hn
    have hcells : (xv.toArray ++ yv.toArray ++ Builtin.zeroCells z.cells (cap - (nx + m))) = ((xv ++ yv) ++ (Builtin.zeroCells z.cells (cap - (nx + m))).toList).toArray := by
      apply Array.toList_inj.1; simp
    rw [hcells] at hrun
    generalize hW : (w1.alloc (.cells ((xv ++ yv) ++ (Builtin.zeroCells z.cells (cap - (nx + m))).toList).toArray e)) = W at hrun
    have hheap : W.heap = w.heap.push (.cells ((xv ++ yv) ++ (Builtin.zeroCells z.cells (cap - (nx + m))).toList).toArray e) := by rw [← hW]; simp [World.alloc, hw1.1]
    have hsz : W.heap.size = w.heap.size + 1 := by rw [hheap]; simp
    have hold : ∀ k, k ≠ w.heap.size → k < w.heap.size → W.heap[k]? = w.heap[k]? := fun k _ hk => by
      rw [hheap, Array.getElem?_push, if_neg (by omega)]
    have hnew : W.heap[w.heap.size]? = some (.cells ((xv ++ yv) ++ (Builtin.zeroCells z.cells (cap - (nx + m))).toList).toArray e) := by rw [hheap]; simp
    have hcsz : ((xv ++ yv) ++ (Builtin.zeroCells z.cells (cap - (nx + m))).toList).toArray.size = cap * ty.size := by
      simp only [List.size_toArray, List.length_append, Array.length_toList, size_zeroCells, hzs, hxl, yl, ← Nat.add_mul]
      congr 1; omega
    have hno : ∀ (q : Addr) u, R q u → q.block ≠ w.heap.size := fun q u hr e => by have := cell_lt (hrel.stab q u hr).1; omega
    have hob : ObR LOK R (mains bl ++ [w.heap.size, cap * ty.size]) W (w.heap.size, [w.heap.size]) (.rowo S.length (xc ++ ys.flatMap AV.cells)) := by
      have hall : VRs R (mains bl) (xv ++ yv) (xc ++ ys.flatMap AV.cells) := hxc.append hYc
      refine ⟨rfl, ?_, hno, _, e, cap * ty.size, hnew, ?_, by rw [hcsz]; exact Nat.le_refl _, ?_, fun j k1 k2 => ?_⟩
      · rw [List.getElem?_append_right (by rw [hmlen]; exact Nat.le_refl _), hmlen]; simp
      · rw [List.getElem?_append_right (by rw [hmlen]; omega), hmlen]; simp
      · rw [← hall.1]; simp
      · have k3 : j < (xv ++ yv).length := by rw [hall.1]; exact k2
        have he : (((xv ++ yv) ++ (Builtin.zeroCells z.cells (cap - (nx + m))).toList).toArray)[j] = (xv ++ yv)[j] := by
          simp only [List.getElem_toArray]
          rw [List.getElem_append_left k3]
        rw [he]
        refine ⟨(hall.2 j k3 k2).monoM (fun _ _ h => h) (fun i b hb => by rw [List.getElem?_append_left (List.getElem?_eq_some_iff.1 hb).1]; exact hb), ?_⟩
        have := List.getElem_mem k3
        rcases List.mem_append.1 this with h | h
        · exact xone _ h
        · exact yone _ h
    have hos : W.os = w.os ∧ W.tape = w.tape ∧ W.output = w.output := by rw [← hW]; exact hw1.2
    have hnf : w.heap.size ∉ fp bl := fun hf => by have := hrel.sr.lt _ hf; omega
    refine wpIn_value (by rw [hop]; simp) hrun (hn _ W R (rowBL bl i w.heap.size (cap * ty.size)) ?_)
    refine hrel.put_plain (hrel.stp.row hi (.inr (Nat.le_refl _)) (by omega) hos.1 hos.2.1 hos.2.2 hold hno) (fun _ _ h => h) (fun j b hb => ?_) (hrel.sr.row hi (.inr hnf) (by omega) (by omega) hold hob) ?_ hd (hkk _ W (.inr (Nat.le_refl _)) hold i hi _)
    · rw [mains_rowBL hi, List.getElem?_append_left (List.getElem?_eq_some_iff.1 hb).1]; exact hb
    · rw [mains_rowBL hi]
      refine .row _ _ _ _ _ _ (cap * ty.size) ?_ ?_ hcap (by omega) hcm
      · rw [List.getElem?_append_right (by rw [hmlen]; exact Nat.le_refl _), hmlen]; simp
      · rw [List.getElem?_append_right (by rw [hmlen]; omega), hmlen]; simp
  have hempty : ys.isEmpty = true → m = 0 := by
    intro h
    have : ys = [] := by simpa using h
    subst this
    simpa using hm
  split at hev
  · -- a nil row
    have hev0 : a.eval s = .slice none 0 0 := by
      generalize a.eval s = v at hX
      cases hX; rfl
    rw [hev0] at hcall
    split at hev
    · rename_i hye
      have hm0 := hempty hye
      subst hm0
      injection hev with hev; injection hev with e1 e2; subst e1 e2
      have hr := hcall _ _ (run_append_zero t o.type e ie hu hie none A 0 0 c' (Nat.le_refl _))
      refine wpIn_value (by rw [hop]; simp) hr (hn _ w R bl ?_)
      exact hrel.put_plain hrel.stp (fun _ _ h => h) (fun _ _ h => h) hrel.sr .nils hd (fun s g hsg b hb => ⟨rfl, fun q u hq => .inl hq, (hrel.mine s g hsg b hb).2⟩)
    · rename_i hye
      split at hev
      case isFalse => cases hev
      rename_i hbytes
      injection hev with hev; injection hev with e1 e2; subst e1 e2
      have hm0 : m ≠ 0 := by
        rintro rfl
        apply hye
        have : ys.length = 0 := hm.symm
        simpa using this
      obtain ⟨ad, rfl⟩ : ∃ ad, A = some ad := by
        cases A with
        | none => exact absurd (ynil rfl).1 hm0
        | some ad => exact ⟨ad, rfl⟩
      have hnews : ∀ j u, yv[j]? = some u → w.cell? (ad.add j) = some u := fun j u hj => (hrel.stab _ _ (yR ad rfl j u hj)).1
      have hb2 : m * ie.bytes ≤ 140737488355328 := by rw [← g2, hm]; exact hbytes
      have hle : m ≤ m * ie.bytes := Nat.le_mul_of_pos_right _ (by omega)
      have hr := hcall _ _ (run_append_nil (P := P) w t o.type e ie z hu hie hz ad m c' yv hyl hnews (by omega) (by omega) (by omega))
      have hr2 := fresh none (fun j e => by cases e) 0 [] [] ⟨rfl, by simp⟩ (by simp) (by simp) (grownCap w m 0 e) (by simpa using grownCap_ge w m 0 e) (grownCap_le_maxLen w m 0 e (by unfold maxLen; omega)) w.drew ⟨rfl, rfl, rfl, rfl⟩
      simp only [Nat.zero_add, List.nil_append, Array.empty_append] at hr2
      refine hr2 hr (fun a' w' R' bl' h => hn a' w' R' bl' ?_)
      rw [← hm]
      exact h
  · -- a row that is an object
    rename_i id sz' off nx
    split at hev
    · rename_i hye
      have hm0 := hempty hye
      subst hm0
      injection hev with hev; injection hev with e1 e2; subst e1 e2
      obtain ⟨b, k, c, hev0, q1, q2, q3, q4, q5⟩ := hX.row_inv
      rw [hev0] at hcall hX
      have hr := hcall _ _ (run_append_zero t o.type e ie hu hie _ A nx c c' q3)
      refine wpIn_value (by rw [hop]; simp) hr (hn _ w R bl ?_)
      exact hrel.put_plain hrel.stp (fun _ _ h => h) (fun _ _ h => h) hrel.sr hX hd (fun s g hsg b hb => ⟨rfl, fun q u hq => .inl hq, (hrel.mine s g hsg b hb).2⟩)
    · rename_i hye
      split at hev
      case isFalse => cases hev
      rename_i hc2
      obtain ⟨rfl, rfl, hbytes⟩ := hc2
      split at hev
      case h_2 => cases hev
      rename_i rid cs hS
      split at hev
      case isFalse => cases hev
      rename_i hncs
      obtain ⟨hrid, hncs⟩ := hncs
      have hrid := hrid.symm
      subst hrid
      injection hev with hev; injection hev with e1 e2; subst e1 e2
      obtain ⟨b, k, c, hev0, q1, q2, q3, q4, q5⟩ := hX.row_inv
      rw [hev0] at hcall
      obtain ⟨p, hp, hpb⟩ := mains_inv q1
      obtain ⟨r1, r0, r2, vals, e0, k', r3, r4, r5, r6, r7⟩ := hrel.sr.obj _ p _ hp hS
      have hm0 : m ≠ 0 := by
        rintro rfl
        apply hye
        have : ys.length = 0 := hm.symm
        simpa using this
      obtain ⟨ad, rfl⟩ : ∃ ad, A = some ad := by
        cases A with
        | none => exact absurd (ynil rfl).1 hm0
        | some ad => exact ⟨ad, rfl⟩
      have hnews : ∀ j u, yv[j]? = some u → w.cell? (ad.add j) = some u := fun j u hj => (hrel.stab _ _ (yR ad rfl j u hj)).1
      have hb2 : (nx + m) * ie.bytes ≤ 140737488355328 := by rw [← g2, hm]; exact hbytes
      have hle : nx + m ≤ (nx + m) * ie.bytes := Nat.le_mul_of_pos_right _ (by omega)
      subst hpb
      have hbf : p.1 ∈ fp bl := fp_at hp _ (by rw [r1]; simp)
      have hxv : VRs R (mains bl) (vals.toList.take (nx * ty.size)) (cs.take (nx * ty.size)) := by
        refine ⟨by simp; omega, fun j j1 j2 => ?_⟩
        have j3 : j < vals.size := by simp at j1; omega
        have j4 : j < cs.length := by simp at j2; omega
        simpa using (r7 j j3 j4).1
      have hxone : ∀ v ∈ vals.toList.take (nx * ty.size), v.oneCell' = true := by
        intro v hv
        obtain ⟨j, hj, rfl⟩ := List.getElem_of_mem hv
        have j3 : j < vals.size := by simp at hj; omega
        have j4 : j < cs.length := by simp at hj; omega
        simpa using (r7 j j3 j4).2
      have hxl : (vals.toList.take (nx * ty.size)).length = nx * ty.size := by simp; omega
      have hkk' : k' = k := by
        rw [r4] at q2; injection q2
      subst hkk'
      have hcsz : c * ty.size ≤ vals.size := by omega
      by_cases hroom : nx + m ≤ c
      · have hfit : nx * ie.size + yv.length ≤ vals.size := by
          rw [hyl, ← g1, ← Nat.add_mul]
          exact Nat.le_trans (Nat.mul_le_mul_right _ hroom) hcsz
        have hr := hcall _ _ (run_append_room' (P := P) (w := w) t o.type e e0 ie hu hie p.1 nx c vals r3 ad m c' yv hyl hnews yone hroom hfit)
        rw [← g1] at hr hfit
        generalize hW : (w.setRow p.1 (vals.toList.take (nx * ty.size) ++ yv ++ vals.toList.drop (nx * ty.size + yv.length)).toArray) = W at hr
        have hnew : W.heap[p.1]? = some (.cells (vals.toList.take (nx * ty.size) ++ yv ++ vals.toList.drop (nx * ty.size + yv.length)).toArray e0 (0, 0)) := by
          rw [← hW]; exact setRow_heap w p.1 vals _ e0 (0, 0) r3
        have hoth : ∀ x, x ≠ p.1 → x < w.heap.size → W.heap[x]? = w.heap[x]? := fun x hx _ => by rw [← hW]; exact setRow_other w p.1 x _ hx
        have hsz : W.heap.size = w.heap.size := by rw [← hW]; simp [World.setRow]
        have hi : ∀ j, some id = some j → ∃ p, bl[j]? = some p := fun j hj => by injection hj with hj; subst hj; exact ⟨p, hp⟩
        have hvsz : (vals.toList.take (nx * ty.size) ++ yv ++ vals.toList.drop (nx * ty.size + yv.length)).toArray.size = vals.size := by
          simp only [List.size_toArray, List.length_append, List.length_drop, hxl, Array.length_toList]; omega
        have hob : ObR LOK R (mains bl ++ [p.1, k']) W (p.1, [p.1]) (.rowo S.length (cs.take (nx * ty.size) ++ ys.flatMap AV.cells)) := by
          have hall : VRs R (mains bl) (vals.toList.take (nx * ty.size) ++ yv) (cs.take (nx * ty.size) ++ ys.flatMap AV.cells) := hxv.append hYc
          refine ⟨rfl, ?_, r2, _, e0, k', hnew, ?_, by rw [hvsz]; exact r5, ?_, fun j k1 k2 => ?_⟩
          · rw [List.getElem?_append_right (by rw [hmlen]; exact Nat.le_refl _), hmlen]; simp
          · rw [List.getElem?_append_right (by rw [hmlen]; omega), hmlen]; simp
          · rw [← hall.1, hvsz, List.length_append, hxl]; exact hfit
          · have k3 : j < (vals.toList.take (nx * ty.size) ++ yv).length := by rw [hall.1]; exact k2
            have he : ((vals.toList.take (nx * ty.size) ++ yv ++ vals.toList.drop (nx * ty.size + yv.length)).toArray)[j] = (vals.toList.take (nx * ty.size) ++ yv)[j] := by
              simp only [List.getElem_toArray]
              rw [List.getElem_append_left k3]
            rw [he]
            refine ⟨(hall.2 j k3 k2).monoM (fun _ _ h => h) (fun i b hb => by rw [List.getElem?_append_left (List.getElem?_eq_some_iff.1 hb).1]; exact hb), ?_⟩
            rcases List.mem_append.1 (List.getElem_mem k3) with h | h
            · exact hxone _ h
            · exact yone _ h
        refine wpIn_value (by rw [hop]; simp) hr (hn _ W R (rowBL bl (some id) p.1 k') ?_)
        rw [← hm]
        refine hrel.put_plain (hrel.stp.row hi (.inl hbf) (by omega) (by rw [← hW]; rfl) (by rw [← hW]; rfl) (by rw [← hW]; rfl) hoth r2) (fun _ _ h => h) (fun j b hb => ?_)
          (hrel.sr.row hi (.inl ⟨id, p, rfl, hp, by rw [r1]; simp⟩) (by have := hrel.sr.lt _ hbf; omega) (by omega) hoth hob) ?_ hd (hkk _ W (.inl hbf) hoth _ hi _)
        · rw [mains_rowBL hi, List.getElem?_append_left (List.getElem?_eq_some_iff.1 hb).1]; exact hb
        · rw [mains_rowBL hi]
          refine .row _ _ _ _ _ _ k' ?_ ?_ hroom q4 q5
          · rw [List.getElem?_append_right (by rw [hmlen]; exact Nat.le_refl _), hmlen]; simp
          · rw [List.getElem?_append_right (by rw [hmlen]; omega), hmlen]; simp
      · have hr := hcall _ _ (run_append_grow (P := P) w t o.type e ie z hu hie hz ⟨p.1, 0, none⟩ nx c (vals.toList.take (nx * ty.size)) (by rw [hxl, g1]) (fun j u hj => by
            rw [add_plain, cells_of_block r3]
            obtain ⟨j1, j2⟩ := List.getElem?_eq_some_iff.1 hj
            have j3 : j < vals.size := by omega
            rw [Array.getElem?_eq_getElem j3]
            simp at j2
            rw [j2]) ad m c' yv hyl hnews (by omega) (by omega) (growslice_fits (by omega) hb2))
        have hr2 := fresh (some id) (fun j hj => by injection hj with hj; subst hj; exact ⟨p, hp⟩) nx _ _ hxv hxone hxl (grownCap w (nx + m) c e) (grownCap_ge w (nx + m) c e) (grownCap_le_maxLen w (nx + m) c e (by unfold maxLen; omega)) w.drew ⟨rfl, rfl, rfl, rfl⟩
        refine hr2 hr (fun a' w' R' bl' h => hn a' w' R' bl' ?_)
        rw [← hm]
        exact h
  · cases hev

end
end Go.Proofs.YtmcfnnpihlediaaGreatDoor.Ex
