/- A calculus of conditions for the loaded code: operations that only reckon, or read own blocks. No statement of the seat is proved here. -/
import Derived.Test.YtjefojpbglcjhaaVb
import Derived.WalkKit
import Derived.Laws.StructEq
import Derived.Laws.Pointers
import Derived.Laws.Cover3
import Derived.Laws.BytesString
namespace Go.VC
open Go

def isAggD : TypeDesc → Bool
  | .struct _ => true
  | .array _ _ => true
  | _ => false

/-- What of the program's types is asked. -/
structure Tab where
  fld : TypeId → Nat → Option Nat
  part : TypeId → Nat → Option (Nat × Option Nat)
  sz : TypeId → Option (Option Nat)
  zero : TypeId → Option (List Value × Bool)
  conv : TypeId → TypeId → Option IntKind
  sl : TypeId → Option (TypeId × Nat)
  str : TypeId → Bool
  bld : TypeId → Option (List (Nat × Nat))
  ptr : TypeId → Bool
  boolT : TypeId → Bool
  flat : TypeId → Option (List (Option IntKind))
  bys : TypeId → Bool
  arr : TypeId → Option (Nat × Nat)

structure Tab.Ok (P : Program) (T : Tab) : Prop where
  fld : ∀ (t f o : Nat), T.fld t f = some o → ∃ fs fl i, P.underlying t = some (.struct fs) ∧ fs[f]? = some fl ∧ fl.offset = o ∧ P.info? fl.type = some i ∧ i.size ≠ 0
  part1 : ∀ (t f o : Nat), T.part t f = some (o, none) → ∃ fs fl d, P.underlying t = some (.struct fs) ∧ fs[f]? = some fl ∧ fl.offset = o ∧ P.underlying fl.type = some d ∧ isAggD d = false
  partn : ∀ (t f o n : Nat), T.part t f = some (o, some n) → ∃ fs fl d i, P.underlying t = some (.struct fs) ∧ fs[f]? = some fl ∧ fl.offset = o ∧ P.underlying fl.type = some d ∧ isAggD d = true ∧ P.info? fl.type = some i ∧ i.size = n
  sz1 : ∀ t : Nat, T.sz t = some none → ∃ d i, P.underlying t = some d ∧ isAggD d = false ∧ P.info? t = some i ∧ i.size = 1
  szn : ∀ t n : Nat, T.sz t = some (some n) → ∃ d i, P.underlying t = some d ∧ isAggD d = true ∧ P.info? t = some i ∧ i.size = n
  zero : ∀ (t : Nat) (l : List Value) (b : Bool), T.zero t = some (l, b) → ∃ i, P.info? t = some i ∧ (if b = true then i.zero = some (.agg l.toArray) else ∃ x, l = [x] ∧ i.zero = some x ∧ x.oneCell' = true)
  conv : ∀ (t u : Nat) (k : IntKind), T.conv t u = some k → ∃ d, P.underlying t = some d ∧ P.underlying u = some (.int k)
  sl : ∀ (t e n : Nat), T.sl t = some (e, n) → ∃ i, P.underlying t = some (.slice e) ∧ P.info? e = some i ∧ i.size = n
  str : ∀ t : Nat, T.str t = true → P.underlying t = some .string
  ptr : ∀ t : Nat, T.ptr t = true → ∃ e, P.underlying t = some (.pointer e)
  boolT : ∀ t : Nat, T.boolT t = true → P.underlying t = some .bool
  flat : ∀ (t : Nat) (l : List (Option IntKind)), T.flat t = some l → ∃ fs, P.underlying t = some (.struct fs) ∧ P.stoodInHeld t = false ∧ P.eqGuardType P.depth t = false ∧ fs.toList.length = l.length ∧
    ∀ (i : Nat) (f : Field) (x : Option IntKind), fs.toList[i]? = some f → l[i]? = some x → f.name ≠ "_" ∧ f.offset = i ∧ P.underlying f.type = some (match x with | some k => .int k | none => .bool)
  bys : ∀ t : Nat, T.bys t = true → ∃ e, P.underlying t = some (.slice e) ∧ P.underlying e = some (.int .u8)
  arr : ∀ (t n z : Nat), T.arr t = some (n, z) → ∃ e i, P.underlying t = some (.array n e) ∧ P.info? e = some i ∧ i.size = z
  bld : ∀ (t : Nat) (l : List (Nat × Nat)), T.bld t = some l → ∃ fs, P.underlying t = some (.struct fs) ∧ fs.toList.map (fun f => (f.offset, ((P.info? f.type).map (·.size)).getD 0)) = l ∧ ∀ f ∈ fs, ∃ i, P.info? f.type = some i

section run
variable {P : Program} (w : World)
theorem run_underlying' {t : TypeId} {d : TypeDesc} (h : P.underlying t = some d) : (underlying t).run P w = .ok d w := by
  simp [underlying, h]
theorem run_sizeOf' {t : TypeId} {i : TypeInfo} (h : P.info? t = some i) : (sizeOf t).run P w = .ok i.size w := by
  simp [sizeOf, typeInfo, h]
theorem run_isAgg_no {t : TypeId} {d : TypeDesc} (h : P.underlying t = some d) (h1 : isAggD d = false) : (isAgg t).run P w = .ok false w := by
  simp only [isAgg, Sem.run_bind, run_underlying' w h, Result.andThen_ok]
  cases d <;> first | rfl | cases h1
theorem run_isAgg_yes {t : TypeId} {d : TypeDesc} (h : P.underlying t = some d) (h1 : isAggD d = true) : (isAgg t).run P w = .ok true w := by
  simp only [isAgg, Sem.run_bind, run_underlying' w h, Result.andThen_ok]
  cases d <;> first | rfl | cases h1

theorem run_fieldAt {t : TypeId} {fs : Array Field} {f : Nat} {fl : Field} {i : TypeInfo} (h : P.underlying t = some (.struct fs)) (hf : fs[f]? = some fl) (hi : P.info? fl.type = some i) (hs : i.size ≠ 0) (a : Addr) :
    (Instr.fieldAt t (.pointer (some a)) f).run P w = .ok (.pointer (some (a.add fl.offset))) w := by
  simp [Instr.fieldAt, run_underlying' w h, hf, Instr.sureAddr, fieldPlace, run_sizeOf' w hi, hs]
theorem run_loadVar1 {t : TypeId} {d : TypeDesc} (h : P.underlying t = some d) (h1 : isAggD d = false) {a : Addr} {v : Value} (hc : w.cell? a = some v) :
    (Instr.loadAt t (.pointer (some a))).run P w = .ok v w := by
  simp [Instr.loadAt, Instr.sureAddr, loadVar, run_isAgg_no w h h1, hc]
theorem run_loadVarN {t : TypeId} {d : TypeDesc} {i : TypeInfo} (h : P.underlying t = some d) (h1 : isAggD d = true) (hi : P.info? t = some i) {a : Addr} {l : List Value}
    (hl : l.length = i.size) (hc : ∀ (j : Nat) (v : Value), l[j]? = some v → w.cell? (a.add j) = some v) :
    (Instr.loadAt t (.pointer (some a))).run P w = .ok (.agg l.toArray) w := by
  have := run_loadCells_list (P := P) w a l hc
  rw [hl] at this
  simp [Instr.loadAt, Instr.sureAddr, loadVar, run_isAgg_yes w h h1, run_sizeOf' w hi, this]
end run

def gt (c : Operand) (b : Bool) (G : List (Nat × Bool)) : List (Nat × Bool) := match c with | .tmp t => (t, b) :: G | _ => G

def pickO : Option AV → Option AV → Option AV → Option AV
  | some (.a (.v (.bool c))), some (.a (.v (.bool a))), some (.a (.v (.bool b))) => some (.a (.v (.bool (bif c then a else b))))
  | _, _, _ => none
def notO : Option AV → Option AV
  | some (.a (.v (.bool b))) => some (.a (.v (.bool !b)))
  | _ => none
def binI (op : BinOp) (k : IntKind) (a b : Int) : Option Value :=
  match op with
  | .add => some (.int k (k.wrap (a + b)))
  | .sub => some (.int k (k.wrap (a - b)))
  | .mul => some (.int k (k.wrap (a * b)))
  | .quo => some (.int k (k.wrap (a.tdiv b)))
  | .rem => some (.int k (a.tmod b))
  | .or => some (.int k (k.wrap (BitVec.ofInt k.bits a ||| BitVec.ofInt k.bits b).toNat))
  | .xor => some (.int k (k.wrap (BitVec.ofInt k.bits a ^^^ BitVec.ofInt k.bits b).toNat))
  | .eql => some (.bool (a == b))
  | .neq => some (.bool (a != b))
  | .lss => some (.bool (decide (a < b)))
  | .leq => some (.bool (decide (a ≤ b)))
  | .gtr => some (.bool (decide (a > b)))
  | .geq => some (.bool (decide (a ≥ b)))
  | _ => none
def binH (op : BinOp) (k : IntKind) (a b : Int) : Option Value :=
  match op with
  | .shl => some (.int k (k.wrap (a * 2 ^ min b.toNat k.bits)))
  | .shr => some (.int k (a.fdiv (2 ^ min b.toNat k.bits)))
  | _ => none
def binS (op : BinOp) (a b : ByteArray) : Option Value :=
  match op with
  | .eql => some (.bool (a.toList == b.toList))
  | .neq => some (.bool (!(a.toList == b.toList)))
  | _ => none
/-- The answer of an equality. -/
def binE (op : BinOp) (r : Bool) : Option AV :=
  match op with
  | .eql => some (.a (.v (.bool r)))
  | .neq => some (.a (.v (.bool !r)))
  | _ => none
def eqCells : List (Option IntKind) → List A1 → List A1 → Option Bool
  | [], [], [] => some true
  | some k :: t, .v (.int k1 a) :: l, .v (.int k2 b) :: m => if k1 = k ∧ k2 = k then (eqCells t l m).map fun r => (a == b) && r else none
  | none :: t, .v (.bool a) :: l, .v (.bool b) :: m => (eqCells t l m).map fun r => (a == b) && r
  | _, _, _ => none
def eqFlat : Option (List (Option IntKind)) → List A1 → List A1 → Option Bool
  | some t, l, m => eqCells t l m
  | none, _, _ => none
def isShift : BinOp → Bool
  | .shl => true
  | .shr => true
  | _ => false
def binO (T : Tab) (op : BinOp) (t : TypeId) : Option AV → Option AV → Option AV
  | some (.a (.v (.int k a))), some (.a (.v (.int k' b))) => if isShift op = true then (binH op k a b).map (fun x => .a (.v x)) else if k = k' then (binI op k a b).map (fun x => .a (.v x)) else none
  | some (.a (.v (.string a))), some (.a (.v (.string b))) => (binS op a b).map (fun x => .a (.v x))
  | some (.a (.v (.bool a))), some (.a (.v (.bool b))) => if T.boolT t = true then binE op (a == b) else none
  | some (.a (.p _ _)), some (.a (.v (.pointer none))) => if T.ptr t = true then binE op false else none
  | some (.a (.v (.pointer p))), some (.a (.v (.pointer none))) => if T.ptr t = true then binE op p.isNone else none
  | some (.a (.s _ _ _ _)), some (.a (.v (.slice none 0 0))) => if (T.sl t).isSome = true then binE op false else none
  | some (.a (.v (.slice p _ _))), some (.a (.v (.slice none 0 0))) => if (T.sl t).isSome = true then binE op p.isNone else none
  | some (.g l), some (.g m) => (eqFlat (T.flat t) l m).bind (binE op)
  | _, _ => none
def fldO : Option Nat → Option AV → Option AV
  | some o, some (.a (.p r i)) => some (.a (.p r (i + o)))
  | some o, some (.a (.v (.pointer (some ⟨b, i, none⟩)))) => some (.a (.v (.pointer (some ⟨b, i + o, none⟩))))
  | _, _ => none
def cellsO (i : Nat) : Option (Option Nat) → List A1 → Option AV
  | some none, l => (l[i]?).map .a
  | some (some n), l => if i + n ≤ l.length then some (.g ((l.drop i).take n)) else none
  | none, _ => none
/-- Of a row of values. -/
def rowO (i : Nat) (l : List Value) : Option (Option Nat) → Option AV
  | some none => some (.a (.v (l.getD i undef)))
  | some (some n) => some (.g (((l.drop i).take n).map .v))
  | none => none
def blkO (i : Nat) (z : Option (Option Nat)) : Option (Nat × AB) → Option AV
  | some (_, .c _ l) => cellsO i z l
  | some (_, .raw _ l _) => rowO i l z
  | _ => none
def frzO (i : Nat) (z : Option (Option Nat)) : Option Obj → Option AV
  | some (.cells l _ _) => rowO i l.toList z
  | _ => none
def loadO (own : Own) (F : Frozen) (z : Option (Option Nat)) : Option AV → Option AV
  | some (.a (.p r i)) => blkO i z own[r]?
  | some (.a (.v (.pointer (some ⟨b, i, none⟩)))) => frzO i z (F b)
  | _ => none
def nilO : Option AV → Option AV
  | some (.a (.p r i)) => some (.a (.p r i))
  | some (.a (.v (.pointer (some a)))) => some (.a (.v (.pointer (some a))))
  | _ => none
def P2.av : P2 → AV
  | .a x => .a x
  | .g l => .g l
def extO (i : Nat) : Option AV → Option AV
  | some (.t l) => (l[i]?).map P2.av
  | _ => none
def convO : Option IntKind → Option AV → Option AV
  | some k, some (.a (.v (.int _ n))) => some (.a (.v (.int k (k.wrap n))))
  | _, _ => none
def lenO (isSl : Bool) (isStr : Bool) : Option AV → Option AV
  | some (.a (.s _ _ n _)) => if isSl = true then some (.a (.v (.int .i64 n))) else none
  | some (.a (.v (.slice _ n _))) => if isSl = true then some (.a (.v (.int .i64 n))) else none
  | some (.a (.v (.string s))) => if isStr = true then some (.a (.v (.int .i64 s.size))) else none
  | _ => none
def mxI (a b : Int) : Int := if b > a then b else a
def mnI (a b : Int) : Int := if b < a then b else a
def mxO (mx : Bool) : Option AV → Option AV → Option AV
  | some (.a (.v (.int k a))), some (.a (.v (.int _ b))) => some (.a (.v (.int k (if mx = true then mxI a b else mnI a b))))
  | _, _ => none
def partO : Option (Nat × Option Nat) → Option AV → Option AV
  | some (o, none), some (.g l) => (l[o]?).map .a
  | some (o, some n), some (.g l) => if o + n ≤ l.length then some (.g ((l.drop o).take n)) else none
  | _, _ => none

def idxO (i : Int) : Option (TypeId × Nat) → Option (Nat × Nat) → Option AV → Option AV
  | some (_, z), _, some (.a (.s r o _ _)) => some (.a (.p r (o + i.toNat * z)))
  | some (_, z), _, some (.a (.v (.slice (some ⟨b, o, none⟩) _ _))) => some (.a (.v (.pointer (some ⟨b, o + i.toNat * z, none⟩))))
  | _, some (_, z), some (.a (.p r o)) => some (.a (.p r (o + i.toNat * z)))
  | _, _, _ => none
def idxA (a : Option (TypeId × Nat)) (b : Option (Nat × Nat)) (x : Option AV) : Option AV → Option AV
  | some (.a (.v (.int _ i))) => idxO i a b x
  | _ => none
def sixO (st : Bool) : Option AV → Option AV → Option AV
  | some (.a (.v (.string s))), some (.a (.v (.int _ i))) => if st = true then some (.a (.v (.int .u8 ((s.data.toList.getD i.toNat 0).toNat)))) else none
  | _, _ => none
def bytesOf (l : List Value) : ByteArray := ⟨(l.map fun | .int _ n => UInt8.ofNat n.toNat | _ => 0).toArray⟩
def isByte : Value → Bool
  | .int .u8 _ => true
  | _ => false
def rawOf : Option (Nat × AB) → Option (List Value)
  | some (_, .raw _ l _) => some l
  | _ => none
def frzOf : Option Obj → Option (List Value)
  | some (.cells l _ _) => some l.toList
  | _ => none
/-- The cells of bytes that lie in what is frozen; and that they are there. -/
def strD (F : Frozen) (p : Option Addr) (n : Nat) : List Value :=
  match p with
  | none => []
  | some a => match F a.block with
    | some (.cells l _ _) => (l.toList.drop a.off).take n
    | _ => []
def rdD (F : Frozen) (p : Option Addr) (n : Nat) : Prop :=
  n = 0 ∨ ∃ a l ty fr, p = some a ∧ a.spot = none ∧ F a.block = some (.cells l ty fr) ∧ a.off + n ≤ l.size
def strO (own : Own) (F : Frozen) : Option AV → Option AV
  | some (.a (.s r i n _)) => (rawOf own[r]?).map fun l => .a (.v (.string (bytesOf ((l.drop i).take n))))
  | some (.a (.v (.slice p n _))) => some (.a (.v (.string (bytesOf (strD F p n)))))
  | _ => none
def cvO (T : Tab) (own : Own) (F : Frozen) (t u : TypeId) (x : Option AV) : Option AV :=
  if (T.bys t && T.str u) = true then strO own F x else convO (T.conv t u) x
/-- A bound of a slice. -/
def bndO (v : Nat) : Option (Option AV) → Option Int
  | none => some v
  | some (some (.a (.v (.int _ i)))) => some i
  | _ => none
def slcO (z : Option (TypeId × Nat)) (lo hi : Option (Option AV)) : Option AV → Option AV
  | some (.a (.s r o n c)) => match z, bndO 0 lo, bndO n hi with
    | some (_, z), some l, some h => some (.a (.s r (if c = l.toNat then o else o + l.toNat * z) (h.toNat - l.toNat) (c - l.toNat)))
    | _, _, _ => none
  | some (.a (.v (.slice none n c))) => match z, bndO 0 lo, bndO n hi with
    | some _, some l, some h => some (.a (.v (.slice none (h.toNat - l.toNat) (c - l.toNat))))
    | _, _, _ => none
  | some (.a (.v (.slice (some ⟨b, o, none⟩) n c))) => match z, bndO 0 lo, bndO n hi with
    | some (_, z), some l, some h => some (.a (.v (.slice (some ⟨b, if c = l.toNat then o else o + l.toNat * z, none⟩) (h.toNat - l.toNat) (c - l.toNat))))
    | _, _, _ => none
  | _ => none
def callO (T : Tab) (s : St) (G : List (Nat × Bool)) : Callee → Array Operand → Array TypeId → Option AV
  | .builtin .len, a, ts => match a.toList, ts.toList with
    | [x], [t] => lenO (T.sl t).isSome (T.str t) (val s G x)
    | _, _ => none
  | .builtin .max, a, _ => match a.toList with
    | [x, y] => mxO true (val s G x) (val s G y)
    | _ => none
  | .builtin .min, a, _ => match a.toList with
    | [x, y] => mxO false (val s G x) (val s G y)
    | _ => none
  | _, _, _ => none

/-- The value of an operation that only reckons, or reads. -/
def evP (T : Tab) (s : St) (G : List (Nat × Bool)) : Op → Option AV
  | .move x => val s G x
  | .assign x => val s G x
  | .pick c a b => pickO (val s G c) (val s (gt c true G) a) (val s (gt c false G) b)
  | .unOp .not _ x => notO (val s G x)
  | .binOp op t x y _ => binO T op t (val s G x) (val s G y)
  | .fieldAddr t x f => fldO (T.fld t f) (val s G x)
  | .field t x f => partO (T.part t f) (val s G x)
  | .load t x => loadO s.own s.F (T.sz t) (val s G x)
  | .nilCheck x => nilO (val s G x)
  | .extract x i => extO i (val s G x)
  | .convert t u x => cvO T s.own s.F t u (val s G x)
  | .indexAddr t x i => idxA (T.sl t) (T.arr t) (val s G x) (val s G i)
  | .index t x i => sixO (T.str t) (val s G x) (val s G i)
  | .slice t x lo hi none => slcO (T.sl t) (lo.map (val s G)) (hi.map (val s G)) (val s G x)
  | .call c => callO T s G c.callee c.args c.argTypes
  | _ => none

def sideB : BinOp → Option AV → Prop
  | .quo, some (.a (.v (.int _ b))) => b ≠ 0
  | .rem, some (.a (.v (.int _ b))) => b ≠ 0
  | .shl, some (.a (.v (.int _ b))) => 0 ≤ b
  | .shr, some (.a (.v (.int _ b))) => 0 ≤ b
  | _, _ => True
def sideN (i n : Nat) : Option (Option Nat) → Prop
  | some none => i < n
  | some (some m) => i + m ≤ n
  | none => True
def sideK (i : Nat) (z : Option (Option Nat)) : Option (Nat × AB) → Prop
  | some (_, .raw _ l _) => sideN i l.length z
  | _ => True
def sideF (i : Nat) (z : Option (Option Nat)) : Option Obj → Prop
  | some (.cells l _ _) => sideN i l.size z
  | _ => True
def sideL (own : Own) (F : Frozen) (z : Option (Option Nat)) : Option AV → Prop
  | some (.a (.p r i)) => sideK i z own[r]?
  | some (.a (.v (.pointer (some ⟨b, i, none⟩)))) => sideF i z (F b)
  | _ => True
def sideI (a : Option (Nat × Nat)) : Option AV → Option AV → Prop
  | some (.a (.s _ _ n _)), some (.a (.v (.int _ i))) => 0 ≤ i ∧ i < n
  | some (.a (.v (.slice _ n _))), some (.a (.v (.int _ i))) => 0 ≤ i ∧ i < n
  | some (.a (.p _ _)), some (.a (.v (.int _ i))) => match a with | some (n, _) => 0 ≤ i ∧ i < n | none => True
  | some (.a (.v (.string s))), some (.a (.v (.int _ i))) => 0 ≤ i ∧ i < s.size
  | _, _ => True
def sideR (i n : Nat) : Option (List Value) → Prop
  | some l => i + n ≤ l.length ∧ ((l.drop i).take n).all isByte = true
  | none => True
def sideC (own : Own) (F : Frozen) : Option AV → Prop
  | some (.a (.s r i n _)) => sideR i n (rawOf own[r]?)
  | some (.a (.v (.slice p n _))) => rdD F p n ∧ (strD F p n).all isByte = true
  | _ => True
def sideS2 (c : Nat) : Option Int → Option Int → Prop
  | some l, some h => 0 ≤ l ∧ l ≤ h ∧ h ≤ c
  | _, _ => True
def sideS (lo hi : Option (Option AV)) : Option AV → Prop
  | some (.a (.s _ _ n c)) => sideS2 c (bndO 0 lo) (bndO n hi)
  | some (.a (.v (.slice _ n c))) => sideS2 c (bndO 0 lo) (bndO n hi)
  | _ => True
/-- What must hold for it not to panic, and to find what it reads. -/
def sideP (T : Tab) (s : St) (G : List (Nat × Bool)) : Op → Prop
  | .binOp op _ _ y _ => sideB op (val s G y)
  | .load t x => sideL s.own s.F (T.sz t) (val s G x)
  | .indexAddr t x i => sideI (T.arr t) (val s G x) (val s G i)
  | .index _ x i => sideI none (val s G x) (val s G i)
  | .convert _ _ x => sideC s.own s.F (val s G x)
  | .slice _ x lo hi none => sideS (lo.map (val s G)) (hi.map (val s G)) (val s G x)
  | _ => True

theorem holds_gt {s : St} {G : List (Nat × Bool)} (hG : holds s G) {c : Operand} {x : Bool}
    (hv : val s G c = some (.a (.v (.bool x)))) : holds s (gt c x G) := by
  cases c with
  | tmp t =>
    refine ⟨?_, hG⟩
    simp only [val] at hv
    split at hv
    · rename_i v' hl
      injection hv with hv
      subst hv
      simp [boolOf, hl]
    · rename_i hl
      split at hv
      · rename_i v' G' hg
        split at hv
        · injection hv with hv
          subst hv
          simp [boolOf, hl, hg]
        · cases hv
      · cases hv
  | _ => exact hG

theorem cell_of_own {own : Own} {F : Frozen} {w : World} (h : MRel own F w) {r b : Nat} {ty : TypeId} {l : List A1} (hr : own[r]? = some (b, .c ty l)) (j : Nat) :
    w.cell? ⟨b, j, none⟩ = (l[j]?).map (A1.den (bls own)) := by
  rw [cell_of_row w b j _ ty (0, 0) (h.blk r b _ hr (by simp))]
  simp
theorem add_off (b i j : Nat) : (⟨b, i, none⟩ : Addr).add j = ⟨b, i + j, none⟩ := by
  unfold Addr.add
  split
  · rename_i h; subst h; rfl
  · rfl

theorem den_get {bl : List Nat} {l : List A1} {i : Nat} {x : A1} (h : l[i]? = some x) : (l.map (A1.den bl)).toArray[i]? = some (x.den bl) := by
  simp [h]
theorem Int.beq_comm_ne (a b : Int) : (a != b) = !(a == b) := rfl

/-- The own block, and the block that is no own one, that an operation reads. -/
def rdr : Option AV → Option Nat
  | some (.a (.p r _)) => some r
  | some (.a (.s r _ _ _)) => some r
  | _ => none
def rdb : Option AV → Option Nat
  | some (.a (.v (.pointer (some a)))) => some a.block
  | some (.a (.v (.slice (some a) _ _))) => some a.block
  | _ => none
def rdR (s : St) (G : List (Nat × Bool)) : Op → Option Nat
  | .load _ x => rdr (val s G x)
  | .convert _ _ x => rdr (val s G x)
  | _ => none
def rdB (s : St) (G : List (Nat × Bool)) : Op → Option Nat
  | .load _ x => rdb (val s G x)
  | .convert _ _ x => rdb (val s G x)
  | _ => none

theorem rowO_run {P : Program} {T : Tab} (hT : T.Ok P) {w : World} {b i t : Nat} {l : List Value} {v : AV} (bl : List Nat) (n : Nat) (hc : ∀ j, w.cell? ⟨b, j, none⟩ = l[j]?) (hv : rowO i l (T.sz t) = some v) (hs : sideN i l.length (T.sz t)) :
    (Instr.loadAt t (.pointer (some ⟨b, i, none⟩))).run P w = .ok (v.den bl) w ∧ v.ok n := by
  cases hz : T.sz t with
  | none => rw [hz] at hv; cases hv
  | some z =>
    rw [hz] at hv hs
    cases z with
    | none =>
      simp only [rowO, Option.some.injEq] at hv
      subst hv
      obtain ⟨d, ti, h1, h2, _, _⟩ := hT.sz1 _ hz
      have hlt : i < l.length := hs
      refine ⟨?_, trivial⟩
      rw [run_loadVar1 w h1 h2 (v := l.getD i undef) (by rw [hc]; simp [List.getD, hlt])]
      rfl
    | some m =>
      simp only [rowO, Option.some.injEq] at hv
      subst hv
      obtain ⟨d, ti, h1, h2, h3, h4⟩ := hT.szn _ _ hz
      have hle : i + m ≤ l.length := hs
      refine ⟨?_, fun y hy => by obtain ⟨z, _, rfl⟩ := List.mem_map.1 hy; trivial⟩
      rw [run_loadVarN w h1 h2 h3 (l := (l.drop i).take m) (by rw [h4]; simp; omega) (fun j v hj => ?_)]
      · simp only [AV.den]
        rw [List.map_map, show (A1.den bl ∘ A1.v) = id from rfl, List.map_id]
      · rw [add_off, hc]
        rw [List.getElem?_take] at hj
        split at hj
        · rw [List.getElem?_drop] at hj
          exact hj
        · cases hj

theorem foldl_bytes : ∀ (ns : List Int) (r : List UInt8), ns.foldl (fun (r : ByteArray) n => r.push (UInt8.ofNat n.toNat)) ⟨r.toArray⟩ = ⟨(r ++ ns.map fun n => UInt8.ofNat n.toNat).toArray⟩
  | [], r => by simp
  | n :: ns, r => by
    rw [List.foldl_cons]
    have : ByteArray.push ⟨r.toArray⟩ (UInt8.ofNat n.toNat) = ⟨(r ++ [UInt8.ofNat n.toNat]).toArray⟩ := by simp [ByteArray.push]
    rw [this, foldl_bytes ns]
    simp
theorem bytesOf_all : ∀ {l : List Value}, l.all isByte = true → ∃ ns : List Int, l = ns.map (Value.int .u8) ∧ bytesOf l = ⟨(ns.map fun n => UInt8.ofNat n.toNat).toArray⟩
  | [], _ => ⟨[], rfl, rfl⟩
  | x :: l, h => by
    simp only [List.all_cons, Bool.and_eq_true] at h
    obtain ⟨ns, h1, h2⟩ := bytesOf_all h.2
    have hx : ∃ n, x = .int .u8 n := by
      cases x with
      | int k n => cases k <;> first | exact ⟨n, rfl⟩ | (simp [isByte] at h)
      | _ => simp [isByte] at h
    obtain ⟨n, rfl⟩ := hx
    refine ⟨n :: ns, by rw [h1]; rfl, ?_⟩
    simp only [bytesOf, ByteArray.mk.injEq] at h2 ⊢
    have h3 : l.map (fun | .int _ n => UInt8.ofNat n.toNat | _ => 0) = ns.map fun n => UInt8.ofNat n.toNat := by simpa using h2
    simp only [List.map_cons, h3]
theorem bytes_run {P : Program} {T : Tab} (hT : T.Ok P) {w : World} {b i n c t u : Nat} {l : List Value} (hb : (T.bys t && T.str u) = true) (hc : ∀ j, w.cell? ⟨b, j, none⟩ = l[j]?) (hs : i + n ≤ l.length ∧ ((l.drop i).take n).all isByte = true) :
    (convert t u (.slice (some ⟨b, i, none⟩) n c)).run P w = .ok (.string (bytesOf ((l.drop i).take n))) w := by
  rw [Bool.and_eq_true] at hb
  obtain ⟨e, h1, h2⟩ := hT.bys _ hb.1
  have h3 := hT.str _ hb.2
  obtain ⟨ns, g1, g2⟩ := bytesOf_all hs.2
  have hlen : ((l.drop i).take n).length = n := by simp; omega
  have hload : (loadCells ⟨b, i, none⟩ n).run P w = .ok (ns.map (Value.int .u8)).toArray w := by
    have := run_loadCells_list (P := P) w ⟨b, i, none⟩ ((l.drop i).take n) (fun j v hj => by
      rw [add_off, hc]
      rw [List.getElem?_take] at hj
      split at hj
      · rw [List.getElem?_drop] at hj
        exact hj
      · cases hj)
    rw [hlen, g1] at this
    exact this
  rw [run_convert_bytes_string w t u e (some ⟨b, i, none⟩) n c h1 h2 h3, run_bytesToString w _ n c ns hload, g2]
  congr 2
  have := foldl_bytes ns []
  rw [List.nil_append] at this
  exact this

theorem strD_run {P : Program} {T : Tab} (hT : T.Ok P) {w : World} {F : Frozen} {p : Option Addr} {n c t u : Nat} (hb : (T.bys t && T.str u) = true) (hr : rdD F p n) (hby : (strD F p n).all isByte = true)
    (hfz : ∀ a, p = some a → ∀ ob, F a.block = some ob → w.heap[a.block]? = some ob) : (convert t u (.slice p n c)).run P w = .ok (.string (bytesOf (strD F p n))) w := by
  rcases hr with rfl | ⟨a, l, ty, fr, rfl, hs, hF, hle⟩
  · have e : strD F p 0 = [] := by
      unfold strD
      split
      · rfl
      · split <;> simp
    rw [e]
    rw [Bool.and_eq_true] at hb
    obtain ⟨el, h1, h2⟩ := hT.bys _ hb.1
    have h3 := hT.str _ hb.2
    rw [run_convert_bytes_string w t u el p 0 c h1 h2 h3]
    cases p with
    | none => rfl
    | some a =>
      rw [run_bytesToString w _ 0 c [] (by simp [loadCells]; rfl)]
      rfl
  · obtain ⟨b, o, s⟩ := a
    simp only at hs hF hle
    subst hs
    have hobj := hfz _ rfl _ hF
    have e : strD F (some ⟨b, o, none⟩) n = (l.toList.drop o).take n := by simp only [strD, hF]
    rw [e] at hby ⊢
    exact bytes_run hT hb (fun j => by rw [cell_of_row w b j l ty fr hobj]; simp) ⟨by simpa using hle, hby⟩

/-- Structs of one-cell numbers and truth values: the same cell by cell. -/
theorem eqCells_run {P : Program} {w : World} {bl : List Nat} (d : Nat) (xs ys : List A1) : ∀ (fs : List Field) (ks : List (Option IntKind)) (o : Nat) (l m : List A1) (r : Bool), eqCells ks l m = some r → fs.length = ks.length →
    (∀ (i : Nat) (f : Field) (x : Option IntKind), fs[i]? = some f → ks[i]? = some x → f.name ≠ "_" ∧ f.offset = o + i ∧ P.underlying f.type = some (match x with | some k => .int k | none => .bool)) →
    (∀ j, l[j]? = xs[o + j]?) → (∀ j, m[j]? = ys[o + j]?) →
    (Op.eqFields (d + 1) (xs.map (A1.den bl)).toArray (ys.map (A1.den bl)).toArray fs).run P w = .ok r w
  | [], [], o, [], [], r, h, _, _, _, _ => by
    simp only [eqCells, Option.some.injEq] at h
    subst h
    rfl
  | f :: fs, k :: ks, o, l, m, r, h, hlen, hf, hl, hm => by
    obtain ⟨n1, n2, n3⟩ := hf 0 f k rfl rfl
    rw [Nat.add_zero] at n2
    have hpart : ∀ {zs : List A1} {x : A1}, zs[o]? = some x → (part f.type (zs.map (A1.den bl)).toArray f.offset).run P w = .ok (x.den bl) w := by
      intro zs x hx
      have ha : (isAgg f.type).run P w = .ok false w := run_isAgg_no w n3 (by cases k <;> rfl)
      have hg : (zs.map (A1.den bl)).toArray[o]? = some (x.den bl) := den_get hx
      simp only [part, Sem.run_bind, ha, Result.andThen_ok, Bool.false_eq_true, if_false, n2, hg, Sem.run_pure]
    have key : ∀ (x y : A1) (l' m' : List A1) (q r' : Bool), l = x :: l' → m = y :: m' → eqCells ks l' m' = some r' → (Op.equalIn (d + 1) f.type (x.den bl) (y.den bl)).run P w = .ok q w → r = (q && r') →
        (Op.eqFields (d + 1) (xs.map (A1.den bl)).toArray (ys.map (A1.den bl)).toArray (f :: fs)).run P w = .ok r w := by
      intro x y l' m' q r' el em hr' hq e
      have hx : xs[o]? = some x := by have := hl 0; rw [el] at this; simpa using this.symm
      have hy : ys[o]? = some y := by have := hm 0; rw [em] at this; simpa using this.symm
      have ih := eqCells_run (P := P) (w := w) (bl := bl) d xs ys fs ks (o + 1) l' m' r' hr' (by simpa using hlen) (fun i g z hg hz => by
          obtain ⟨a1, a2, a3⟩ := hf (i + 1) g z (by simpa using hg) (by simpa using hz)
          exact ⟨a1, by omega, a3⟩) (fun j => by have := hl (j + 1); rw [el] at this; rw [show o + 1 + j = o + (j + 1) from by omega, ← this]; simp)
        (fun j => by have := hm (j + 1); rw [em] at this; rw [show o + 1 + j = o + (j + 1) from by omega, ← this]; simp)
      unfold Op.eqFields
      simp only [if_pos n1, Sem.run_bind, hpart hx, hpart hy, hq, Result.andThen_ok]
      cases q with
      | true => simp only [Bool.not_true, Bool.false_eq_true, if_false, ih, e, Bool.true_and]
      | false => simp only [Bool.not_false, if_true, e, Bool.false_and, Sem.run_pure]
    cases k with
    | some k =>
      match l, m, h, key with
      | .v (.int k1 a) :: l', .v (.int k2 b) :: m', h2, key =>
        simp only [eqCells] at h2
        split at h2
        · rename_i hk
          obtain ⟨rfl, rfl⟩ := hk
          cases hr : eqCells ks l' m' with
          | none => rw [hr] at h2; cases h2
          | some r' =>
            rw [hr] at h2
            simp only [Option.map_some, Option.some.injEq] at h2
            exact key _ _ _ _ _ r' rfl rfl hr (run_equalIn_int w d f.type _ _ a b n3) h2.symm
        · cases h2
    | none =>
      match l, m, h, key with
      | .v (.bool a) :: l', .v (.bool b) :: m', h2, key =>
        simp only [eqCells] at h2
        cases hr : eqCells ks l' m' with
        | none => rw [hr] at h2; cases h2
        | some r' =>
          rw [hr] at h2
          simp only [Option.map_some, Option.some.injEq] at h2
          exact key _ _ _ _ _ r' rfl rfl hr (run_equalIn_bool' w d f.type a b n3) h2.symm
  | [], _ :: _, _, _, _, _, _, hlen, _, _, _ => by simp at hlen
  | _ :: _, [], _, _, _, _, _, hlen, _, _, _ => by simp at hlen
  | [], [], _, _ :: _, _, _, h, _, _, _, _ => by simp [eqCells] at h
  | [], [], _, [], _ :: _, _, h, _, _, _, _ => by simp [eqCells] at h
theorem eqStruct_run {P : Program} {T : Tab} (hT : T.Ok P) {w : World} {bl : List Nat} {t : TypeId} {l m : List A1} {r : Bool} (h : eqFlat (T.flat t) l m = some r) (op : BinOp) (x y : Operand) {v : AV} (hv : binE op r = some v) :
    ((eqGuard op t x y (.agg (l.map (A1.den bl)).toArray) (.agg (m.map (A1.den bl)).toArray)).run P w = .ok () w ∧ (binOp op t (.agg (l.map (A1.den bl)).toArray) (.agg (m.map (A1.den bl)).toArray)).run P w = .ok (v.den bl) w) ∧ ∀ n, v.ok n := by
  cases hk : T.flat t with
  | none => rw [hk] at h; cases h
  | some ks =>
    rw [hk] at h
    obtain ⟨fs, f1, f2, f3, f4, f5⟩ := hT.flat _ _ hk
    have hfo : P.fieldsOf t = fs := by simp [Program.fieldsOf, f1]
    have he : (Op.equalIn 10000 t (.agg (l.map (A1.den bl)).toArray) (.agg (m.map (A1.den bl)).toArray)).run P w = .ok r w := by
      rw [run_equalIn_struct w 9999 t _ _ (by rw [hfo]; exact f1) f2, hfo]
      exact eqCells_run 9998 l m fs.toList ks 0 l m r h f4 (fun i f x hf hx => by simpa using f5 i f x hf hx) (fun j => by simp) (fun j => by simp)
    cases op <;> simp only [binE, Option.some.injEq, reduceCtorEq] at hv
    · subst hv
      exact ⟨⟨run_eqGuard_agg w _ t x y _ _ f3, by rw [run_eql_struct, he]; rfl⟩, fun _ => trivial⟩
    · subst hv
      exact ⟨⟨run_eqGuard_agg w _ t x y _ _ f3, by rw [run_neq_struct, he]; rfl⟩, fun _ => trivial⟩

theorem bnd_run {P : Program} {w : World} {x : Value} {k : IntKind} {i : Int} {y : Nat} {c : BoundsCode} (hx : x = .int k i) (h0 : 0 ≤ i) (h1 : i ≤ y) : (Instr.sliceBound x y c).run P w = .ok i.toNat w := by
  subst hx
  simp [Instr.sliceBound, asIntOf, h0, h1]
theorem bnds_run {P : Program} {w : World} {ρ : Operand → Value} {s : St} {G : List (Nat × Bool)} (hv : ∀ (x : Operand) (v : AV), val s G x = some v → ρ x = v.den (bls s.own)) {lo hi : Option Operand} {n c : Nat} {l h : Int}
    (h1 : bndO 0 (lo.map (val s G)) = some l) (h2 : bndO n (hi.map (val s G)) = some h) (hs : sideS2 c (some l) (some h)) : (Instr.sliceBounds true n c (lo.map ρ) (hi.map ρ) none).run P w = .ok (l.toNat, h.toNat, c) w := by
  obtain ⟨g1, g2, g3⟩ := hs
  have isInt : ∀ {x : Operand} {v : Nat} {i : Int}, bndO v (some (val s G x)) = some i → ∃ k, ρ x = .int k i := by
    intro x v i hx
    unfold bndO at hx
    split at hx
    · cases ‹some (val s G x) = none›
    · rename_i k j e
      injection e with e
      injection hx with hx
      subst hx
      exact ⟨k, by rw [hv _ _ e]; rfl⟩
    · cases hx
  cases lo with
  | none =>
    simp only [Option.map_none, bndO, Option.some.injEq] at h1
    subst h1
    cases hi with
    | none =>
      simp only [Option.map_none, bndO, Option.some.injEq] at h2
      subst h2
      simp [Instr.sliceBounds]
    | some y =>
      obtain ⟨k, e⟩ := isInt h2
      simp only [Instr.sliceBounds, Option.map_none, Option.map_some, Sem.run_bind, Sem.run_pure, Result.andThen_ok, bnd_run e (by omega) g3, Int.toNat_natCast]
  | some x =>
    obtain ⟨k, e⟩ := isInt h1
    cases hi with
    | none =>
      simp only [Option.map_none, bndO, Option.some.injEq] at h2
      subst h2
      simp only [Instr.sliceBounds, Option.map_none, Option.map_some, Sem.run_bind, Sem.run_pure, Result.andThen_ok, bnd_run e g1 g2, Int.toNat_natCast]
    | some y =>
      obtain ⟨k', e'⟩ := isInt h2
      simp only [Instr.sliceBounds, Option.map_some, Sem.run_bind, Sem.run_pure, Result.andThen_ok, bnd_run e' (by omega) g3, bnd_run (y := h.toNat) e g1 (by omega)]

set_option maxRecDepth 4000 in
theorem evP_gen {P : Program} {T : Tab} (hT : T.Ok P) {s : St} {a : Act} {w : World} (hval : ∀ {G : List (Nat × Bool)}, holds s G → ∀ {x : Operand} {v : AV}, val s G x = some v → a.eval x = v.den (bls s.own) ∧ v.ok s.own.length) {G : List (Nat × Bool)} (hG : holds s G) {o : Oper} {v : AV}
    (hown : ∀ (r b : Nat) (k : AB), rdR s G o.op = some r → s.own[r]? = some (b, k) → (k ≠ .dead → w.heap[b]? = some (k.obj (bls s.own))) ∧ k.ok s.own.length)
    (hfz : ∀ (b : Nat) (ob : Obj), rdB s G o.op = some b → s.F b = some ob → w.heap[b]? = some ob)
    (hside : sideP T s G o.op) (hv : evP T s G o.op = some v) : (execOp a.eval o).run P w = .ok (.value (v.den (bls s.own))) w ∧ v.ok s.own.length := by
  unfold execOp
  cases hop : o.op with
  | move x =>
    rw [hop] at hv
    obtain ⟨h1, h2⟩ := hval hG hv
    simp only [h1]
    exact ⟨rfl, h2⟩
  | assign x =>
    rw [hop] at hv
    obtain ⟨h1, h2⟩ := hval hG hv
    simp only [h1]
    exact ⟨rfl, h2⟩
  | pick c x y =>
    rw [hop] at hv
    simp only [evP] at hv
    unfold pickO at hv
    split at hv
    · rename_i bc bx b_y hc hx hy
      injection hv with hv
      subst hv
      have e1 := (hval hG hc).1
      have ec : (AV.a (.v (.bool bc))).den (bls s.own) = .bool bc := rfl
      rw [ec] at e1
      simp only [e1, Sem.run_bind, asBool, Sem.run_pure, Result.andThen_ok]
      refine ⟨?_, trivial⟩
      cases bc with
      | true =>
        have := (hval (holds_gt hG hc) hx).1
        simp only [this, if_true, cond_true]
      | false =>
        have := (hval (holds_gt hG hc) hy).1
        simp only [this, Bool.false_eq_true, if_false, cond_false]
    · cases hv
  | unOp op t x =>
    rw [hop] at hv
    cases op <;> simp only [evP] at hv <;> try (cases hv; done)
    unfold notO at hv
    split at hv
    · rename_i b hx
      injection hv with hv
      subst hv
      have e1 := (hval hG hx).1
      have ec : (AV.a (.v (.bool b))).den (bls s.own) = .bool b := rfl
      rw [ec] at e1
      simp only [e1, Sem.run_bind, Op.unary, Sem.run_pure, Result.andThen_ok]
      exact ⟨rfl, trivial⟩
    · cases hv
  | binOp op t x y u =>
    rw [hop] at hv hside
    simp only [evP] at hv
    simp only [sideP] at hside
    unfold binO at hv
    split at hv
    · rename_i k1 x1 k2 x2 hx hy
      have e1 := (hval hG hx).1
      have e2 := (hval hG hy).1
      have ec1 : (AV.a (.v (.int k1 x1))).den (bls s.own) = .int k1 x1 := rfl
      have ec2 : (AV.a (.v (.int k2 x2))).den (bls s.own) = .int k2 x2 := rfl
      rw [ec1] at e1
      rw [ec2] at e2
      rw [hy] at hside
      split at hv
      · rename_i hk
        simp only [e1, e2]
        cases op <;> simp only [isShift, Bool.false_eq_true] at hk <;> simp only [binH, Option.map_some, Option.some.injEq] at hv <;>
          (subst hv; simp only [sideB] at hside; exact ⟨by simp [eqGuard, binOp, Op.shift, AV.den, A1.den, Int.not_lt.2 hside], trivial⟩)
      · split at hv
        · rename_i hk
          subst hk
          simp only [e1, e2]
          cases op <;> simp only [binI, Option.map_none, Option.map_some, Option.some.injEq, reduceCtorEq] at hv <;> simp only [sideB] at hside <;>
            (subst hv; exact ⟨by simp [eqGuard, binOp, Op.intArith, Op.intCmp, Op.intDiv, Op.intBits, AV.den, A1.den, hside], trivial⟩)
        · cases hv
    · rename_i x1 x2 hx hy
      have e1 := (hval hG hx).1
      have e2 := (hval hG hy).1
      have ec1 : (AV.a (.v (.string x1))).den (bls s.own) = .string x1 := rfl
      have ec2 : (AV.a (.v (.string x2))).den (bls s.own) = .string x2 := rfl
      rw [ec1] at e1
      rw [ec2] at e2
      simp only [e1, e2]
      cases op <;> simp only [binS, Option.map_none, Option.map_some, Option.some.injEq, reduceCtorEq] at hv <;>
        (subst hv; exact ⟨by simp [eqGuard, binOp, Op.stringOp, AV.den, A1.den], trivial⟩)
    · rename_i x1 x2 hx hy
      split at hv
      · rename_i ht
        have e1 := (hval hG hx).1
        have e2 := (hval hG hy).1
        have ec1 : (AV.a (.v (.bool x1))).den (bls s.own) = .bool x1 := rfl
        have ec2 : (AV.a (.v (.bool x2))).den (bls s.own) = .bool x2 := rfl
        rw [ec1] at e1
        rw [ec2] at e2
        simp only [e1, e2]
        have h3 := run_equal_bool w t x1 x2 (hT.boolT _ ht)
        cases op <;> simp only [binE, Option.some.injEq, reduceCtorEq] at hv <;>
          (subst hv; exact ⟨by simp [eqGuard, binOp, h3, AV.den, A1.den], trivial⟩)
      · cases hv
    · rename_i r i hx hy
      split at hv
      · rename_i ht
        have e1 := (hval hG hx).1
        have e2 := (hval hG hy).1
        have ec1 : (AV.a (.p r i)).den (bls s.own) = .pointer (some ⟨(bls s.own).getD r 0, i, none⟩) := rfl
        have ec2 : (AV.a (.v (.pointer none))).den (bls s.own) = .pointer none := rfl
        rw [ec1] at e1
        rw [ec2] at e2
        simp only [e1, e2]
        obtain ⟨e, he⟩ := hT.ptr _ ht
        generalize (bls s.own).getD r 0 = b0
        have h3 := run_equal_pointer_nil (P := P) w t (some ⟨b0, i, none⟩) (by simp [Program.pointee, he])
        cases op <;> simp only [binE, Option.some.injEq, reduceCtorEq] at hv <;>
          (subst hv; exact ⟨by simp [eqGuard, binOp, h3, AV.den, A1.den], trivial⟩)
      · cases hv
    · rename_i p hx hy
      split at hv
      · rename_i ht
        have e1 := (hval hG hx).1
        have e2 := (hval hG hy).1
        have ec1 : (AV.a (.v (.pointer p))).den (bls s.own) = .pointer p := rfl
        have ec2 : (AV.a (.v (.pointer none))).den (bls s.own) = .pointer none := rfl
        rw [ec1] at e1
        rw [ec2] at e2
        simp only [e1, e2]
        obtain ⟨e, he⟩ := hT.ptr _ ht
        have h3 := run_equal_pointer_nil (P := P) w t p (by simp [Program.pointee, he])
        cases op <;> simp only [binE, Option.some.injEq, reduceCtorEq] at hv <;>
          (subst hv; exact ⟨by simp [eqGuard, binOp, h3, AV.den, A1.den], trivial⟩)
      · cases hv
    · rename_i r i m cp hx hy
      split at hv
      · rename_i ht
        have e1 := (hval hG hx).1
        have e2 := (hval hG hy).1
        have ec1 : (AV.a (.s r i m cp)).den (bls s.own) = .slice (some ⟨(bls s.own).getD r 0, i, none⟩) m cp := rfl
        have ec2 : (AV.a (.v (.slice none 0 0))).den (bls s.own) = .slice none 0 0 := rfl
        rw [ec1] at e1
        rw [ec2] at e2
        simp only [e1, e2]
        obtain ⟨⟨e, sz⟩, hsl⟩ := Option.isSome_iff_exists.1 ht
        obtain ⟨ti, h1, _, _⟩ := hT.sl _ _ _ hsl
        generalize (bls s.own).getD r 0 = b0
        have h3 := run_equal_slice_nil (P := P) w t e (some ⟨b0, i, none⟩) m cp h1
        cases op <;> simp only [binE, Option.some.injEq, reduceCtorEq] at hv <;>
          (subst hv; exact ⟨by simp [eqGuard, binOp, h3, AV.den, A1.den], trivial⟩)
      · cases hv
    · rename_i p m cp hx hy
      split at hv
      · rename_i ht
        have e1 := (hval hG hx).1
        have e2 := (hval hG hy).1
        have ec1 : (AV.a (.v (.slice p m cp))).den (bls s.own) = .slice p m cp := rfl
        have ec2 : (AV.a (.v (.slice none 0 0))).den (bls s.own) = .slice none 0 0 := rfl
        rw [ec1] at e1
        rw [ec2] at e2
        simp only [e1, e2]
        obtain ⟨⟨e, sz⟩, hsl⟩ := Option.isSome_iff_exists.1 ht
        obtain ⟨ti, h1, _, _⟩ := hT.sl _ _ _ hsl
        have h3 := run_equal_slice_nil (P := P) w t e p m cp h1
        cases op <;> simp only [binE, Option.some.injEq, reduceCtorEq] at hv <;>
          (subst hv; exact ⟨by simp [eqGuard, binOp, h3, AV.den, A1.den], trivial⟩)
      · cases hv
    · rename_i l m hx hy
      have e1 := (hval hG hx).1
      have e2 := (hval hG hy).1
      simp only [AV.den] at e1 e2
      simp only [e1, e2]
      cases hr : eqFlat (T.flat t) l m with
      | none => rw [hr] at hv; cases hv
      | some r =>
        rw [hr] at hv
        simp only [Option.bind_some] at hv
        obtain ⟨⟨g1, g2⟩, g3⟩ := eqStruct_run (P := P) (w := w) (bl := bls s.own) hT hr op x y hv
        exact ⟨by simp only [Sem.run_bind, g1, Result.andThen_ok, g2, Sem.run_pure], g3 _⟩
    · cases hv
  | fieldAddr t x f =>
    rw [hop] at hv
    simp only [evP] at hv
    unfold fldO at hv
    split at hv
    · rename_i o' r i ho hx
      injection hv with hv
      subst hv
      obtain ⟨fs, fl, ti, h1, h2, h3, h4, h5⟩ := hT.fld _ _ _ ho
      obtain ⟨e1, e2⟩ := hval hG hx
      simp only [e1, Sem.run_bind]
      have : (AV.a (.p r i)).den (bls s.own) = .pointer (some ⟨(bls s.own).getD r 0, i, none⟩) := rfl
      rw [this, run_fieldAt w h1 h2 h4 h5, add_off, h3]
      exact ⟨rfl, e2⟩
    · rename_i o' b i ho hx
      injection hv with hv
      subst hv
      obtain ⟨fs, fl, ti, h1, h2, h3, h4, h5⟩ := hT.fld _ _ _ ho
      obtain ⟨e1, e2⟩ := hval hG hx
      simp only [e1, Sem.run_bind]
      have : (AV.a (.v (.pointer (some ⟨b, i, none⟩)))).den (bls s.own) = .pointer (some ⟨b, i, none⟩) := rfl
      rw [this, run_fieldAt w h1 h2 h4 h5, h3, add_off]
      exact ⟨rfl, trivial⟩
    · cases hv
  | field t x f =>
    rw [hop] at hv
    simp only [evP] at hv
    unfold partO at hv
    split at hv
    · rename_i o' l ho hx
      obtain ⟨fs, fl, d, h1, h2, h3, h4, h5⟩ := hT.part1 _ _ _ ho
      obtain ⟨e1, e2⟩ := hval hG hx
      cases hl : l[o']? with
      | none => rw [hl] at hv; cases hv
      | some y =>
        rw [hl] at hv
        simp only [Option.map_some, Option.some.injEq] at hv
        subst hv
        simp only [e1, Sem.run_bind, Instr.field, run_underlying' w h1, Result.andThen_ok, h2, AV.den, asAgg, Sem.run_pure, part, run_isAgg_no w h4 h5, h3]
        have hg : (List.map (A1.den (bls s.own)) l).toArray[o']? = some (y.den (bls s.own)) := den_get hl
        simp only [Bool.false_eq_true, if_false, hg, Sem.run_pure, Result.andThen_ok]
        exact ⟨trivial, e2 y (List.mem_of_getElem? hl)⟩
    · rename_i o' m l ho hx
      obtain ⟨fs, fl, d, ti, h1, h2, h3, h4, h5, h6, h7⟩ := hT.partn _ _ _ _ ho
      obtain ⟨e1, e2⟩ := hval hG hx
      split at hv
      · rename_i hle
        injection hv with hv
        subst hv
        simp only [e1, Sem.run_bind, Instr.field, run_underlying' w h1, Result.andThen_ok, h2, AV.den, asAgg, Sem.run_pure, part, run_isAgg_yes w h4 h5, h3, if_true, run_sizeOf' w h6, h7]
        refine ⟨?_, fun y hy => e2 y (List.mem_of_mem_drop (List.mem_of_mem_take hy))⟩
        congr 3
        apply Array.ext'
        simp [List.map_take, List.map_drop, List.extract_eq_take_drop]
      · cases hv
    · cases hv
  | load t x =>
    rw [hop] at hv hside hown hfz
    simp only [evP] at hv
    simp only [sideP] at hside
    simp only [rdR] at hown
    simp only [rdB] at hfz
    unfold loadO at hv
    split at hv
    · rename_i r i hx
      rw [hx] at hside hown hfz
      simp only [sideL] at hside
      simp only [rdr, Option.some.injEq] at hown
      obtain ⟨e1, e2⟩ := hval hG hx
      unfold blkO at hv
      split at hv
      · rename_i b ty l hr
        have hb : (bls s.own).getD r 0 = b := bls_get hr
        obtain ⟨hobj, hwf⟩ := hown _ _ _ rfl hr
        have hobj := hobj (by simp)
        have hcell : ∀ j, w.cell? ⟨b, j, none⟩ = (l[j]?).map (A1.den (bls s.own)) := fun j => by
          rw [cell_of_row w b j _ ty (0, 0) hobj]
          simp
        simp only [e1, Sem.run_bind]
        have : (AV.a (.p r i)).den (bls s.own) = .pointer (some ⟨(bls s.own).getD r 0, i, none⟩) := rfl
        rw [this, hb]
        cases hz : T.sz t with
        | none => rw [hz] at hv; cases hv
        | some z =>
          cases z with
          | none =>
            rw [hz] at hv
            simp only [cellsO] at hv
            obtain ⟨d, ti, h1, h2, _, _⟩ := hT.sz1 _ hz
            cases hl : l[i]? with
            | none => rw [hl] at hv; cases hv
            | some y =>
              rw [hl] at hv
              simp only [Option.map_some, Option.some.injEq] at hv
              subst hv
              have hc : w.cell? ⟨b, i, none⟩ = some (y.den (bls s.own)) := by rw [hcell, hl]; rfl
              rw [run_loadVar1 w h1 h2 hc]
              exact ⟨rfl, hwf y (List.mem_of_getElem? hl)⟩
          | some m =>
            rw [hz] at hv
            simp only [cellsO] at hv
            obtain ⟨d, ti, h1, h2, h3, h4⟩ := hT.szn _ _ hz
            split at hv
            · rename_i hle
              injection hv with hv
              subst hv
              have hlen : (((l.drop i).take m).map (A1.den (bls s.own))).length = ti.size := by
                rw [h4]; simp; omega
              rw [run_loadVarN w h1 h2 h3 hlen (fun j v hj => ?_)]
              · refine ⟨rfl, fun y hy => hwf y (List.mem_of_mem_drop (List.mem_of_mem_take hy))⟩
              · rw [add_off, hcell]
                rw [List.getElem?_map, List.getElem?_take] at hj
                split at hj
                · rw [List.getElem?_drop] at hj
                  exact hj
                · cases hj
            · cases hv
      · rename_i b ty l fr hr
        have hb : (bls s.own).getD r 0 = b := bls_get hr
        rw [hr] at hside
        simp only [sideK] at hside
        have hobj := (hown _ _ _ rfl hr).1 (by simp)
        have hc : ∀ j, w.cell? ⟨b, j, none⟩ = l[j]? := fun j => by
          rw [cell_of_row w b j l.toArray ty fr hobj]
          simp
        simp only [e1, Sem.run_bind]
        have : (AV.a (.p r i)).den (bls s.own) = .pointer (some ⟨(bls s.own).getD r 0, i, none⟩) := rfl
        rw [this, hb]
        obtain ⟨g1, g2⟩ := rowO_run hT (bls s.own) s.own.length hc hv hside
        rw [g1]
        exact ⟨rfl, g2⟩
      · cases hv
    · rename_i b i hx
      rw [hx] at hside hown hfz
      simp only [sideL] at hside
      simp only [rdb, Option.some.injEq] at hfz
      obtain ⟨e1, e2⟩ := hval hG hx
      unfold frzO at hv
      split at hv
      · rename_i l ty fr hF
        rw [hF] at hside
        simp only [sideF] at hside
        have hobj := hfz _ _ rfl hF
        have hc : ∀ j, w.cell? ⟨b, j, none⟩ = l.toList[j]? := fun j => by
          rw [cell_of_row w b j l ty fr hobj]
          simp
        simp only [e1, Sem.run_bind]
        have : (AV.a (.v (.pointer (some ⟨b, i, none⟩)))).den (bls s.own) = .pointer (some ⟨b, i, none⟩) := rfl
        rw [this]
        obtain ⟨g1, g2⟩ := rowO_run hT (bls s.own) s.own.length hc hv (by simpa using hside)
        rw [g1]
        exact ⟨rfl, g2⟩
      · cases hv
    · cases hv
  | indexAddr t x ix =>
    rw [hop] at hv hside
    simp only [evP] at hv
    simp only [sideP] at hside
    unfold idxA at hv
    split at hv
    · rename_i k i hi
      have ei := (hval hG hi).1
      have eci : (AV.a (.v (.int k i))).den (bls s.own) = .int k i := rfl
      rw [eci] at ei
      rw [hi] at hside
      simp only [ei]
      unfold idxO at hv
      split at hv
      · rename_i e z r o' m cp hsl hx
        injection hv with hv
        subst hv
        rw [hx] at hside
        simp only [sideI] at hside
        obtain ⟨ti, h1, h2, h3⟩ := hT.sl _ _ _ hsl
        obtain ⟨e1, e2⟩ := hval hG hx
        have : (AV.a (.s r o' m cp)).den (bls s.own) = .slice (some ⟨(bls s.own).getD r 0, o', none⟩) m cp := rfl
        rw [this] at e1
        refine ⟨?_, e2⟩
        simp [e1, Instr.indexAt, asIntOf, run_underlying' w h1, hside, run_sizeOf' w h2, h3, add_off, AV.den, A1.den]
      · rename_i e z b o' m cp hsl hx
        injection hv with hv
        subst hv
        rw [hx] at hside
        simp only [sideI] at hside
        obtain ⟨ti, h1, h2, h3⟩ := hT.sl _ _ _ hsl
        obtain ⟨e1, e2⟩ := hval hG hx
        have : (AV.a (.v (.slice (some ⟨b, o', none⟩) m cp))).den (bls s.own) = .slice (some ⟨b, o', none⟩) m cp := rfl
        rw [this] at e1
        refine ⟨?_, trivial⟩
        simp [e1, Instr.indexAt, asIntOf, run_underlying' w h1, hside, run_sizeOf' w h2, h3, add_off, AV.den, A1.den]
      · rename_i m z r o' harr hx
        injection hv with hv
        subst hv
        rw [hx, harr] at hside
        simp only [sideI] at hside
        obtain ⟨e, ti, h1, h2, h3⟩ := hT.arr _ _ _ harr
        obtain ⟨e1, e2⟩ := hval hG hx
        have : (AV.a (.p r o')).den (bls s.own) = .pointer (some ⟨(bls s.own).getD r 0, o', none⟩) := rfl
        rw [this] at e1
        refine ⟨?_, e2⟩
        simp [e1, Instr.indexAt, Instr.sureAddr, asIntOf, run_underlying' w h1, hside, run_sizeOf' w h2, h3, add_off, AV.den, A1.den]
      · cases hv
    · cases hv
  | index t x ix =>
    rw [hop] at hv hside
    simp only [evP] at hv
    simp only [sideP] at hside
    unfold sixO at hv
    split at hv
    · rename_i str k i hx hi
      split at hv
      · rename_i hs
        injection hv with hv
        subst hv
        have e1 := (hval hG hx).1
        have ei := (hval hG hi).1
        have ec1 : (AV.a (.v (.string str))).den (bls s.own) = .string str := rfl
        have eci : (AV.a (.v (.int k i))).den (bls s.own) = .int k i := rfl
        rw [ec1] at e1
        rw [eci] at ei
        rw [hx, hi] at hside
        simp only [sideI] at hside
        have hlt : i.toNat < str.size := by omega
        have hlt' : i.toNat < str.data.size := hlt
        refine ⟨?_, trivial⟩
        have hget : str[i.toNat]? = some str[i.toNat] := by simp [hlt]
        have hx2 : str.data.toList.getD i.toNat 0 = str[i.toNat] := by
          rw [List.getD, Array.getElem?_toList, Array.getElem?_eq_getElem hlt']
          rfl
        rw [hx2]
        simp [e1, ei, Instr.index, asIntOf, run_underlying' w (hT.str _ hs), hside.1, hget, AV.den, A1.den]
      · cases hv
    · cases hv
  | slice t x lo hi mx =>
    rw [hop] at hv hside
    cases mx with
    | some y => simp only [evP] at hv; cases hv
    | none =>
      simp only [evP] at hv
      simp only [sideP] at hside
      have hvl : ∀ (x : Operand) (v : AV), val s G x = some v → a.eval x = v.den (bls s.own) := fun x v hx => (hval hG hx).1
      unfold slcO at hv
      split at hv
      · rename_i r o' m c hx
        split at hv
        · rename_i e z l h hsl hl hh
          injection hv with hv
          subst hv
          rw [hx] at hside
          simp only [sideS, hl, hh] at hside
          obtain ⟨ti, h1, h2, h3⟩ := hT.sl _ _ _ hsl
          obtain ⟨e1, e2⟩ := hval hG hx
          have : (AV.a (.s r o' m c)).den (bls s.own) = .slice (some ⟨(bls s.own).getD r 0, o', none⟩) m c := rfl
          rw [this] at e1
          refine ⟨?_, e2⟩
          have hb := bnds_run (P := P) (w := w) hvl hl hh hside
          simp only [e1, Instr.sliceAt, Instr.slice, Sem.run_bind, run_underlying' w h1, Result.andThen_ok, Option.map_none, hb, run_sizeOf' w h2, h3, Sem.run_pure, AV.den, A1.den]
          split <;> simp [add_off]
        · cases hv
      · rename_i m c hx
        split at hv
        · rename_i z l h hsl hl hh
          injection hv with hv
          subst hv
          rw [hx] at hside
          simp only [sideS, hl, hh] at hside
          obtain ⟨ti, h1, h2, h3⟩ := hT.sl _ _ _ hsl
          obtain ⟨e1, e2⟩ := hval hG hx
          have : (AV.a (.v (.slice none m c))).den (bls s.own) = .slice none m c := rfl
          rw [this] at e1
          refine ⟨?_, trivial⟩
          have hb := bnds_run (P := P) (w := w) hvl hl hh hside
          simp only [e1, Instr.sliceAt, Instr.slice, Sem.run_bind, run_underlying' w h1, Result.andThen_ok, Option.map_none, hb, run_sizeOf' w h2, h3, Sem.run_pure, AV.den, A1.den]
          split <;> simp
        · cases hv
      · rename_i b o' m c hx
        split at hv
        · rename_i e z l h hsl hl hh
          injection hv with hv
          subst hv
          rw [hx] at hside
          simp only [sideS, hl, hh] at hside
          obtain ⟨ti, h1, h2, h3⟩ := hT.sl _ _ _ hsl
          obtain ⟨e1, e2⟩ := hval hG hx
          have : (AV.a (.v (.slice (some ⟨b, o', none⟩) m c))).den (bls s.own) = .slice (some ⟨b, o', none⟩) m c := rfl
          rw [this] at e1
          refine ⟨?_, trivial⟩
          have hb := bnds_run (P := P) (w := w) hvl hl hh hside
          simp only [e1, Instr.sliceAt, Instr.slice, Sem.run_bind, run_underlying' w h1, Result.andThen_ok, Option.map_none, hb, run_sizeOf' w h2, h3, Sem.run_pure, AV.den, A1.den]
          split <;> simp [add_off]
        · cases hv
      · cases hv
  | nilCheck x =>
    rw [hop] at hv
    simp only [evP] at hv
    unfold nilO at hv
    split at hv
    · rename_i r i hx
      injection hv with hv
      subst hv
      obtain ⟨e1, e2⟩ := hval hG hx
      have : (AV.a (.p r i)).den (bls s.own) = .pointer (some ⟨(bls s.own).getD r 0, i, none⟩) := rfl
      rw [this] at e1
      simp only [e1]
      exact ⟨rfl, e2⟩
    · rename_i ad hx
      injection hv with hv
      subst hv
      obtain ⟨e1, e2⟩ := hval hG hx
      have : (AV.a (.v (.pointer (some ad)))).den (bls s.own) = .pointer (some ad) := rfl
      rw [this] at e1
      simp only [e1]
      exact ⟨rfl, e2⟩
    · cases hv
  | extract x i =>
    rw [hop] at hv
    simp only [evP] at hv
    unfold extO at hv
    split at hv
    · rename_i l hx
      obtain ⟨e1, e2⟩ := hval hG hx
      cases hl : l[i]? with
      | none => rw [hl] at hv; cases hv
      | some y =>
        rw [hl] at hv
        simp only [Option.map_some, Option.some.injEq] at hv
        subst hv
        have hg : (l.map (P2.den (bls s.own))).toArray[i]? = some (y.den (bls s.own)) := by simp [hl]
        simp only [e1, Sem.run_bind, AV.den, Instr.extract, hg, Sem.run_pure, Result.andThen_ok]
        have hy := e2 y (List.mem_of_getElem? hl)
        cases y with
        | a y => exact ⟨rfl, hy⟩
        | g y => exact ⟨rfl, hy⟩
    · cases hv
  | convert t u x =>
    rw [hop] at hv hside hown hfz
    simp only [evP] at hv
    simp only [sideP] at hside
    simp only [rdR] at hown
    simp only [rdB] at hfz
    unfold cvO at hv
    split at hv
    · rename_i hbs
      unfold strO at hv
      split at hv
      · rename_i r i m c hx
        rw [hx] at hside hown
        simp only [sideC] at hside
        simp only [rdr, Option.some.injEq] at hown
        obtain ⟨e1, e2⟩ := hval hG hx
        unfold rawOf at hv hside
        split at hv
        · rename_i b ty l fr hr
          rw [hr] at hside
          simp only [sideR] at hside
          simp only [Option.map_some, Option.some.injEq] at hv
          subst hv
          have hobj := (hown _ _ _ rfl hr).1 (by simp)
          have hb : (bls s.own).getD r 0 = b := bls_get hr
          have hc : ∀ j, w.cell? ⟨b, j, none⟩ = l[j]? := fun j => by
            rw [cell_of_row w b j l.toArray ty fr hobj]
            simp
          have : (AV.a (.s r i m c)).den (bls s.own) = .slice (some ⟨(bls s.own).getD r 0, i, none⟩) m c := rfl
          rw [this, hb] at e1
          refine ⟨?_, trivial⟩
          simp only [e1, Sem.run_bind, bytes_run hT hbs hc hside, Result.andThen_ok, Sem.run_pure, AV.den, A1.den]
        · cases hv
      · rename_i p m c hx
        injection hv with hv
        subst hv
        rw [hx] at hside hfz
        simp only [sideC] at hside
        obtain ⟨e1, e2⟩ := hval hG hx
        have : (AV.a (.v (.slice p m c))).den (bls s.own) = .slice p m c := rfl
        rw [this] at e1
        refine ⟨?_, trivial⟩
        have hr := strD_run (c := c) hT hbs hside.1 hside.2 (fun a ha ob hob => hfz a.block ob (by subst ha; rfl) hob)
        simp only [e1, Sem.run_bind, hr, Result.andThen_ok, Sem.run_pure, AV.den, A1.den]
      · cases hv
    · unfold convO at hv
      split at hv
      · rename_i k k' m hk hx
        injection hv with hv
        subst hv
        obtain ⟨d, h1, h2⟩ := hT.conv _ _ _ hk
        obtain ⟨e1, e2⟩ := hval hG hx
        have : (AV.a (.v (.int k' m))).den (bls s.own) = .int k' m := rfl
        rw [this] at e1
        simp only [e1, Sem.run_bind, convert, run_underlying' w h1, run_underlying' w h2, Result.andThen_ok, Conv.intToInt, Sem.run_pure]
        exact ⟨rfl, trivial⟩
      · cases hv
  | call c =>
    rw [hop] at hv
    obtain ⟨callee, cargs, ctypes⟩ := c
    simp only [evP] at hv
    unfold callO at hv
    split at hv
    · split at hv
      · rename_i x t ha ht
        have ha' : cargs = #[x] := by cases cargs; simp at ha; subst ha; rfl
        have ht' : ctypes = #[t] := by cases ctypes; simp at ht; subst ht; rfl
        subst ha' ht'
        unfold lenO at hv
        split at hv
        · rename_i r i m cap hx
          split at hv
          · rename_i hs
            injection hv with hv
            subst hv
            obtain ⟨⟨e, sz⟩, hsl⟩ := Option.isSome_iff_exists.1 hs
            obtain ⟨ti, h1, _, _⟩ := hT.sl _ _ _ hsl
            obtain ⟨e1, e2⟩ := hval hG hx
            have : (AV.a (.s r i m cap)).den (bls s.own) = .slice (some ⟨(bls s.own).getD r 0, i, none⟩) m cap := rfl
            rw [this] at e1
            refine ⟨?_, trivial⟩
            simp [resolve, invoke, builtin, Builtin.len_, e1, run_underlying' w h1, AV.den, A1.den, goInt]
          · cases hv
        · rename_i ad m cap hx
          split at hv
          · rename_i hs
            injection hv with hv
            subst hv
            obtain ⟨⟨e, sz⟩, hsl⟩ := Option.isSome_iff_exists.1 hs
            obtain ⟨ti, h1, _, _⟩ := hT.sl _ _ _ hsl
            obtain ⟨e1, e2⟩ := hval hG hx
            have : (AV.a (.v (.slice ad m cap))).den (bls s.own) = .slice ad m cap := rfl
            rw [this] at e1
            refine ⟨?_, trivial⟩
            simp [resolve, invoke, builtin, Builtin.len_, e1, run_underlying' w h1, AV.den, A1.den, goInt]
          · cases hv
        · rename_i str hx
          split at hv
          · rename_i hs
            injection hv with hv
            subst hv
            have h1 := hT.str _ hs
            obtain ⟨e1, e2⟩ := hval hG hx
            have : (AV.a (.v (.string str))).den (bls s.own) = .string str := rfl
            rw [this] at e1
            refine ⟨?_, trivial⟩
            simp [resolve, invoke, builtin, Builtin.len_, e1, run_underlying' w h1, AV.den, A1.den, goInt]
          · cases hv
        · cases hv
      · cases hv
    · split at hv
      · rename_i x y ha
        have ha' : cargs = #[x, y] := by cases cargs; simp at ha; subst ha; rfl
        subst ha'
        unfold mxO at hv
        split at hv
        · rename_i k x1 k' x2 hx hy
          injection hv with hv
          subst hv
          have e1 := (hval hG hx).1
          have e2 := (hval hG hy).1
          have ec1 : (AV.a (.v (.int k x1))).den (bls s.own) = .int k x1 := rfl
          have ec2 : (AV.a (.v (.int k' x2))).den (bls s.own) = .int k' x2 := rfl
          rw [ec1] at e1
          rw [ec2] at e2
          refine ⟨?_, trivial⟩
          simp [resolve, invoke, builtin, Builtin.max_, Builtin.max2, e1, e2, AV.den, A1.den, mxI]
        · cases hv
      · cases hv
    · split at hv
      · rename_i x y ha
        have ha' : cargs = #[x, y] := by cases cargs; simp at ha; subst ha; rfl
        subst ha'
        unfold mxO at hv
        split at hv
        · rename_i k x1 k' x2 hx hy
          injection hv with hv
          subst hv
          have e1 := (hval hG hx).1
          have e2 := (hval hG hy).1
          have ec1 : (AV.a (.v (.int k x1))).den (bls s.own) = .int k x1 := rfl
          have ec2 : (AV.a (.v (.int k' x2))).den (bls s.own) = .int k' x2 := rfl
          rw [ec1] at e1
          rw [ec2] at e2
          refine ⟨?_, trivial⟩
          simp [resolve, invoke, builtin, Builtin.min_, Builtin.min2, e1, e2, AV.den, A1.den, mnI]
        · cases hv
      · cases hv
    · cases hv
  | _ => rw [hop] at hv; simp only [evP] at hv; cases hv


theorem evP_ok {P : Program} {T : Tab} (hT : T.Ok P) {n : Nat} {w0 : World} {D : Dm} {s : St} {a : Act} {w : World} (h : Rel n w0 D s a w) {G : List (Nat × Bool)} (hG : holds s G) {o : Oper} {v : AV}
    (hside : sideP T s G o.op) (hv : evP T s G o.op = some v) : (execOp a.eval o).run P w = .ok (.value (v.den (bls s.own))) w ∧ v.ok s.own.length :=
  evP_gen hT (fun hG' _ _ hx => h.val hG' hx) hG (fun _ _ _ _ hr => ⟨h.mem.blk _ _ _ hr, h.mem.wf _ _ _ hr⟩) (fun _ _ _ hF => h.mem.fz _ _ hF) hside hv

def heldR (s : St) (Lo : List (Nat × (Nat × Obj))) : Option Nat → Prop
  | some r => match look Lo r, s.own[r]? with
    | some (b, o), some (b', k) => b' = b ∧ k.obj (bls s.own) = o
    | _, _ => False
  | none => True
def heldB (s : St) (F0 : Frozen) : Option Nat → Prop
  | some b => F0 b = s.F b
  | none => True
/-- What an operation reads is held. -/
def heldO (s : St) (G : List (Nat × Bool)) (Lo : List (Nat × (Nat × Obj))) (F0 : Frozen) (op : Op) : Prop := heldR s Lo (rdR s G op) ∧ heldB s F0 (rdB s G op)
theorem look_mem' {α : Type} {t : Nat} {x : α} : ∀ {l : List (Nat × α)}, look l t = some x → (t, x) ∈ l
  | [], h => by cases h
  | (k, v) :: l, h => by
    simp only [look] at h
    split at h
    · rename_i e
      subst e
      injection h with h
      subst h
      exact List.mem_cons_self ..
    · exact List.mem_cons_of_mem _ (look_mem' h)
theorem evP_hold {P : Program} {T : Tab} (hT : T.Ok P) {s : St} {G : List (Nat × Bool)} (hG : holds s G) {o : Oper} {v : AV} {Lo : List (Nat × (Nat × Obj))} {F0 : Frozen} (hside : sideP T s G o.op) (hv : evP T s G o.op = some v) (hh : heldO s G Lo F0 o.op) : OpHold P o s Lo F0 v := by
  intro n w0 D a w h
  refine ⟨(evP_ok hT h hG hside hv).2, fun w' hw' => (evP_gen hT (fun hG' _ _ hx => h.val hG' hx) hG ?_ ?_ hside hv).1⟩
  · intro r b k hr hk
    refine ⟨fun _ => ?_, h.mem.wf _ _ _ hk⟩
    have h1 := hh.1
    rw [hr] at h1
    simp only [heldR] at h1
    cases hl : look Lo r with
    | none => rw [hl] at h1; exact h1.elim
    | some y =>
      obtain ⟨b0, o0⟩ := y
      rw [hl, hk] at h1
      obtain ⟨rfl, h2⟩ := h1
      have h3 := hw'.1 _ (look_mem' hl)
      dsimp only at h3
      rw [← h2] at h3
      exact h3
  · intro b ob hr hb
    have h1 := hh.2
    rw [hr] at h1
    simp only [heldB] at h1
    exact hw'.2 _ _ (h1.trans hb)

end Go.VC
