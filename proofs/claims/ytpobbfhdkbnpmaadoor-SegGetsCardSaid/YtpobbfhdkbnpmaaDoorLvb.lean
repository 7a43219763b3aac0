/- The abstract machine: what the operations that only reckon or read come to, and that the model's come to the same. -/
import Derived.Test.YtpobbfhdkbnpmaaDoorLva
set_option linter.unusedVariables false
set_option linter.unusedSimpArgs false
namespace Go.Proofs.YtpobbfhdkbnpmaaDoor.Lv
open Go Go.RowKit

inductive TK where
  | int (k : IntKind) | bool | string | slc (e : Nat) | arr (n e : Nat) | strct (fs : List (Nat × Nat)) | ptr (e : Nat) | map (k v : Nat) | fn | oth | bad
  deriving DecidableEq

structure TI where
  ag : Bool
  sz : Nat
  bytes : Nat
  k : TK
  hz : Bool
  zero : D
  /-- May two of them be compared, field by field? -/
  eqo : Bool

mutual
def ofVal : Value → D
  | .int k n => .int k n
  | .bool b => .bool b
  | .string s => .str s.data.toList
  | .pointer none => .nilp
  | .slice none n c => if n = 0 ∧ c = 0 then .nils else .unk
  | .map none => .nilm
  | .nilFunc => .nilf
  | .agg ⟨cs⟩ => .agg (ofVals cs)
  | _ => .unk
def ofVals : List Value → List D
  | [] => []
  | v :: vs => ofVal v :: ofVals vs
end

def tkOf : TypeDesc → TK
  | .int k => .int k
  | .bool => .bool
  | .string => .string
  | .slice e => .slc e
  | .array n e => .arr n e
  | .struct fs => .strct (fs.toList.map fun f => (f.offset, f.type))
  | .pointer e => .ptr e
  | .map k v => .map k v
  | .func .. => .fn
  | _ => .oth
def agOf : TypeDesc → Bool
  | .struct _ | .array _ _ => true
  | _ => false
def eqOk (P : Program) (t : Nat) (d : TypeDesc) : Bool := !(P.stoodInHeld t) && !(P.eqGuardType P.depth t) && match d with
  | .struct fs => fs.toList.all fun f => !(f.name == "_")
  | _ => true
def tiOf (P : Program) (t : Nat) : TI :=
  match P.info? t, P.underlying t with
  | some i, some d => ⟨agOf d, i.size, i.bytes, tkOf d, i.zero.isSome, (i.zero.map ofVal).getD .unk, agOf d && eqOk P t d⟩
  | _, _ => ⟨false, 0, 0, .bad, false, .unk, false⟩

/-- What is known of the program: its types, and what its variables hold. -/
structure Ctx where
  P : Program
  tt : Nat → TI
  gv : Nat → D
  htt : ∀ t, tt t = tiOf P t
  mixed : P.follows .mixedOrders = true
  /-- May a call of this function be given blocks? -/
  give : Nat → Bool

def ev (E : Ctx) (s : St) : Operand → D
  | .tmp t => s.e t
  | .const v => ofVal v
  | .global g => E.gv g
  | .func f => .fn f []

def asAgg : D → Option (List D)
  | .agg cs => some cs
  | _ => none
def cellsOf (ag : Bool) (d : D) : Option (List D) := if ag then asAgg d else some [d]
def part (ag : Bool) (off n : Nat) (cs : List D) : Option D :=
  if off + n ≤ cs.length then some (if ag then .agg ((cs.drop off).take n) else cs.getD off .unk) else none
def rd (ag : Bool) (n : Nat) (ag' : Bool) (sz : Nat) (d : D) (off : Nat) : Option D :=
  if ag && ag' && off == 0 && n == sz then some d else if ag || n == 1 then (cellsOf ag' d).bind (part ag off n) else none
/-- A load. -/
def ldd (h : Hp) (ag : Bool) (n : Nat) : D → Option D
  | .ad b off => match lookB h b with
    | some (.var ag' sz d) => rd ag n ag' sz d off
    | _ => none
  | .el b ver i fo => match lookB h b with
    | some (.row _ ver' ag' sz _ f) => if ver = ver' then rd ag n ag' sz (f i) fo else none
    | _ => none
  | .ra ag' sz d fo => rd ag n ag' sz d fo
  | _ => none
/-- Is it the row's newest state? -/
def cur (h : Hp) (b ver : Nat) : Bool := match lookB h b with
  | some (.row _ v _ _ _ _) => v == ver
  | _ => false
def grd (c : Prop) [Decidable c] (d : D) : Option D := if c then some d else none
/-- Bits. -/
def bits (k : IntKind) (op : BinOp) (a b : Int) : Int :=
  let x := BitVec.ofInt k.bits a
  let y := BitVec.ofInt k.bits b
  k.wrap (match op with | .and => x &&& y | .or => x ||| y | .xor => x ^^^ y | _ => x &&& ~~~y).toNat
def bin (k : TK) (op : BinOp) : D → D → Option D
  | .int k a, .int k' b => match op with
    | .shr => grd (0 ≤ b) (.int k (a.fdiv (2 ^ (min b.toNat k.bits))))
    | .shl => grd (0 ≤ b) (.int k (k.wrap (a * 2 ^ (min b.toNat k.bits))))
    | op => if k = k' then match op with
      | .add => some (.int k (k.wrap (a + b)))
      | .sub => some (.int k (k.wrap (a - b)))
      | .mul => some (.int k (k.wrap (a * b)))
      | .quo => grd (b ≠ 0) (.int k (k.wrap (a.tdiv b)))
      | .rem => grd (b ≠ 0) (.int k (a.tmod b))
      | .and | .or | .xor | .andNot => some (.int k (bits k op a b))
      | .eql => some (.bool (a == b))
      | .neq => some (.bool (a != b))
      | .lss => some (.bool (decide (a < b)))
      | .leq => some (.bool (decide (a ≤ b)))
      | .gtr => some (.bool (decide (a > b)))
      | .geq => some (.bool (decide (a ≥ b)))
      | _ => none else none
  | .bool a, .bool b => match k, op with
    | .bool, .eql => some (.bool (a == b))
    | .bool, .neq => some (.bool (!(a == b)))
    | _, _ => none
  | .str a, .str b => match op with
    | .eql => some (.bool (a == b))
    | .neq => some (.bool (!(a == b)))
    | .add => grd (a.length + b.length ≤ 9223372036854775807) (.str (a ++ b))
    | _ => none
  | .nilp, .nilp => match k, op with
    | .ptr _, .eql => some (.bool true)
    | .ptr _, .neq => some (.bool false)
    | _, _ => none
  | .ad .., .nilp | .nilp, .ad .. => match k, op with
    | .ptr _, .eql => some (.bool false)
    | .ptr _, .neq => some (.bool true)
    | _, _ => none
  | _, _ => none
def un (op : UnOp) : D → Option D
  | .int k n => match op with
    | .neg => some (.int k (k.wrap (0 - n)))
    | .xor => some (.int k (bits k .xor (if k.signed then -1 else k.max) n))
    | _ => none
  | .bool b => match op with
    | .not => some (.bool !b)
    | _ => none
  | _ => none
def lenD (h : Hp) : TK → D → Option D
  | .slc _, .ro _ _ n _ => some (.int .i64 n)
  | .slc _, .sl b ver _ n => match lookB h b with
    | some (.row _ ver' _ _ _ _) => if ver = ver' then some (.int .i64 n) else none
    | _ => none
  | .slc _, .nils => some (.int .i64 0)
  | .slc _, .vs _ _ _ n => some (.int .i64 n)
  | .string, .str s => some (.int .i64 s.length)
  | .arr n _, _ => some (.int .i64 n)
  | _, _ => none
/-- A slice's bounds: '(from, to)', 'n' being as far as it may go. -/
def bds (n : Nat) : Option D → Option D → Option (Int × Int)
  | none, none => some (0, n)
  | some (.int _ l), none => some (l, n)
  | none, some (.int _ h) => some (0, h)
  | some (.int _ l), some (.int _ h) => some (l, h)
  | _, _ => none
def cutD (x : D) (lo hi : Option D) : Option D := match x with
  | .str s => (bds s.length lo hi).bind fun p => grd (0 ≤ p.1 ∧ p.1 ≤ p.2 ∧ p.2 ≤ s.length) (.str ((s.take p.2.toNat).drop p.1.toNat))
  | .ro ag sz n f => (bds n lo hi).bind fun p => grd (0 ≤ p.1 ∧ p.1 ≤ p.2 ∧ p.2 ≤ n) (.ro ag sz (p.2.toNat - p.1.toNat) fun i => f (p.1.toNat + i))
  | .sl b ver off n => (bds n lo hi).bind fun p => grd (0 ≤ p.1 ∧ p.1 ≤ p.2 ∧ p.2 ≤ n) (.sl b ver (off + p.1.toNat) (p.2.toNat - p.1.toNat))
  | .nils => (bds 0 lo hi).bind fun p => grd (p.1 = 0 ∧ p.2 = 0) .nils
  | .vs b off esz n => (bds n lo hi).bind fun p => grd (0 ≤ p.1 ∧ p.1 ≤ p.2 ∧ p.2 ≤ n) (.vs b (off + p.1.toNat * esz) esz (p.2.toNat - p.1.toNat))
  | _ => none
def isU8 : D → Bool
  | .int .u8 _ => true
  | _ => false
def u8Of : D → UInt8
  | .int _ n => UInt8.ofNat n.toNat
  | _ => 0
def bstr (h : Hp) : D → Option D
  | .nils => some (.str [])
  | .ro _ _ n f => grd (∀ i, i < n → isU8 (f i) = true) (.str ((List.range n).map fun i => u8Of (f i)))
  | .sl b ver off n => match lookB h b with
    | some (.row _ ver' _ _ _ f) => if ver = ver' then grd (∀ i, i < n → isU8 (f (off + i)) = true) (.str ((List.range n).map fun i => u8Of (f (off + i)))) else none
    | _ => none
  | _ => none
def conv (E : Ctx) (h : Hp) (src t : Nat) (x : D) : Option D := if (E.tt src).k = .bad then none else match (E.tt t).k, x with
  | .int k, .int _ n => some (.int k (k.wrap n))
  | .string, .str s => some (.str s)
  | .string, x => match (E.tt src).k with
    | .slc e => match (E.tt e).k with
      | .int .u8 => bstr h x
      | _ => none
    | _ => none
  | _, _ => none
def mm (f : Int → Int → Int) : D → D → Option D
  | .int k a, .int _ b => some (.int k (f a b))
  | _, _ => none
/-- May it be one cell's value? -/
def one (h : Hp) : D → Bool
  | .agg _ | .tup _ | .unk => false
  | .sl b ver _ _ => cur h b ver
  | .el b ver _ _ => cur h b ver
  | _ => true
def fits (E : Ctx) (h : Hp) : List (Nat × D) → List (Nat × Nat) → Option (List (Nat × List D))
  | [], _ => some []
  | (i, d) :: r, ps => match ps[i]? with
    | none => none
    | some (off, t) => match cellsOf (E.tt t).ag d with
      | none => none
      | some cs => if cs.length = (E.tt t).sz ∧ ((E.tt t).ag || cs.all (one h)) = true then (fits E h r ps).map fun q => (off, cs) :: q else none
def over : List D → List (Nat × List D) → List D
  | cs, [] => cs
  | cs, (off, ds) :: r => over (cs.take off ++ ds ++ cs.drop (off + ds.length)) r

/-- Two values compared, part by part. -/
def eqL (tt : Nat → TI) (f : Nat → D → D → Option Bool) : List (Nat × Nat) → List D → List D → Option Bool
  | [], _, _ => some true
  | (off, t) :: r, xs, ys => if (tt t).sz ≠ 0 ∧ ((tt t).ag || (tt t).sz == 1) = true then (part (tt t).ag off (tt t).sz xs).bind fun a => (part (tt t).ag off (tt t).sz ys).bind fun b => (f t a b).bind fun p => (eqL tt f r xs ys).map fun q => p && q else none
def eqD (tt : Nat → TI) : Nat → Nat → D → D → Option Bool
  | 0, _, _, _ => none
  | d + 1, t, x, y => match (tt t).k, x, y with
    | .int _, .int k a, .int k' b => if k = k' then some (a == b) else none
    | .bool, .bool a, .bool b => some (a == b)
    | .string, .str a, .str b => some (a == b)
    | .strct fs, .agg xs, .agg ys => if (tt t).eqo = true then eqL tt (eqD tt d) fs xs ys else none
    | .arr n e, .agg xs, .agg ys => if (tt t).eqo = true ∧ (tt e).sz ≠ 0 then eqL tt (eqD tt d) ((List.range n).map fun i => (i * (tt e).sz, e)) xs ys else none
    | _, _, _ => none
def eqOr (E : Ctx) (op : BinOp) (t : Nat) : D → D → Option D
  | .agg xs, .agg ys => match op with
    | .eql => if (E.tt t).eqo = true then (eqD E.tt 4 t (.agg xs) (.agg ys)).map fun b => .bool b else none
    | .neq => if (E.tt t).eqo = true then (eqD E.tt 4 t (.agg xs) (.agg ys)).map fun b => .bool !b else none
    | _ => none
  | x, y => bin (E.tt t).k op x y

def nbad : TK → Bool
  | .bad => false
  | _ => true
/-- The operations that only reckon, or read. -/
def pv (E : Ctx) (s : St) : Op → Option D
  | .move x | .assign x => some (ev E s x)
  | .pick c a b => match ev E s c with
    | .bool x => some (if x then ev E s a else ev E s b)
    | _ => none
  | .load t a => match (E.tt t).k with
    | .bad => none
    | _ => ldd s.h (E.tt t).ag (E.tt t).sz (ev E s a)
  | .fieldAddr t a i => match (E.tt t).k with
    | .strct fs => match fs[i]? with
      | some (fo', ft) => if (E.tt ft).sz = 0 then none else match ev E s a with
        | .ad b off => some (.ad b (off + fo'))
        | .el b ver j fo => if cur s.h b ver then some (.el b ver j (fo + fo')) else none
        | .ra ag sz d fo => some (.ra ag sz d (fo + fo'))
        | _ => none
      | none => none
    | _ => none
  | .field t x i => match (E.tt t).k with
    | .strct fs => match fs[i]? with
      | some (fo, ft) => if (E.tt ft).sz ≠ 0 ∧ ((E.tt ft).ag || (E.tt ft).sz == 1) = true then (asAgg (ev E s x)).bind (part (E.tt ft).ag fo (E.tt ft).sz) else none
      | none => none
    | _ => none
  | .nilCheck x => match ev E s x with
    | .ad b o => some (.ad b o)
    | .el b v i o => if cur s.h b v then some (.el b v i o) else none
    | .ra a b c d => some (.ra a b c d)
    | _ => none
  | .binOp op t x y _ => eqOr E op t (ev E s x) (ev E s y)
  | .unOp op _ x => un op (ev E s x)
  | .convert src t x => conv E s.h src t (ev E s x)
  | .slice t x lo hi none => match (E.tt t).k with
    | .string => match ev E s x with
      | .str z => cutD (.str z) (lo.map (ev E s)) (hi.map (ev E s))
      | _ => none
    | .slc e => if (E.tt e).sz = 0 then none else match ev E s x with
      | .str z => none
      | x => match x with
        | .ro ag sz n f => if (E.tt e).sz = sz then cutD x (lo.map (ev E s)) (hi.map (ev E s)) else none
        | .sl b ver off n => match lookB s.h b with
          | some (.row _ ver' _ sz _ _) => if ver = ver' ∧ (E.tt e).sz = sz then cutD x (lo.map (ev E s)) (hi.map (ev E s)) else none
          | _ => none
        | .vs b off esz n => if (E.tt e).sz = esz then cutD x (lo.map (ev E s)) (hi.map (ev E s)) else none
        | x => cutD x (lo.map (ev E s)) (hi.map (ev E s))
    | .arr n e => match ev E s x, lo, hi with
      | .ad b off, none, none => if (E.tt e).sz = 0 then none else some (.vs b off (E.tt e).sz n)
      | _, _, _ => none
    | _ => none
  | .indexAddr t x i => match (E.tt t).k, ev E s x, ev E s i with
    | .slc e, .ro ag sz n f, .int _ i => if (E.tt e).sz = sz ∧ sz ≠ 0 then grd (0 ≤ i ∧ i < n) (.ra ag sz (f i.toNat) 0) else none
    | .slc e, .sl b ver off n, .int _ i => match lookB s.h b with
      | some (.row _ ver' _ sz _ _) => if ver = ver' ∧ (E.tt e).sz = sz ∧ sz ≠ 0 then grd (0 ≤ i ∧ i < n) (.el b ver (off + i.toNat) 0) else none
      | _ => none
    | .slc e, .vs b off esz n, .int _ i => if (E.tt e).sz = esz ∧ esz ≠ 0 then grd (0 ≤ i ∧ i < n) (.ad b (off + i.toNat * esz)) else none
    | .arr n e, .ad b off, .int _ i => if (E.tt e).sz = 0 then none else grd (0 ≤ i ∧ i < n) (.ad b (off + i.toNat * (E.tt e).sz))
    | .arr n e, .el b v j off, .int _ i => if (E.tt e).sz = 0 ∨ cur s.h b v = false then none else grd (0 ≤ i ∧ i < n) (.el b v j (off + i.toNat * (E.tt e).sz))
    | .arr n e, .ra ag sz d off, .int _ i => if (E.tt e).sz = 0 then none else grd (0 ≤ i ∧ i < n) (.ra ag sz d (off + i.toNat * (E.tt e).sz))
    | _, _, _ => none
  | .index t x i => match (E.tt t).k, ev E s x, ev E s i with
    | .arr n e, .agg cs, .int _ i => if (E.tt e).sz ≠ 0 ∧ ((E.tt e).ag || (E.tt e).sz == 1) = true then (part (E.tt e).ag (i.toNat * (E.tt e).sz) (E.tt e).sz cs).bind fun d => grd (0 ≤ i ∧ i < n) d else none
    | .string, .str z, .int _ i => grd (0 ≤ i ∧ i < z.length) (.int .u8 ((z.getD i.toNat 0).toNat : Int))
    | _, _, _ => none
  | .extract x i => match ev E s x with
    | .tup ds => ds[i]?
    | _ => none
  | .makeFunc (.func f) ⟨[]⟩ ⟨cap⟩ => some (.fn f (cap.map (ev E s)))
  | .build t ⟨ps⟩ => match (E.tt t).k, (E.tt t).zero with
    | .strct fs, .agg z => if (fs.all fun p => nbad (E.tt p.2).k) = false then none else (fits E s.h (ps.map fun p => (p.1, ev E s p.2)) fs).bind fun q => if q.all (fun x => decide (x.1 + x.2.length ≤ z.length)) then some (.agg (over z q)) else none
    | .arr n e, .agg z => if nbad (E.tt e).k = false then none else (fits E s.h (ps.map fun p => (p.1, ev E s p.2)) ((List.range n).map fun i => (i * (E.tt e).sz, e))).bind fun q => if q.all (fun x => decide (x.1 + x.2.length ≤ z.length)) then some (.agg (over z q)) else none
    | _, _ => none
  | .call { callee := .builtin .len, args := ⟨[x]⟩, argTypes := ⟨[t]⟩ } => lenD s.h (E.tt t).k (ev E s x)
  | .call { callee := .builtin .min, args := ⟨[x, y]⟩, .. } => mm min (ev E s x) (ev E s y)
  | .call { callee := .builtin .max, args := ⟨[x, y]⟩, .. } => mm max (ev E s x) (ev E s y)
  | _ => none

end Go.Proofs.YtpobbfhdkbnpmaaDoor.Lv
