/- The abstract machine: the operations that make memory or write it. -/
import Derived.Test.YtpobbfhdkbnpmaaDoorLve
set_option linter.unusedVariables false
set_option linter.unusedSimpArgs false
namespace Go.Proofs.YtpobbfhdkbnpmaaDoor.Lv
open Go Go.RowKit

def up (h : Hp) (b : Nat) (x : Blk) : Hp := match h with
  | [] => []
  | (b', y) :: r => if b = b' then (b', x) :: r else (b', y) :: up r b x
/-- Has it a type's cells? -/
def chk (h : Hp) (ag : Bool) (sz : Nat) (d : D) : Bool := match cellsOf ag d with
  | some cs => cs.length == sz && cs.all (one h)
  | none => false
mutual
/-- Does it lead to no block of the call's own? -/
def cl : D → Bool
  | .sl .. | .ad .. | .el .. | .vs .. => false
  | .agg cs | .fn _ cs | .tup cs => cls cs
  | _ => true
def cls : List D → Bool
  | [] => true
  | d :: ds => cl d && cls ds
end
/-- A part of a whole written. -/
def wr (ag' : Bool) (sz : Nat) (d : D) (off : Nat) (ag : Bool) (n : Nat) (v : D) : Option D :=
  if ag && ag' && off == 0 && n == sz then some v else
    (cellsOf ag' d).bind fun cs => (cellsOf ag v).bind fun vs => if off + n ≤ cs.length then
      (if ag' then some (.agg (cs.take off ++ vs ++ cs.drop (off + n))) else vs.head?) else none
def srcOf (h : Hp) : D → Option (Nat × (Nat → D) × Option (Bool × Nat))
  | .nils => some (0, fun _ => .unk, none)
  | .ro ag sz n f => some (n, f, some (ag, sz))
  | .sl b ver off n => match lookB h b with
    | some (.row _ ver' ag sz _ f) => if ver = ver' then some (n, fun i => f (off + i), some (ag, sz)) else none
    | _ => none
  | .str s => some (s.length, fun i => .int .u8 ((s.getD i 0).toNat : Int), some (false, 1))
  | _ => none

/-- The operations that make memory or write it: what must hold, that K holds behind. -/
def ef (E : Ctx) (s : St) (op : Op) (K : D → St → Prop) : Prop := match op with
  | .box t x => (E.tt t).k ≠ .bad ∧ chk s.h (E.tt t).ag (E.tt t).sz (ev E s x) = true ∧ K (.ad s.nx 0) ⟨s.e, (s.nx, .var (E.tt t).ag (E.tt t).sz (ev E s x)) :: s.h, s.nx + 1⟩
  | .alloc t => (E.tt t).hz = true ∧ chk s.h (E.tt t).ag (E.tt t).sz (E.tt t).zero = true ∧ K (.ad s.nx 0) ⟨s.e, (s.nx, .var (E.tt t).ag (E.tt t).sz (E.tt t).zero) :: s.h, s.nx + 1⟩
  | .store t a x => (E.tt t).k ≠ .bad ∧ chk s.h (E.tt t).ag (E.tt t).sz (ev E s x) = true ∧ match ev E s a with
    | .ad b off => match lookB s.h b with
      | some (.var ag sz d) => ∃ d', wr ag sz d off (E.tt t).ag (E.tt t).sz (ev E s x) = some d' ∧ K (.tup []) ⟨s.e, up s.h b (.var ag sz d'), s.nx⟩
      | _ => False
    | .el b ver i fo => match lookB s.h b with
      | some (.row false ver' ag sz n f) => ver = ver' ∧ cl (ev E s x) = true ∧ ∃ d', wr ag sz (f i) fo (E.tt t).ag (E.tt t).sz (ev E s x) = some d' ∧
          K (.tup []) ⟨s.e, up s.h b (.row false ver ag sz n fun j => if j = i then d' else f j), s.nx⟩
      | _ => False
    | _ => False
  | .makeSlice t l c => match (E.tt t).k, ev E s l, ev E s c with
    | .slc e, .int _ n, .int _ n' => (E.tt e).hz = true ∧ (E.tt e).k ≠ .bad ∧ chk [] (E.tt e).ag (E.tt e).sz (E.tt e).zero = true ∧ (E.tt e).sz ≠ 0 ∧ n = n' ∧ 0 ≤ n ∧ n ≤ 9223372036854775807 ∧ n * (E.tt e).bytes ≤ 281474976710656 ∧
        K (.sl s.nx 0 0 n.toNat) ⟨s.e, (s.nx, .row false 0 (E.tt e).ag (E.tt e).sz n.toNat fun _ => (E.tt e).zero) :: s.h, s.nx + 1⟩
    | _, _, _ => False
  | .buildSlice t n ⟨ps⟩ => match (E.tt t).k with
    | .slc e => (E.tt e).k ≠ .bad ∧ (E.tt e).hz = true ∧ chk [] (E.tt e).ag (E.tt e).sz (E.tt e).zero = true ∧ (E.tt e).sz ≠ 0 ∧ n * (E.tt e).sz ≤ 16777216 ∧ ps.map (·.1) = List.range n ∧ (ps.all fun p => chk s.h (E.tt e).ag (E.tt e).sz (ev E s p.2) && cl (ev E s p.2)) = true ∧
        K (.sl s.nx 0 0 n) ⟨s.e, (s.nx, .row false 0 (E.tt e).ag (E.tt e).sz n fun i => (ps.map fun p => ev E s p.2).getD i .unk) :: s.h, s.nx + 1⟩
    | _ => False
  | .call { callee := .builtin .append, args := ⟨[x, y]⟩, argTypes := ⟨[t, u]⟩ } => match (E.tt t).k, (E.tt u).k, srcOf s.h (ev E s y) with
    | .slc e, uk, some (m, g, k) => (uk = .slc e ∨ uk = .string) ∧ (E.tt e).k ≠ .bad ∧ (E.tt e).hz = true ∧ chk [] (E.tt e).ag (E.tt e).sz (E.tt e).zero = true ∧ (E.tt e).sz ≠ 0 ∧ (k = none ∨ k = some ((E.tt e).ag, (E.tt e).sz)) ∧ match ev E s x with
      | .nils => m ≤ 9223372036854775807 ∧ m * (E.tt e).bytes ≤ 140737488355328 ∧ K (.sl s.nx 0 0 m) ⟨s.e, (s.nx, .row false 0 (E.tt e).ag (E.tt e).sz m g) :: s.h, s.nx + 1⟩
      | .sl b ver 0 n => match lookB s.h b with
        | some (.row false ver' ag sz _ f) => ver = ver' ∧ ag = (E.tt e).ag ∧ sz = (E.tt e).sz ∧ n + m ≤ 9223372036854775807 ∧ (n + m) * (E.tt e).bytes ≤ 140737488355328 ∧
            K (.sl b (ver + 1) 0 (n + m)) ⟨s.e, up s.h b (.row false (ver + 1) ag sz (n + m) fun j => if j < n then f j else g (j - n)), s.nx⟩
        | _ => False
      | _ => False
    | _, _, _ => False
  | .convert src t x => match (E.tt src).k, (E.tt t).k, ev E s x with
    | .string, .slc e, .str l => (E.tt e).k = .int .u8 ∧ l.length ≤ 140737488355328 ∧ K (.sl s.nx 0 0 l.length) ⟨s.e, (s.nx, .row false 0 false 1 l.length fun i => .int .u8 ((l.getD i 0).toNat : Int)) :: s.h, s.nx + 1⟩
    | _, _, _ => False
  | .binOp .eql t x y _ => match (E.tt t).k, ev E s x, ev E s y with
    | .slc _, .nils, .nils => K (.bool true) s
    | .slc _, .ro _ _ n _, .nils => ∀ b : Bool, (b = true → n = 0) → K (.bool b) s
    | _, _, _ => False
  | _ => False

end Go.Proofs.YtpobbfhdkbnpmaaDoor.Lv
