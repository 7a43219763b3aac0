/- Words of 32 binary digits. -/
import Derived.Test.YtpobbfhdkbnpmaaDoorE
set_option linter.unusedVariables false
set_option linter.unusedSimpArgs false
set_option maxRecDepth 100000
set_option maxHeartbeats 4000000
namespace Go.Proofs.YtpobbfhdkbnpmaaDoor.Lv
open Go Go.RowKit

theorem w_add (x y : W32) : IntKind.u32.wrap ((x.toNat : Int) + (y.toNat : Int)) = ((x + y).toNat : Int) := by
  rw [wrap_u32', BitVec.toNat_add]
  omega
theorem bits_nat (op : BinOp) (x y : W32) (z : W32) (h : (match op with | .and => x &&& y | .or => x ||| y | .xor => x ^^^ y | _ => x &&& ~~~y) = z) : bits .u32 op (x.toNat : Int) (y.toNat : Int) = (z.toNat : Int) := by
  subst h
  have e : ∀ v : W32, BitVec.ofInt IntKind.u32.bits (v.toNat : Int) = v := fun v => by
    show BitVec.ofInt 32 (v.toNat : Int) = v
    simp
  unfold bits
  simp only [e]
  rw [wrap_u32']
  have b : ∀ v : W32, (v.toNat : Int) % 4294967296 = v.toNat := fun v => by have := v.isLt; omega
  cases op <;> exact b _
theorem w_xor (x y : W32) : bits .u32 .xor (x.toNat : Int) (y.toNat : Int) = ((x ^^^ y).toNat : Int) := bits_nat _ x y _ rfl
theorem w_or (x y : W32) : bits .u32 .or (x.toNat : Int) (y.toNat : Int) = ((x ||| y).toNat : Int) := bits_nat _ x y _ rfl
theorem w_and (x y : W32) : bits .u32 .and (x.toNat : Int) (y.toNat : Int) = ((x &&& y).toNat : Int) := bits_nat _ x y _ rfl
theorem w_not (x : W32) : bits .u32 .xor 4294967295 (x.toNat : Int) = ((~~~x).toNat : Int) := by
  have := w_xor 4294967295#32 x
  rw [show (((4294967295#32 : W32).toNat : Nat) : Int) = 4294967295 from rfl] at this
  rw [this, BitVec.xor_comm, show (4294967295#32 : W32) = BitVec.allOnes 32 from rfl, BitVec.xor_allOnes]
theorem w_all : (if IntKind.u32.signed = true then (-1 : Int) else IntKind.u32.max) = 4294967295 := by decide
theorem w_shl (x : W32) (s : Nat) : IntKind.u32.wrap ((x.toNat : Int) * 2 ^ s) = ((x <<< s).toNat : Int) := by
  rw [wrap_u32', BitVec.toNat_shiftLeft, Nat.shiftLeft_eq]
  simp
theorem w_shr (x : W32) (s : Nat) : (x.toNat : Int) / (2 : Int) ^ s = ((x >>> s).toNat : Int) := by
  rw [BitVec.toNat_ushiftRight, Nat.shiftRight_eq_div_pow]
  simp
theorem w_shr3 (x : W32) : (x.toNat : Int) / (8 : Int) = ((x >>> 3).toNat : Int) := w_shr x 3
theorem w_shr8 (x : W32) : (x.toNat : Int) / (256 : Int) = ((x >>> 8).toNat : Int) := w_shr x 8
theorem w_shr10 (x : W32) : (x.toNat : Int) / (1024 : Int) = ((x >>> 10).toNat : Int) := w_shr x 10
theorem w_shr16 (x : W32) : (x.toNat : Int) / (65536 : Int) = ((x >>> 16).toNat : Int) := w_shr x 16
theorem w_shr24 (x : W32) : (x.toNat : Int) / (16777216 : Int) = ((x >>> 24).toNat : Int) := w_shr x 24
theorem w_shl24 (x : W32) : IntKind.u32.wrap ((x.toNat : Int) * 16777216) = ((x <<< 24).toNat : Int) := w_shl x 24
theorem w_shl16 (x : W32) : IntKind.u32.wrap ((x.toNat : Int) * 65536) = ((x <<< 16).toNat : Int) := w_shl x 16
theorem w_shl8 (x : W32) : IntKind.u32.wrap ((x.toNat : Int) * 256) = ((x <<< 8).toNat : Int) := w_shl x 8
/-- A byte as a word. -/
def wB (c : UInt8) : W32 := BitVec.ofNat 32 c.toNat
theorem w_byte (c : UInt8) : IntKind.u32.wrap (c.toNat : Int) = ((wB c).toNat : Int) := by
  rw [wrap_u32']
  have := c.toNat_lt
  simp [wB]
  omega
/-- A word's lowest byte. -/
def bW (x : W32) : UInt8 := UInt8.ofNat x.toNat
theorem b_word (x : W32) : IntKind.u8.wrap (x.toNat : Int) = ((bW x).toNat : Int) := by
  rw [wrap_u8']
  simp [bW]
theorem wD_eq (x : W32) : wD x = .int .u32 (x.toNat : Int) := Eq.trans rfl rfl
section
variable (l : List W32)
theorem wl_imps (ρ : Nat → Option Nat) (H : Hp) : imps ρ H (l.map wD) = l.map wD := by
  induction l with
  | nil => rfl
  | cons x l ih => simp only [List.map_cons, imps, ih]; rfl
theorem wl_exDs (r : Nat → Nat) : exDs r (l.map wD) = l.map wD := by
  induction l with
  | nil => rfl
  | cons x l ih => simp only [List.map_cons, exDs, ih]; rfl
theorem wl_cls : cls (l.map wD) = true := by
  induction l with
  | nil => rfl
  | cons x l ih => simp only [List.map_cons, cls, ih]; rfl
theorem wl_flats : flats (l.map wD) = true := by
  induction l with
  | nil => rfl
  | cons x l ih => simp only [List.map_cons, flats, ih]; rfl
theorem wl_refss (ρ : Nat → Option Nat) : refss ρ (l.map wD) = [] := by
  induction l with
  | nil => rfl
  | cons x l ih => simp only [List.map_cons, refss, ih]; rfl
theorem wl_all (h : Hp) : (l.map wD).all (one h) = true := by
  induction l with
  | nil => rfl
  | cons x l ih => simp only [List.map_cons, List.all_cons, ih]; rfl
theorem wl_getD {i : Nat} (h : i < l.length) : (l.map wD).getD i .unk = .int .u32 ((l.getD i 0).toNat : Int) := by
  rw [List.getD_eq_getElem?_getD, List.getElem?_map, List.getElem?_eq_getElem h, List.getD_eq_getElem?_getD, List.getElem?_eq_getElem h]
  rfl
theorem wl_set {i : Nat} (h : i < l.length) (x : W32) : (l.map wD).take i ++ [.int .u32 (x.toNat : Int)] ++ (l.map wD).drop (i + 1) = (l.set i x).map wD := by
  rw [← List.map_take, ← List.map_drop, List.set_eq_take_append_cons_drop, if_pos h]
  simp [wD]
end
/-- Turned to the right. -/
def rr (n : Nat) (x : W32) : W32 := x <<< (32 - n) ||| x >>> n
theorem bits_Rotate (x : W32) (n : Nat) (k : Int) (hk : bits .u64 .and (IntKind.u64.wrap k) 31 = ((32 - n : Nat) : Int)) (h0 : 0 < n) (hn : n < 32) :
    C E 57 [.int .u32 (x.toNat : Int), .int .i64 k] (.int .u32 ((rr n x).toNat : Int)) := by
  refine CG_intro Tryd.func57 rfl (by kernel_rfl) rfl (by kernel_rfl) (by kernel_rfl) rfl ?_
  obtain ⟨s, hs⟩ : ∃ s, s = 32 - n := ⟨_, rfl⟩
  rw [← hs] at hk
  simp (maxSteps := 3000000) (disch := first | exact trivial | assumption | omega | exact RegOk.mk (by decide +kernel) | exact RegCl.mk (by decide +kernel) | exact RegNo.mk (by kernel_rfl)) only [go_sem, seval, hk]
  have e1 : ((2 ^ s : Nat) : Int) = 2 ^ s := by simp
  have e2 : ((32 : Int) - s).toNat = n := by omega
  have e3 : ((2 ^ n : Nat) : Int) = 2 ^ n := by simp
  rw [e1, e2, e3, w_shl, Int.fdiv_eq_ediv_of_nonneg _ (Int.pow_nonneg (by omega)), w_shr, w_or]
  refine LeV.of_eq ?_
  rw [rr, ← hs]
attribute [go_sem] wl_imps wl_exDs wl_cls wl_flats wl_refss wl_all wl_getD wl_set w_add w_xor w_or w_and w_not w_all w_shr3 w_shr8 w_shr10 w_shr16 w_shr24 w_shl24 w_shl16 w_shl8 w_byte b_word wD_eq
end Go.Proofs.YtpobbfhdkbnpmaaDoor.Lv
