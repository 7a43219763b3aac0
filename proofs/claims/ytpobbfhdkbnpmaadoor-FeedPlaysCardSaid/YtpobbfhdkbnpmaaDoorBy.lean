/- Rows of bytes; single bits. -/
import Derived.Test.YtpobbfhdkbnpmaaDoorE
import Derived.Test.YtpobbfhdkbnpmaaDoorLvu
set_option linter.unusedVariables false
set_option linter.unusedSimpArgs false
set_option maxRecDepth 100000
set_option maxHeartbeats 4000000
namespace Go.Proofs.YtpobbfhdkbnpmaaDoor.Lv
open Go Go.RowKit

/-- A row of bytes. -/
def bR (l : List UInt8) : Nat → D := fun i => .int .u8 ((l.getD i 0).toNat : Int)
theorem bR_app (l xs : List UInt8) {i : Nat} (h : i < (l ++ xs).length) : (if i < l.length then bR l i else (xs.map fun c => D.int .u8 (c.toNat : Int)).getD (i - l.length) .unk) = bR (l ++ xs) i := by
  unfold bR
  by_cases hi : i < l.length
  · rw [if_pos hi]
    congr 2
    rw [List.getD_eq_getElem?_getD, List.getD_eq_getElem?_getD, List.getElem?_append_left hi]
  · rw [if_neg hi]
    rw [List.length_append] at h
    rw [List.getD_eq_getElem?_getD, List.getD_eq_getElem?_getD, List.getElem?_append_right (by omega), List.getElem?_map, List.getElem?_eq_getElem (by omega)]
    rfl
/-- A row of bytes, told as a string. -/
theorem bstr_bR {h : Hp} {b ver n : Nat} {z z' : Bool} {k m : Nat} {l : List UInt8} (e : lookB h b = some (.row z ver z' k m (bR l))) (hn : n = l.length) : bstr h (.sl b ver 0 n) = some (.str l) := by
  subst hn
  simp only [bstr, e, if_true, Nat.zero_add]
  have : ∀ i, i < l.length → isU8 (bR l i) = true := fun i _ => rfl
  rw [grd, if_pos this]
  congr 2
  refine List.ext_getElem (by simp) fun i h1 h2 => ?_
  simp only [List.getElem_map, List.getElem_range, bR, u8Of, List.getD_eq_getElem?_getD, List.getElem?_eq_getElem h2, Option.getD_some, Int.toNat_natCast, UInt8.ofNat_toNat]
/-- So it is where only what is read is told. -/
theorem bstr_of {h : Hp} {b ver n : Nat} {z z' : Bool} {k m : Nat} {f : Nat → D} {l : List UInt8} (e : lookB h b = some (.row z ver z' k m f)) (hn : n = l.length) (hf : ∀ i, i < n → f i = bR l i) : bstr h (.sl b ver 0 n) = some (.str l) := by
  subst hn
  simp only [bstr, e, if_true, Nat.zero_add]
  have : ∀ i, i < l.length → isU8 (f i) = true := fun i hi => by rw [hf i hi]; rfl
  rw [grd, if_pos this]
  congr 2
  refine List.ext_getElem (by simp) fun i h1 h2 => ?_
  simp only [List.getElem_map, List.getElem_range, hf i h2, bR, u8Of, List.getD_eq_getElem?_getD, List.getElem?_eq_getElem h2, Option.getD_some, Int.toNat_natCast, UInt8.ofNat_toNat]
theorem bits_or (a b : Nat) (ha : a < 18446744073709551616) (hb : b < 18446744073709551616) : bits .u64 .or (a : Int) (b : Int) = ((a ||| b : Nat) : Int) := by
  have e : ∀ v : Nat, v < 18446744073709551616 → (BitVec.ofInt IntKind.u64.bits (v : Int)).toNat = v := fun v hv => by
    show (BitVec.ofInt 64 (v : Int)).toNat = v
    simp; omega
  have hlt : a ||| b < 18446744073709551616 := Nat.or_lt_two_pow (n := 64) ha hb
  unfold bits
  simp only [BitVec.toNat_or, e a ha, e b hb]
  rw [wrap_u64 (by omega)]
theorem or_add (i a b : Nat) (h : b < 2 ^ i) : b ||| 2 ^ i * a = b + 2 ^ i * a := by
  rw [Nat.or_comm, ← Nat.two_pow_add_eq_or_of_lt h, Nat.add_comm]
theorem bits_and (a b : Nat) (ha : a < 18446744073709551616) (hb : b < 18446744073709551616) : bits .u64 .and (a : Int) (b : Int) = ((a &&& b : Nat) : Int) := by
  have e : ∀ v : Nat, v < 18446744073709551616 → (BitVec.ofInt IntKind.u64.bits (v : Int)).toNat = v := fun v hv => by
    show (BitVec.ofInt 64 (v : Int)).toNat = v
    simp; omega
  have hlt : a &&& b < 18446744073709551616 := Nat.and_lt_two_pow (n := 64) _ hb
  unfold bits
  simp only [BitVec.toNat_and, e a ha, e b hb]
  rw [wrap_u64 (by omega)]
theorem bits_and127 (a : Nat) (ha : a < 18446744073709551616) : bits .u64 .and (a : Int) 127 = ((a % 128 : Nat) : Int) := by
  have := bits_and a 127 ha (by omega)
  rw [show (127 : Nat) = 2 ^ 7 - 1 from rfl, Nat.and_two_pow_sub_one_eq_mod] at this
  exact this
theorem u8_lit {n : Nat} (h : n < 256) : ((n : Nat) : Int) = ((UInt8.ofNat n).toNat : Int) := by
  rw [UInt8.toNat_ofNat', Nat.mod_eq_of_lt (by omega)]
end Go.Proofs.YtpobbfhdkbnpmaaDoor.Lv
