/- The program's numbers: take. -/
import Derived.Test.YtmcinfbckdiaoaaGreatDoorPO
import Derived.Test.YtmcinfbckdiaoaaGreatDoorMb
import Derived.Test.YtmcinfbckdiaoaaGreatDoorNm
set_option linter.unusedVariables false
set_option linter.unusedSimpArgs false
set_option maxRecDepth 100000
set_option maxHeartbeats 4000000
namespace Go.Proofs.YtmcinfbckdiaoaaGreatDoor.Lv
open Go Go.RowKit
theorem bits_andM (a : Nat) (ha : a < 18446744073709551616) : bits .u64 .and (a : Int) 4294967295 = ((a % 4294967296 : Nat) : Int) := by
  have := bits_and a 4294967295 ha (by omega)
  rw [show (4294967295 : Nat) = 2 ^ 32 - 1 from rfl, Nat.and_two_pow_sub_one_eq_mod] at this
  exact this
/-- The limbs that are left when so often another number is taken away. -/
def tkW (W V g n : Nat) : List Nat := padL (if W < g * V then W + 4294967296 ^ n - g * V else W - g * V) n
theorem tk_eq {w m w1 : List Nat} {g neg : Nat} (h1 : w1.length = m.length + 1) (h2 : lows w1) (hn : neg ≤ 1) (h : val w1 + g * val m = val w + 4294967296 ^ (m.length + 1) * neg) : w1 = tkW (val w) (val m) g (m.length + 1) ∧ (neg = 1 ↔ val w < g * val m) := by
  have hlt := val_ltB h2
  rw [h1] at hlt
  have hp := pad_val h2
  rw [h1] at hp
  unfold tkW
  generalize 4294967296 ^ (m.length + 1) = B at *
  rcases (show neg = 0 ∨ neg = 1 by omega) with rfl | rfl
  · rw [Nat.mul_zero, Nat.add_zero] at h
    generalize g * val m = q at *
    refine ⟨?_, by omega⟩
    rw [if_neg (by omega), show val w - q = val w1 by omega]; exact hp
  · rw [Nat.mul_one] at h
    generalize g * val m = q at *
    refine ⟨?_, by omega⟩
    rw [if_pos (by omega), show val w + B - q = val w1 by omega]; exact hp
theorem take_fact {g x y c b : Nat} (hg : g < 4294967296) (hx : x < 4294967296) (hy : y < 4294967296) (hc : c < 4294967296) (hb : b ≤ 1) :
    IntKind.u64.wrap ((g : Int) * (y : Int)) = ((g * y : Nat) : Int) ∧ IntKind.u64.wrap ((c : Int) + ((g * y : Nat) : Int)) = ((c + g * y : Nat) : Int) ∧ bits .u64 .and ((c + g * y : Nat) : Int) 4294967295 = (((c + g * y) % 4294967296 : Nat) : Int) ∧
    IntKind.u32.wrap (IntKind.u64.wrap (IntKind.u64.wrap ((x : Int) - (b : Int)) - (((c + g * y) % 4294967296 : Nat) : Int))) = ((tkD g x y c b : Nat) : Int) ∧
    IntKind.u64.wrap (IntKind.u64.wrap ((x : Int) - (b : Int)) - (((c + g * y) % 4294967296 : Nat) : Int)) / 9223372036854775808 = ((tkB g x y c b : Nat) : Int) ∧
    ((c + g * y : Nat) : Int) / 4294967296 = (((c + g * y) / 4294967296 : Nat) : Int) := by
  obtain ⟨h1, h2, h3⟩ := mul_bound hc hg hy (by omega : 0 < 4294967296)
  rw [Nat.add_zero] at h2 h3
  rw [← Int.natCast_mul]
  unfold tkD tkB
  generalize g * y = p at *
  refine ⟨wrap_u64 (by omega), by rw [wrap_u64 (by omega)]; omega, bits_andM _ h3, ?_, ?_, by omega⟩
  · generalize hm : (c + p) % 4294967296 = m
    have : m < 4294967296 := by omega
    rw [wrap_u32', u64_wr, u64_wr]; omega
  · generalize hm : (c + p) % 4294967296 = m
    have : m < 4294967296 := by omega
    rw [u64_wr, u64_wr]; split <;> omega
theorem take_last {x c b : Nat} (hx : x < 4294967296) (hc : c < 4294967296) (hb : b ≤ 1) :
    IntKind.u32.wrap (IntKind.u64.wrap (IntKind.u64.wrap ((x : Int) - (b : Int)) - (c : Int))) = (((18446744073709551616 + x - b - c) % 4294967296 : Nat) : Int) ∧
    IntKind.u64.wrap (IntKind.u64.wrap ((x : Int) - (b : Int)) - (c : Int)) / 9223372036854775808 = (((if x < b + c then 1 else 0) : Nat) : Int) := by
  refine ⟨?_, ?_⟩
  · rw [wrap_u32', u64_wr, u64_wr]; omega
  · rw [u64_wr, u64_wr]; split <;> omega
theorem nat_take {p w q m : List Nat} {N g : Nat} (lw : w.length = m.length + 1) (hw : lows w) (hm : lows m) (hg : g < 4294967296) (hN : N = p.length + (m.length + 1) + q.length) (hb : N < 1073741824) (ver : Nat) :
    CG E 166 [.sl 0 ver p.length (m.length + 1), u32s m, .int .u64 g] [(0, .row false ver false 1 N (lR (p ++ w ++ q)))] (.bool (decide (val w < g * val m)))
      [(0, .row false ver false 1 N (lR (p ++ tkW (val w) (val m) g (m.length + 1) ++ q)))] := by
  refine CG_intro Tryz.func166 rfl (by kernel_rfl) rfl (by kernel_rfl) (by kernel_rfl) rfl ?_
  simp (maxSteps := 3000000) (disch := first | exact trivial | assumption | omega | exact rOk | exact rCl | exact rNo) only [go_sem, seval, u32s]
  refine AL.of (TkP g w m) (fun s => m.length - s.1) (fun s => [(0, .sl 0 ver p.length (m.length + 1)), (1, u32s m), (2, .int .u64 g), (7, .int .u64 s.2.1), (8, .int .u64 s.2.2.1), (11, u32s m), (12, .int .i64 m.length), (13, .int .i64 s.1)])
    (fun s => [(0, .row false ver false 1 N (lR (p ++ s.2.2.2 ++ q)))]) (0, 0, 0, w) (TkP.zero g lw hw) ?_ ?_ ?_ ?_
  · simp (maxSteps := 3000000) (disch := first | exact trivial | assumption | omega | exact rOk | exact rCl | exact rNo) only [go_sem, seval, u32s]
  · simp (maxSteps := 3000000) (disch := first | exact trivial | assumption | omega | exact rOk | exact rCl | exact rNo) only [go_sem, seval, u32s]
    try exact fun _ _ => trivial
  · intro x _; simp (maxSteps := 3000000) (disch := first | exact trivial | assumption | omega | exact rOk | exact rCl | exact rNo) only [go_sem, seval]
  rintro ⟨i, c, b, w'⟩ hP
  have hn := hP.next hg hm
  have hf := hP
  obtain ⟨h1, h2, h3, h4, h5, h6, h7⟩ := hP
  simp only at h1 h2 h3 h4 h5 h6 h7
  have gx := h5.getD i
  have hget : lR (p ++ w' ++ q) (p.length + i) = .int .u32 ((w'.getD i 0 : Nat) : Int) := by rw [lR, win_get (by omega)]
  have hset := fun (d j : Nat) => lR_set' (w := p ++ w' ++ q) (i := p.length + i) (d := d) (j := j) (by simp; omega)
  have hset2 := fun d : Nat => win_set (p := p) (w := w') (q := q) (i := i) (d := d) (by omega)
  simp only [hset2] at hset
  by_cases hi : i = m.length
  · subst hi
    obtain ⟨t1, t2, t3, t4⟩ := hf.fin lw
    obtain ⟨e1, e2⟩ := take_last gx h2 h3
    have hneg : (if w'.getD m.length 0 < b + c then 1 else 0) ≤ 1 := by split <;> omega
    obtain ⟨r1, r2⟩ := tk_eq (t2.trans lw) t3 hneg t4
    have hres : (((((if w'.getD m.length 0 < b + c then 1 else 0) : Nat) : Int)) == 1) = decide (val w < g * val m) := by
      by_cases h : val w < g * val m
      · rw [decide_eq_true h, r2.2 h]; rfl
      · rw [decide_eq_false h]
        have : (if w'.getD m.length 0 < b + c then 1 else 0) ≠ 1 := fun e => h (r2.1 e)
        rw [show (if w'.getD m.length 0 < b + c then 1 else 0) = 0 by omega]; rfl
    rw [← r1, ← hres]
    clear h6 h7 hf hn t4 r1 r2 hres t3
    simp (maxSteps := 3000000) (disch := first | exact trivial | assumption | omega | exact rOk | exact rCl | exact rNo) only [go_sem, seval, u32s, hget, e1, e2]
    exact fun j hj => Le.of_eq (hset _ j)
  · have hi' : i < m.length := by omega
    have hn' := hn hi'
    have gy := hm.getD i
    obtain ⟨a1, a2, a3, a4, a5, a6⟩ := take_fact hg gx gy h2 h3
    clear h6 h7 hf hn h5
    simp (maxSteps := 3000000) (disch := first | exact trivial | assumption | omega | exact rOk | exact rCl | exact rNo) only [go_sem, seval, u32s, hget, a1, a2, a3, a4, a5, a6]
    refine ⟨_, hn', by show m.length - (i + 1) < m.length - i; omega, ?_, ?_⟩
    · simp (maxSteps := 3000000) (disch := first | exact trivial | assumption | omega | exact rOk | exact rCl | exact rNo) only [go_sem, seval, u32s]
      try exact LeV_int (by omega)
    · simp (maxSteps := 3000000) (disch := first | exact trivial | assumption | omega | exact rOk | exact rCl | exact rNo) only [go_sem, seval, u32s]
      exact fun j hj => Le.of_eq (hset _ j)
end Go.Proofs.YtmcinfbckdiaoaaGreatDoor.Lv
