/- The program's numbers: Clone, Low. The program's numbers: short. The program's numbers: Sub. -/
import Derived.Test.YtmcinfbckdiaoaaGreatDoorPH
import Derived.Test.YtmcinfbckdiaoaaGreatDoorPE
set_option linter.unusedVariables false
set_option linter.unusedSimpArgs false
set_option maxRecDepth 100000
set_option maxHeartbeats 4000000
namespace Go.Proofs.YtmcinfbckdiaoaaGreatDoor.Lv
open Go Go.RowKit

theorem clone_u32 {l : List Nat} (h0 : l ≠ []) (hn : l.length < 1073741824) : CG E 137 [u32s l] [] (.sl 0 1 0 l.length) [(0, .row false 1 false 1 l.length (lR l))] := by
  refine CG_intro Tryz.func137 rfl (by kernel_rfl) rfl (by kernel_rfl) (by kernel_rfl) rfl ?_
  have hp := List.length_pos_iff.2 h0
  simp (maxSteps := 3000000) (disch := first | exact trivial | assumption | omega | exact rOk | exact rCl | exact rNo) only [go_sem, seval, u32s]
  intro b hb
  obtain rfl : b = false := by
    cases b with
    | false => rfl
    | true => have := hb rfl; omega
  rw [KE_eq]
  simp (maxSteps := 3000000) (disch := first | exact trivial | assumption | omega | exact rOk | exact rCl | exact rNo) only [go_sem, seval, u32s]
  refine ⟨.inl trivial, .inr trivial, by omega, by omega, ?_⟩
  exact fun i hi => Le.refl _
theorem nat_Low {n : Nat} (hn : nb n < 1073741824) : C E 136 [natD n] (.int .u64 ((n % 18446744073709551616 : Nat) : Int)) := by
  refine CG_intro Tryz.func136 rfl (by kernel_rfl) rfl (by kernel_rfl) (by kernel_rfl) rfl ?_
  unfold nb at hn
  have hv := val_limbs n
  have hl := limbs_low n
  have g0 := hl.getD 0
  have g1 := hl.getD 1
  have hm : ∀ k : Nat, min (k : Int) 2 = ((min k 2 : Nat) : Int) := fun k => by omega
  have hend : val ((limbs n).take (min (limbs n).length 2)) = n % 18446744073709551616 := by
    by_cases h2 : 2 ≤ (limbs n).length
    · rw [show min (limbs n).length 2 = 2 by omega]
      have h3 := val_cut (limbs n) 2 h2
      have h4 := val_ltB (lows_take hl 2)
      rw [List.length_take, Nat.min_eq_left h2, show (4294967296 : Nat) ^ 2 = 18446744073709551616 from rfl] at h4
      rw [hv, show (4294967296 : Nat) ^ 2 = 18446744073709551616 from rfl] at h3
      generalize val ((limbs n).take 2) = a at *
      generalize val ((limbs n).drop 2) = b at *
      clear hv hl g0 g1
      omega
    · rw [show min (limbs n).length 2 = (limbs n).length by omega, List.take_length, hv, Nat.mod_eq_of_lt]
      have h3 := (nb_lt (n := n) (k := 1)).1 (by unfold nb; omega)
      rw [Nat.pow_one] at h3
      omega
  rw [← hend]
  have s0 := val_take_succ (limbs n) 0
  have s1 := val_take_succ (limbs n) 1
  rw [List.take_zero, Nat.pow_zero, Nat.one_mul, Nat.zero_add] at s0
  simp only [val, Nat.zero_add] at s0
  rw [s0, Nat.pow_one] at s1
  clear hend hv hl
  simp (maxSteps := 3000000) (disch := first | exact trivial | assumption | omega | exact rOk | exact rCl | exact rNo) only [go_sem, seval, natD, u32s, hm]
  generalize limbs n = l at *
  refine AL.of (fun i : Nat => i ≤ min l.length 2) (fun i => min l.length 2 - i)
    (fun i => [(1, .ad 0 0), (3, .int .u64 (val (l.take i))), (8, .int .i64 ((min l.length 2 : Nat) : Int)), (9, .int .i64 i)]) (fun _ => [(0, .var true 1 (.agg [u32s l]))]) 0 (by omega) ?_ ?_ ?_ ?_
  · simp (maxSteps := 3000000) (disch := first | exact trivial | assumption | omega | exact rOk | exact rCl | exact rNo) only [go_sem, seval, u32s]
    exact LeV.of_eq (by rw [show val [] = 0 from rfl]; rfl)
  · simp (maxSteps := 3000000) (disch := first | exact trivial | assumption | omega | exact rOk | exact rCl | exact rNo) only [go_sem, seval, u32s]
  · intro x _; simp (maxSteps := 3000000) (disch := first | exact trivial | assumption | omega | exact rOk | exact rCl | exact rNo) only [go_sem, seval]
  intro i hi
  by_cases hil : i = min l.length 2
  · subst hil
    simp (maxSteps := 3000000) (disch := first | exact trivial | assumption | omega | exact rOk | exact rCl | exact rNo) only [go_sem, seval]
  have hi' : i < min l.length 2 := by omega
  rcases (show i = 0 ∨ i = 1 by omega) with rfl | rfl
  · have e3 : bits .u64 .or 0 (((l.getD 0 0 : Nat)) : Int) = ((l.getD 0 0 : Nat) : Int) := by
      have := bits_or 0 (l.getD 0 0) (by omega) (by omega)
      simpa using this
    have z : ((val (l.take 0) : Nat) : Int) = 0 := rfl
    have hlen : 1 ≤ min l.length 2 := by omega
    clear s1
    generalize hx : l.getD 0 0 = x at *
    simp (maxSteps := 3000000) (disch := first | exact trivial | assumption | omega | exact rOk | exact rCl | exact rNo) only [go_sem, seval, u32s, z, hx, Int.mul_one, e3, List.take_zero, show val [] = 0 from rfl]
    refine ⟨1, hlen, by show min l.length 2 - 1 < min l.length 2 - 0; omega, ?_, ?_⟩
    · simp (maxSteps := 3000000) (disch := first | exact trivial | assumption | omega | exact rOk | exact rCl | exact rNo) only [go_sem, seval, s0]
    · simp (maxSteps := 3000000) (disch := first | exact trivial | assumption | omega | exact rOk | exact rCl | exact rNo) only [go_sem, seval, u32s]
  · have e3 : bits .u64 .or ((l.getD 0 0 : Nat) : Int) (((l.getD 1 0 : Nat) : Int) * 4294967296) = ((l.getD 0 0 + 4294967296 * l.getD 1 0 : Nat) : Int) := by
      have h1 := bits_or (l.getD 0 0) (l.getD 1 0 * 4294967296) (by omega) (by omega)
      have h2 := or_add 32 (l.getD 1 0) (l.getD 0 0) (by omega)
      rw [Nat.mul_comm] at h2
      rw [h2, Int.natCast_mul] at h1
      rw [Nat.mul_comm 4294967296]
      exact h1
    have hlen : 2 ≤ min l.length 2 := by omega
    generalize hx : l.getD 0 0 = x at *
    generalize hy : l.getD 1 0 = y at *
    simp (maxSteps := 3000000) (disch := first | exact trivial | assumption | omega | exact rOk | exact rCl | exact rNo) only [go_sem, seval, u32s, s0, hy, e3]
    refine ⟨2, hlen, by show min l.length 2 - 2 < min l.length 2 - 1; omega, ?_, ?_⟩
    · simp (maxSteps := 3000000) (disch := first | exact trivial | assumption | omega | exact rOk | exact rCl | exact rNo) only [go_sem, seval, s1]
    · simp (maxSteps := 3000000) (disch := first | exact trivial | assumption | omega | exact rOk | exact rCl | exact rNo) only [go_sem, seval, u32s]
end Go.Proofs.YtmcinfbckdiaoaaGreatDoor.Lv

set_option linter.unusedVariables false
set_option linter.unusedSimpArgs false
set_option maxRecDepth 100000
set_option maxHeartbeats 4000000
namespace Go.Proofs.YtmcinfbckdiaoaaGreatDoor.Lv
open Go Go.RowKit

/-- Limbs divided by a limb, and what is left. -/
def sdiv (q : Nat) : List Nat → List Nat × Nat
  | [] => ([], 0)
  | x :: r => (((sdiv q r).2 * 4294967296 + x) / q :: (sdiv q r).1, ((sdiv q r).2 * 4294967296 + x) % q)
theorem sdiv_len (q : Nat) : ∀ l, (sdiv q l).1.length = l.length
  | [] => rfl
  | x :: r => by rw [sdiv, List.length_cons, sdiv_len q r, List.length_cons]
theorem sdiv_rem {q : Nat} (hq : 0 < q) : ∀ l, (sdiv q l).2 < q
  | [] => hq
  | x :: r => Nat.mod_lt _ hq
theorem sdiv_low {q : Nat} (hq : 0 < q) : ∀ {l : List Nat}, lows l → lows (sdiv q l).1
  | [], _ => fun x hx => by cases hx
  | x :: r, h => by
    obtain ⟨h1, h2⟩ := h.cons
    intro y hy
    rw [sdiv] at hy
    rcases List.mem_cons.1 hy with rfl | hy
    · have h3 := sdiv_rem hq r
      rw [Nat.div_lt_iff_lt_mul hq]
      have : ((sdiv q r).2 + 1) * 4294967296 ≤ q * 4294967296 := Nat.mul_le_mul_right _ h3
      rw [Nat.mul_comm 4294967296]
      omega
    · exact sdiv_low hq h2 y hy
theorem sdiv_val {q : Nat} (hq : 0 < q) : ∀ l, val l = q * val (sdiv q l).1 + (sdiv q l).2
  | [] => by simp [val, sdiv]
  | x :: r => by
    have ih := sdiv_val hq r
    have h := Nat.div_add_mod ((sdiv q r).2 * 4294967296 + x) q
    simp only [val, sdiv]
    rw [Nat.mul_add, Nat.mul_left_comm, ih]
    generalize ((sdiv q r).2 * 4294967296 + x) / q = a at *
    generalize ((sdiv q r).2 * 4294967296 + x) % q = b at *
    generalize q * val (sdiv q r).1 = c at *
    generalize q * a = d at *
    omega
theorem backward_own (l : List Nat) (v : Nat) : CG E 90 [.sl 0 v 0 l.length] [(0, .row false v false 1 l.length (lR l))] (.fn 135 [.ad 1 0]) [(0, .row false v false 1 l.length (lR l)), (1, .var false 1 (.sl 0 v 0 l.length))] := by
  refine CG_intro Tryz.func90 rfl (by kernel_rfl) rfl (by kernel_rfl) (by kernel_rfl) rfl ?_
  simp (maxSteps := 3000000) (disch := first | exact trivial | assumption | omega | exact rOk | exact rCl | exact rNo) only [go_sem, seval]
  try exact fun _ _ => trivial
/-- The limbs after the rounds that leave k. -/
def shRow (q : Nat) (l : List Nat) (k : Nat) : List Nat := l.take k ++ (sdiv q (l.drop k)).1
theorem shRow_len (q : Nat) (l : List Nat) (k : Nat) : (shRow q l k).length = l.length := by
  rw [shRow, List.length_append, List.length_take, sdiv_len, List.length_drop]; omega
theorem lim_drop {l : List Nat} {k : Nat} (h : k < l.length) : l.drop k = l.getD k 0 :: l.drop (k + 1) := by
  rw [List.drop_eq_getElem_cons h, List.getD_eq_getElem?_getD, List.getElem?_eq_getElem h]; rfl
theorem shRow_step (q : Nat) {l : List Nat} {k : Nat} (hk : k < l.length) : shRow q l k = (shRow q l (k + 1)).set k (((sdiv q (l.drop (k + 1))).2 * 4294967296 + l.getD k 0) / q) := by
  have hl : (l.take k).length = k := by rw [List.length_take]; omega
  rw [shRow, shRow, List.take_add_one, List.getElem?_eq_getElem hk, List.append_assoc, List.set_append_right _ _ (by omega), hl, Nat.sub_self, lim_drop hk]
  rfl
theorem shRow_at (q : Nat) {l : List Nat} {k : Nat} (hk : k < l.length) : (shRow q l (k + 1)).getD k 0 = l.getD k 0 := by
  rw [shRow, List.getD_eq_getElem?_getD, List.getElem?_append_left (by rw [List.length_take]; omega), List.getElem?_take_of_lt (by omega), List.getD_eq_getElem?_getD]
theorem or_up (r x : Nat) (hr : r < 4294967296) (hx : x < 4294967296) : bits .u64 .or ((r : Int) * 4294967296) (x : Int) = ((r * 4294967296 + x : Nat) : Int) := by
  have h1 := bits_or (r * 4294967296) x (by omega) (by omega)
  have h2 := or_add 32 r x (by omega)
  rw [Nat.mul_comm] at h2
  rw [Nat.or_comm, h2, Int.natCast_mul, Nat.add_comm] at h1
  exact h1
theorem nat_short {l : List Nat} (hl : lows l) (hn : l.length < 1073741824) {q : Nat} (hq0 : 0 < q) (hq : q < 4294967296) (v : Nat) : CG E 138 [.sl 0 v 0 l.length, .int .u32 q] [(0, .row false v false 1 l.length (lR l))]
    (.int .u32 (sdiv q l).2) [(0, .row false v false 1 l.length (lR (sdiv q l).1))] := by
  refine CG_intro Tryz.func138 rfl (by kernel_rfl) rfl (by kernel_rfl) (by kernel_rfl) rfl ?_
  simp (maxSteps := 3000000) (disch := first | exact trivial | assumption | omega | exact rOk | exact rCl | exact rNo) only [go_sem, seval]
  refine callG [0] (backward_own l v) rfl (by simp (maxSteps := 3000000) (disch := first | exact trivial | assumption | omega | exact rOk | exact rCl | exact rNo) only [go_sem, seval]) ?_ ?_ ?_
  · simp (maxSteps := 3000000) (disch := first | exact trivial | assumption | omega | exact rOk | exact rCl | exact rNo) only [go_sem, seval]
  · simp (maxSteps := 3000000) (disch := first | exact trivial | assumption | omega | exact rOk | exact rCl | exact rNo) only [go_sem, seval]
  simp (maxSteps := 3000000) (disch := first | exact trivial | assumption | omega | exact rOk | exact rCl | exact rNo) only [go_sem, seval]
  refine AB.of 135 5 (fun k : Nat => k ≤ l.length) (fun k => k) (fun _ => [(2, .ad 1 0), (3, .ad 2 0), (5, .ad 3 0), (9, .fn 135 [.ad 5 0])])
    (fun k => [(5, .var false 1 (.sl 0 v 0 l.length)), (3, .var false 1 (.int .u64 (((sdiv q (l.drop k)).2 : Nat) : Int))), (2, .var false 1 (.int .u32 q)), (1, .var false 1 (.sl 0 v 0 l.length)), (0, .row false v false 1 l.length (lR (shRow q l k)))]) l.length bw_u32 (Nat.le_refl _) ?_ ?_ ?_ (y := .sl 0 v 0 l.length) ?_ ?_ (by omega) ?_ ?_ ?_
  · simp (maxSteps := 3000000) (disch := first | exact trivial | assumption | omega | exact rOk | exact rCl | exact rNo) only [go_sem, seval]
  · have e0 : (sdiv q (l.drop l.length)).2 = 0 := by rw [List.drop_length]; rfl
    have e1 : shRow q l l.length = l := by rw [shRow, List.drop_length, List.take_length]; exact List.append_nil l
    rw [e0, e1]
    simp (maxSteps := 3000000) (disch := first | exact trivial | assumption | omega | exact rOk | exact rCl | exact rNo) only [go_sem, seval]
    try exact fun _ _ => trivial
  · simp (maxSteps := 3000000) (disch := first | exact trivial | assumption | omega | exact rOk | exact rCl | exact rNo) only [go_sem, seval]
  · simp (maxSteps := 3000000) (disch := first | exact trivial | assumption | omega | exact rOk | exact rCl | exact rNo) only [go_sem, seval]
  · simp (maxSteps := 3000000) (disch := first | exact trivial | assumption | omega | exact rOk | exact rCl | exact rNo) only [go_sem, seval]
  · intro x' _; simp (maxSteps := 3000000) (disch := first | exact trivial | assumption | omega | exact rOk | exact rCl | exact rNo) only [go_sem, seval]
  · rintro x' h rfl
    have e1 : shRow q l 0 = (sdiv q l).1 := by rw [shRow, List.drop_zero, List.take_zero, List.nil_append]
    rw [List.drop_zero, e1]
    have r1 := sdiv_rem hq0 l
    simp (maxSteps := 3000000) (disch := first | exact trivial | assumption | omega | exact rOk | exact rCl | exact rNo) only [go_sem, seval]
    try exact fun _ _ => trivial
  · rintro x' k hk1 hk rfl
    have g1 := hl.getD k
    have r1 := sdiv_rem hq0 (l.drop (k + 1))
    have hat := shRow_at q hk
    have hst := shRow_step q hk
    have hrow := fun (d j : Nat) => lR_set' (w := shRow q l (k + 1)) (i := k) (d := d) (j := j) (by rw [shRow_len]; omega)
    have hs2 : (sdiv q (l.drop k)).2 = ((sdiv q (l.drop (k + 1))).2 * 4294967296 + l.getD k 0) % q := by rw [lim_drop hk]; rfl
    have eo := or_up (sdiv q (l.drop (k + 1))).2 (l.getD k 0) (by omega) g1
    have hd := sdiv_low hq0 (l := l.drop k) (fun y hy => hl y (List.mem_of_mem_drop hy)) (((sdiv q (l.drop (k + 1))).2 * 4294967296 + l.getD k 0) / q) (by rw [lim_drop hk]; exact List.mem_cons_self)
    have hm : ((sdiv q (l.drop (k + 1))).2 * 4294967296 + l.getD k 0) % q < q := Nat.mod_lt _ hq0
    refine ⟨.sl 0 v 0 l.length, .int .u32 ((l.getD k 0 : Nat) : Int), rfl, ?_, ?_⟩
    · simp [elt]
      show (if v = v ∧ 1 = 1 ∧ k < l.length then some (lR (shRow q l (k + 1)) k) else none) = _
      rw [if_pos ⟨rfl, rfl, hk⟩, lR, hat, List.getD_eq_getElem?_getD]
    generalize hR : (sdiv q (l.drop (k + 1))).2 = R at *
    generalize hX : l.getD k 0 = X at *
    have htd : (((R * 4294967296 + X : Nat) : Int)).tdiv (q : Int) = (((R * 4294967296 + X) / q : Nat) : Int) := (Int.ofNat_tdiv _ _).symm
    have htm : (((R * 4294967296 + X : Nat) : Int)).tmod (q : Int) = (((R * 4294967296 + X) % q : Nat) : Int) := (Int.ofNat_tmod _ _).symm
    generalize (R * 4294967296 + X) / q = Dv at *
    generalize (R * 4294967296 + X) % q = Mv at *
    simp (maxSteps := 3000000) (disch := first | exact trivial | assumption | omega | exact rOk | exact rCl | exact rNo) only [go_sem, seval, eo, htd, htm, hR]
    refine BGo.of k (by simp (maxSteps := 3000000) (disch := first | exact trivial | assumption | omega | exact rOk | exact rCl | exact rNo) only [go_sem, seval]) (by omega) rfl (by simp [mx]) ?_ ?_
    · simp (maxSteps := 3000000) (disch := first | exact trivial | assumption | omega | exact rOk | exact rCl | exact rNo) only [go_sem, seval]
    · simp (maxSteps := 3000000) (disch := first | exact trivial | assumption | omega | exact rOk | exact rCl | exact rNo) only [go_sem, seval, hs2, hst, hrow]
      try exact fun _ _ => trivial
end Go.Proofs.YtmcinfbckdiaoaaGreatDoor.Lv

set_option linter.unusedVariables false
set_option linter.unusedSimpArgs false
set_option maxRecDepth 100000
set_option maxHeartbeats 4000000
namespace Go.Proofs.YtmcinfbckdiaoaaGreatDoor.Lv
open Go Go.RowKit
/-- What taking away does. -/
def DifP (x y : List Nat) (s : Nat × Nat × List Nat) : Prop := s.1 ≤ x.length ∧ s.2.1 ≤ 1 ∧ s.2.2.length = x.length ∧ lows s.2.2 ∧ val (s.2.2.take s.1) + val (y.take s.1) = val (x.take s.1) + 4294967296 ^ s.1 * s.2.1
theorem DifP.next {x y : List Nat} (hx : lows x) (hy : lows y) {i c : Nat} {w : List Nat} (h : DifP x y (i, c, w)) (hi : i < x.length) :
    DifP x y (i + 1, (if x.getD i 0 < y.getD i 0 + c then 1 else 0), w.set i ((4294967296 + x.getD i 0 - c - y.getD i 0) % 4294967296)) := by
  obtain ⟨h1, h2, h3, h4, h5⟩ := h
  simp only at h1 h2 h3 h4 h5
  have g1 := hx.getD i
  have g2 := hy.getD i
  have hstep := dif_step (w := w) (d := (4294967296 + x.getD i 0 - c - y.getD i 0) % 4294967296) (c' := if x.getD i 0 < y.getD i 0 + c then 1 else 0) (by omega) h5 (by split <;> omega)
  clear h5
  exact ⟨hi, by show (if _ then 1 else 0) ≤ 1; split <;> omega, by simp only [List.length_set]; exact h3, lows_set h4 (by omega), hstep⟩
theorem DifP.fin {x y : List Nat} (hle : y.length ≤ x.length) (hv : val y ≤ val x) {c : Nat} {w : List Nat} (h : DifP x y (x.length, c, w)) : lows w ∧ val w = val x - val y := by
  obtain ⟨h1, h2, h3, h4, h5⟩ := h
  simp only at h1 h2 h3 h4 h5
  rw [List.take_of_length_le (by omega), List.take_of_length_le (by omega), List.take_of_length_le (by omega)] at h5
  have hlt := val_ltB h4
  rw [h3] at hlt
  refine ⟨h4, ?_⟩
  rcases (show c = 0 ∨ c = 1 by omega) with rfl | rfl
  · omega
  · omega
theorem u64_wr (z : Int) : IntKind.u64.wrap z = z % 18446744073709551616 := by
  simp [IntKind.wrap, IntKind.bits, IntKind.signed]
theorem dif_d (x c y : Nat) (hx : x < 4294967296) (hy : y < 4294967296) (hc : c ≤ 1) : IntKind.u32.wrap (IntKind.u64.wrap (IntKind.u64.wrap ((x : Int) - (c : Int)) - (y : Int))) = (((4294967296 + x - c - y) % 4294967296 : Nat) : Int) := by rw [wrap_u32', u64_wr, u64_wr]; omega
theorem dif_c (x c y : Nat) (hx : x < 4294967296) (hy : y < 4294967296) (hc : c ≤ 1) : IntKind.u64.wrap (IntKind.u64.wrap ((x : Int) - (c : Int)) - (y : Int)) / 9223372036854775808 = (((if x < y + c then 1 else 0) : Nat) : Int) := by rw [u64_wr, u64_wr]; split <;> omega
theorem dif_d0 (x c : Nat) (hx : x < 4294967296) (hc : c ≤ 1) : IntKind.u32.wrap (IntKind.u64.wrap ((x : Int) - (c : Int))) = (((4294967296 + x - c - 0) % 4294967296 : Nat) : Int) := by rw [wrap_u32', u64_wr]; omega
theorem dif_c0 (x c : Nat) (hx : x < 4294967296) (hc : c ≤ 1) : IntKind.u64.wrap ((x : Int) - (c : Int)) / 9223372036854775808 = (((if x < 0 + c then 1 else 0) : Nat) : Int) := by rw [u64_wr]; split <;> omega
theorem nat_Sub_lt {a b : Nat} (ha : nb a < 536870912) (hb : nb b < 536870912) (hab : a < b) : C E 97 [natD a, natD b] (.tup [.agg [.nils], .bool false]) := by
  refine CG_intro Tryz.func97 rfl (by kernel_rfl) rfl (by kernel_rfl) (by kernel_rfl) rfl ?_
  have hs : sgI (a : Int) (b : Int) = -1 := sgI_lt (by omega)
  simp (maxSteps := 3000000) (disch := first | exact trivial | assumption | omega | exact rOk | exact rCl | exact rNo) only [go_sem, seval]
  refine callC (nat_Cmp (a := a) (b := b) (by omega) (by omega)) ?_ rfl ?_
  · simp (maxSteps := 3000000) (disch := first | exact trivial | assumption | omega | exact rOk | exact rCl | exact rNo) only [go_sem, seval]
  simp (maxSteps := 3000000) (disch := first | exact trivial | assumption | omega | exact rOk | exact rCl | exact rNo) only [go_sem, seval, hs]
theorem nat_Sub {a b : Nat} (ha : nb a < 536870912) (hb : nb b < 536870912) (hab : b ≤ a) : C E 97 [natD a, natD b] (.tup [natD (a - b), .bool true]) := by
  refine CG_intro Tryz.func97 rfl (by kernel_rfl) rfl (by kernel_rfl) (by kernel_rfl) rfl ?_
  have hs : 0 ≤ sgI (a : Int) (b : Int) := by
    rcases Nat.lt_or_ge b a with h | h
    · rw [sgI_gt (by omega)]; decide
    · rw [show a = b by omega, sgI_eq]; decide
  simp (maxSteps := 3000000) (disch := first | exact trivial | assumption | omega | exact rOk | exact rCl | exact rNo) only [go_sem, seval]
  refine callC (nat_Cmp (a := a) (b := b) (by omega) (by omega)) ?_ rfl ?_
  · simp (maxSteps := 3000000) (disch := first | exact trivial | assumption | omega | exact rOk | exact rCl | exact rNo) only [go_sem, seval]
  have hns : ¬ sgI (a : Int) (b : Int) < 0 := by omega
  unfold nb at ha hb
  have va := val_limbs a
  have vb := val_limbs b
  have la := limbs_low a
  have lb := limbs_low b
  have hle : (limbs b).length ≤ (limbs a).length := by
    rcases Nat.lt_or_ge (limbs a).length (limbs b).length with h | h
    · have := cmp_len h; omega
    · exact h
  simp only [natD]
  generalize sgI (a : Int) (b : Int) = sg at *
  generalize limbs a = l at *
  generalize limbs b = m at *
  subst va vb
  simp (maxSteps := 3000000) (disch := first | exact trivial | assumption | omega | exact rOk | exact rCl | exact rNo) only [go_sem, seval, natD, u32s, hns]
  refine ⟨by omega, by omega, by omega, ?_⟩
  refine AL.of (DifP l m) (fun s => l.length - s.1) (fun s => [(2, .ad 0 0), (3, .ad 1 0), (4, .ad 2 0), (5, .bool false), (6, .sl 3 0 0 l.length), (7, .int .u64 s.2.1), (20, u32s l), (21, .int .i64 l.length), (22, .int .i64 s.1)])
    (fun s => [(3, .row false 0 false 1 l.length (lR s.2.2)), (2, .var true 1 (.agg [.nils])), (1, .var true 1 (.agg [u32s m])), (0, .var true 1 (.agg [u32s l]))]) (0, 0, List.replicate l.length 0) ⟨by simp, by simp, by simp, lows_rep _, by simp [val]⟩ ?_ ?_ ?_ ?_
  · simp (maxSteps := 3000000) (disch := first | exact trivial | assumption | omega | exact rOk | exact rCl | exact rNo) only [go_sem, seval, u32s]
  · simp (maxSteps := 3000000) (disch := first | exact trivial | assumption | omega | exact rOk | exact rCl | exact rNo) only [go_sem, seval, u32s]
    try exact fun i hi => Le.of_eq (by unfold lR; rw [List.getD_eq_getElem?_getD, List.getElem?_replicate, if_pos hi]; rfl)
  · intro x _; simp (maxSteps := 3000000) (disch := first | exact trivial | assumption | omega | exact rOk | exact rCl | exact rNo) only [go_sem, seval]
  rintro ⟨i, c, w⟩ hP
  have hn := hP.next la lb
  have hf := hP
  obtain ⟨h1, h2, h3, h4, h5⟩ := hP
  simp only at h1 h2 h3 h4 h5
  have g1 := la.getD i
  have g2 := lb.getD i
  by_cases hi : i = l.length
  · subst hi
    obtain ⟨q1, q2⟩ := hf.fin hle hab
    have hc := nat_cut q1 (by omega)
    rw [q2] at hc
    clear h5 hf hn h4
    simp (maxSteps := 3000000) (disch := first | exact trivial | assumption | omega | exact rOk | exact rCl | exact rNo) only [go_sem, seval, u32s]
    refine callC hc ?_ rfl ?_
    · simp (maxSteps := 3000000) (disch := first | exact trivial | assumption | omega | exact rOk | exact rCl | exact rNo) only [go_sem, seval, u32s]
      first | exact LesV_rows (by omega) fun j hj => rfl | (rw [h3]; exact LesV_rows rfl fun j hj => rfl)
    simp (maxSteps := 3000000) (disch := first | exact trivial | assumption | omega | exact rOk | exact rCl | exact rNo) only [go_sem, seval]
    try exact LeV.refl _
  · have hi' : i < l.length := by omega
    have hn' := hn hi'
    clear hn hf h5 h4 h1
    by_cases hj : i < m.length
    · simp (maxSteps := 3000000) (disch := first | exact trivial | assumption | omega | exact rOk | exact rCl | exact rNo) only [go_sem, seval, u32s, lR, dif_d, dif_c]
      refine ⟨_, hn', by show l.length - (i + 1) < l.length - i; omega, ?_, ?_⟩
      · simp (maxSteps := 3000000) (disch := first | exact trivial | assumption | omega | exact rOk | exact rCl | exact rNo) only [go_sem, seval, u32s]
        try exact LeV.of_eq (by rw [Int.natCast_succ])
      · simp (maxSteps := 3000000) (disch := first | exact trivial | assumption | omega | exact rOk | exact rCl | exact rNo) only [go_sem, seval, u32s]
        exact fun j hj => Le.of_eq (lR_set' (by omega))
    · have hy0 := getD_out' (l := m) (i := i) (by omega)
      rw [hy0] at hn'
      simp (maxSteps := 3000000) (disch := first | exact trivial | assumption | omega | exact rOk | exact rCl | exact rNo) only [go_sem, seval, u32s, lR, dif_d0, dif_c0]
      refine ⟨_, hn', by show l.length - (i + 1) < l.length - i; omega, ?_, ?_⟩
      · simp (maxSteps := 3000000) (disch := first | exact trivial | assumption | omega | exact rOk | exact rCl | exact rNo) only [go_sem, seval, u32s]
        try exact LeV.of_eq (by rw [Int.natCast_succ])
      · simp (maxSteps := 3000000) (disch := first | exact trivial | assumption | omega | exact rOk | exact rCl | exact rNo) only [go_sem, seval, u32s]
        exact fun j hj => Le.of_eq (lR_set' (by omega))
end Go.Proofs.YtmcinfbckdiaoaaGreatDoor.Lv
