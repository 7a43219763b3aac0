/- The program's numbers: short. -/
import Derived.Test.YtmcinfbckdiaoaaGreatDoorPJ
set_option linter.unusedVariables false
set_option linter.unusedSimpArgs false
set_option maxRecDepth 100000
set_option maxHeartbeats 4000000
namespace Go.Proofs.YtmcinfbckdiaoaaGreatDoor.Lv
open Go Go.RowKit

/-- Limbs divided by a limb, and what is left. -/
def sdiv (q : Nat) : List Nat → List Nat × Nat
  | [] => ([], 0)
  | x :: r => (((sdiv q r).2 * 4294967296 + x) / q :: (sdiv q r).1, ((sdiv q r).2 * 4294967296 + x) % q)
theorem sdiv_len (q : Nat) : ∀ l, (sdiv q l).1.length = l.length
  | [] => rfl
  | x :: r => by rw [sdiv, List.length_cons, sdiv_len q r, List.length_cons]
theorem sdiv_rem {q : Nat} (hq : 0 < q) : ∀ l, (sdiv q l).2 < q
  | [] => hq
  | x :: r => Nat.mod_lt _ hq
theorem sdiv_low {q : Nat} (hq : 0 < q) : ∀ {l : List Nat}, lows l → lows (sdiv q l).1
  | [], _ => fun x hx => by cases hx
  | x :: r, h => by
    obtain ⟨h1, h2⟩ := h.cons
    intro y hy
    rw [sdiv] at hy
    rcases List.mem_cons.1 hy with rfl | hy
    · have h3 := sdiv_rem hq r
      rw [Nat.div_lt_iff_lt_mul hq]
      have : ((sdiv q r).2 + 1) * 4294967296 ≤ q * 4294967296 := Nat.mul_le_mul_right _ h3
      rw [Nat.mul_comm 4294967296]
      omega
    · exact sdiv_low hq h2 y hy
theorem sdiv_val {q : Nat} (hq : 0 < q) : ∀ l, val l = q * val (sdiv q l).1 + (sdiv q l).2
  | [] => by simp [val, sdiv]
  | x :: r => by
    have ih := sdiv_val hq r
    have h := Nat.div_add_mod ((sdiv q r).2 * 4294967296 + x) q
    simp only [val, sdiv]
    rw [Nat.mul_add, Nat.mul_left_comm, ih]
    generalize ((sdiv q r).2 * 4294967296 + x) / q = a at *
    generalize ((sdiv q r).2 * 4294967296 + x) % q = b at *
    generalize q * val (sdiv q r).1 = c at *
    generalize q * a = d at *
    omega
theorem backward_own (l : List Nat) (v : Nat) : CG E 90 [.sl 0 v 0 l.length] [(0, .row false v false 1 l.length (lR l))] (.fn 135 [.ad 1 0]) [(0, .row false v false 1 l.length (lR l)), (1, .var false 1 (.sl 0 v 0 l.length))] := by
  refine CG_intro Tryz.func90 rfl (by kernel_rfl) rfl (by kernel_rfl) (by kernel_rfl) rfl ?_
  simp (maxSteps := 3000000) (disch := first | exact trivial | assumption | omega | exact RegOk.mk (by decide +kernel) | exact RegCl.mk (by decide +kernel) | exact RegNo.mk (by kernel_rfl)) only [go_sem, seval]
  try exact fun _ _ => trivial
/-- The limbs after the rounds that leave k. -/
def shRow (q : Nat) (l : List Nat) (k : Nat) : List Nat := l.take k ++ (sdiv q (l.drop k)).1
theorem shRow_len (q : Nat) (l : List Nat) (k : Nat) : (shRow q l k).length = l.length := by
  rw [shRow, List.length_append, List.length_take, sdiv_len, List.length_drop]; omega
theorem lim_drop {l : List Nat} {k : Nat} (h : k < l.length) : l.drop k = l.getD k 0 :: l.drop (k + 1) := by
  rw [List.drop_eq_getElem_cons h, List.getD_eq_getElem?_getD, List.getElem?_eq_getElem h]; rfl
theorem shRow_step (q : Nat) {l : List Nat} {k : Nat} (hk : k < l.length) : shRow q l k = (shRow q l (k + 1)).set k (((sdiv q (l.drop (k + 1))).2 * 4294967296 + l.getD k 0) / q) := by
  have hl : (l.take k).length = k := by rw [List.length_take]; omega
  rw [shRow, shRow, List.take_add_one, List.getElem?_eq_getElem hk, List.append_assoc, List.set_append_right _ _ (by omega), hl, Nat.sub_self, lim_drop hk]
  rfl
theorem shRow_at (q : Nat) {l : List Nat} {k : Nat} (hk : k < l.length) : (shRow q l (k + 1)).getD k 0 = l.getD k 0 := by
  rw [shRow, List.getD_eq_getElem?_getD, List.getElem?_append_left (by rw [List.length_take]; omega), List.getElem?_take_of_lt (by omega), List.getD_eq_getElem?_getD]
theorem or_up (r x : Nat) (hr : r < 4294967296) (hx : x < 4294967296) : bits .u64 .or ((r : Int) * 4294967296) (x : Int) = ((r * 4294967296 + x : Nat) : Int) := by
  have h1 := bits_or (r * 4294967296) x (by omega) (by omega)
  have h2 := or_add 32 r x (by omega)
  rw [Nat.mul_comm] at h2
  rw [Nat.or_comm, h2, Int.natCast_mul, Nat.add_comm] at h1
  exact h1
theorem nat_short {l : List Nat} (hl : lows l) (hn : l.length < 1073741824) {q : Nat} (hq0 : 0 < q) (hq : q < 4294967296) (v : Nat) : CG E 138 [.sl 0 v 0 l.length, .int .u32 q] [(0, .row false v false 1 l.length (lR l))]
    (.int .u32 (sdiv q l).2) [(0, .row false v false 1 l.length (lR (sdiv q l).1))] := by
  refine CG_intro Tryz.func138 rfl (by kernel_rfl) rfl (by kernel_rfl) (by kernel_rfl) rfl ?_
  simp (maxSteps := 3000000) (disch := first | exact trivial | assumption | omega | exact RegOk.mk (by decide +kernel) | exact RegCl.mk (by decide +kernel) | exact RegNo.mk (by kernel_rfl)) only [go_sem, seval]
  refine callG [0] (backward_own l v) rfl (by simp (maxSteps := 3000000) (disch := first | exact trivial | assumption | omega | exact RegOk.mk (by decide +kernel) | exact RegCl.mk (by decide +kernel) | exact RegNo.mk (by kernel_rfl)) only [go_sem, seval]) ?_ ?_ ?_
  · simp (maxSteps := 3000000) (disch := first | exact trivial | assumption | omega | exact RegOk.mk (by decide +kernel) | exact RegCl.mk (by decide +kernel) | exact RegNo.mk (by kernel_rfl)) only [go_sem, seval]
  · simp (maxSteps := 3000000) (disch := first | exact trivial | assumption | omega | exact RegOk.mk (by decide +kernel) | exact RegCl.mk (by decide +kernel) | exact RegNo.mk (by kernel_rfl)) only [go_sem, seval]
  simp (maxSteps := 3000000) (disch := first | exact trivial | assumption | omega | exact RegOk.mk (by decide +kernel) | exact RegCl.mk (by decide +kernel) | exact RegNo.mk (by kernel_rfl)) only [go_sem, seval]
  refine AB.of 135 5 (fun k : Nat => k ≤ l.length) (fun k => k) (fun _ => [(2, .ad 1 0), (3, .ad 2 0), (5, .ad 3 0), (9, .fn 135 [.ad 5 0])])
    (fun k => [(5, .var false 1 (.sl 0 v 0 l.length)), (3, .var false 1 (.int .u64 (((sdiv q (l.drop k)).2 : Nat) : Int))), (2, .var false 1 (.int .u32 q)), (1, .var false 1 (.sl 0 v 0 l.length)), (0, .row false v false 1 l.length (lR (shRow q l k)))]) l.length bw_u32 (Nat.le_refl _) ?_ ?_ ?_ (y := .sl 0 v 0 l.length) ?_ ?_ (by omega) ?_ ?_ ?_
  · simp (maxSteps := 3000000) (disch := first | exact trivial | assumption | omega | exact RegOk.mk (by decide +kernel) | exact RegCl.mk (by decide +kernel) | exact RegNo.mk (by kernel_rfl)) only [go_sem, seval]
  · have e0 : (sdiv q (l.drop l.length)).2 = 0 := by rw [List.drop_length]; rfl
    have e1 : shRow q l l.length = l := by rw [shRow, List.drop_length, List.take_length]; exact List.append_nil l
    rw [e0, e1]
    simp (maxSteps := 3000000) (disch := first | exact trivial | assumption | omega | exact RegOk.mk (by decide +kernel) | exact RegCl.mk (by decide +kernel) | exact RegNo.mk (by kernel_rfl)) only [go_sem, seval]
    try exact fun _ _ => trivial
  · simp (maxSteps := 3000000) (disch := first | exact trivial | assumption | omega | exact RegOk.mk (by decide +kernel) | exact RegCl.mk (by decide +kernel) | exact RegNo.mk (by kernel_rfl)) only [go_sem, seval]
  · simp (maxSteps := 3000000) (disch := first | exact trivial | assumption | omega | exact RegOk.mk (by decide +kernel) | exact RegCl.mk (by decide +kernel) | exact RegNo.mk (by kernel_rfl)) only [go_sem, seval]
  · simp (maxSteps := 3000000) (disch := first | exact trivial | assumption | omega | exact RegOk.mk (by decide +kernel) | exact RegCl.mk (by decide +kernel) | exact RegNo.mk (by kernel_rfl)) only [go_sem, seval]
  · intro x' _; simp (maxSteps := 3000000) (disch := first | exact trivial | assumption | omega | exact RegOk.mk (by decide +kernel) | exact RegCl.mk (by decide +kernel) | exact RegNo.mk (by kernel_rfl)) only [go_sem, seval]
  · rintro x' h rfl
    have e1 : shRow q l 0 = (sdiv q l).1 := by rw [shRow, List.drop_zero, List.take_zero, List.nil_append]
    rw [List.drop_zero, e1]
    have r1 := sdiv_rem hq0 l
    simp (maxSteps := 3000000) (disch := first | exact trivial | assumption | omega | exact RegOk.mk (by decide +kernel) | exact RegCl.mk (by decide +kernel) | exact RegNo.mk (by kernel_rfl)) only [go_sem, seval]
    try exact fun _ _ => trivial
  · rintro x' k hk1 hk rfl
    have g1 := hl.getD k
    have r1 := sdiv_rem hq0 (l.drop (k + 1))
    have hat := shRow_at q hk
    have hst := shRow_step q hk
    have hrow := fun (d j : Nat) => lR_set' (w := shRow q l (k + 1)) (i := k) (d := d) (j := j) (by rw [shRow_len]; omega)
    have hs2 : (sdiv q (l.drop k)).2 = ((sdiv q (l.drop (k + 1))).2 * 4294967296 + l.getD k 0) % q := by rw [lim_drop hk]; rfl
    have eo := or_up (sdiv q (l.drop (k + 1))).2 (l.getD k 0) (by omega) g1
    have hd := sdiv_low hq0 (l := l.drop k) (fun y hy => hl y (List.mem_of_mem_drop hy)) (((sdiv q (l.drop (k + 1))).2 * 4294967296 + l.getD k 0) / q) (by rw [lim_drop hk]; exact List.mem_cons_self)
    have hm : ((sdiv q (l.drop (k + 1))).2 * 4294967296 + l.getD k 0) % q < q := Nat.mod_lt _ hq0
    refine ⟨.sl 0 v 0 l.length, .int .u32 ((l.getD k 0 : Nat) : Int), rfl, ?_, ?_⟩
    · simp [elt]
      show (if v = v ∧ 1 = 1 ∧ k < l.length then some (lR (shRow q l (k + 1)) k) else none) = _
      rw [if_pos ⟨rfl, rfl, hk⟩, lR, hat, List.getD_eq_getElem?_getD]
    generalize hR : (sdiv q (l.drop (k + 1))).2 = R at *
    generalize hX : l.getD k 0 = X at *
    have htd : (((R * 4294967296 + X : Nat) : Int)).tdiv (q : Int) = (((R * 4294967296 + X) / q : Nat) : Int) := (Int.ofNat_tdiv _ _).symm
    have htm : (((R * 4294967296 + X : Nat) : Int)).tmod (q : Int) = (((R * 4294967296 + X) % q : Nat) : Int) := (Int.ofNat_tmod _ _).symm
    generalize (R * 4294967296 + X) / q = Dv at *
    generalize (R * 4294967296 + X) % q = Mv at *
    simp (maxSteps := 3000000) (disch := first | exact trivial | assumption | omega | exact RegOk.mk (by decide +kernel) | exact RegCl.mk (by decide +kernel) | exact RegNo.mk (by kernel_rfl)) only [go_sem, seval, eo, htd, htm, hR]
    refine BGo.of k (by simp (maxSteps := 3000000) (disch := first | exact trivial | assumption | omega | exact RegOk.mk (by decide +kernel) | exact RegCl.mk (by decide +kernel) | exact RegNo.mk (by kernel_rfl)) only [go_sem, seval]) (by omega) rfl (by simp [mx]) ?_ ?_
    · simp (maxSteps := 3000000) (disch := first | exact trivial | assumption | omega | exact RegOk.mk (by decide +kernel) | exact RegCl.mk (by decide +kernel) | exact RegNo.mk (by kernel_rfl)) only [go_sem, seval]
    · simp (maxSteps := 3000000) (disch := first | exact trivial | assumption | omega | exact RegOk.mk (by decide +kernel) | exact RegCl.mk (by decide +kernel) | exact RegNo.mk (by kernel_rfl)) only [go_sem, seval, hs2, hst, hrow]
      try exact fun _ _ => trivial
end Go.Proofs.YtmcinfbckdiaoaaGreatDoor.Lv
