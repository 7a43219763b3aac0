/- The program's numbers: grow. -/
import Derived.Test.YtmcinfbckdiaoaaGreatDoorMa
set_option linter.unusedVariables false
set_option linter.unusedSimpArgs false
set_option maxRecDepth 100000
set_option maxHeartbeats 4000000
namespace Go.Proofs.YtmcinfbckdiaoaaGreatDoor.Lv
open Go Go.RowKit

theorem lR_set' {w : List Nat} {i d j : Nat} (hi : i < w.length) : (if j = i then D.int .u32 ((d : Nat) : Int) else lR w j) = lR (w.set i d) j := by
  unfold lR
  by_cases h : j = i
  · subst h
    rw [if_pos rfl, List.getD_eq_getElem?_getD, List.getElem?_set_self hi]; rfl
  · rw [if_neg h, List.getD_eq_getElem?_getD, List.getD_eq_getElem?_getD, List.getElem?_set_ne (fun e => h e.symm)]
theorem lR_snoc {w : List Nat} {d j n : Nat} (hn : w.length = n) (hj : j < n + 1) : (if j < n then lR w j else [D.int .u32 ((d : Nat) : Int)].getD (j - n) .unk) = lR (w ++ [d]) j := by
  unfold lR
  by_cases h : j < n
  · rw [if_pos h, List.getD_eq_getElem?_getD, List.getD_eq_getElem?_getD, List.getElem?_append_left (by omega)]
  · obtain rfl : j = n := by omega
    rw [if_neg h, Nat.sub_self, List.getD_cons_zero, List.getD_eq_getElem?_getD, List.getElem?_append_right (by omega)]
    simp [hn]
/-- Limbs that say a great number have no nought at their end. -/
theorem canon {w : List Nat} (hw : lows w) (h : ∀ k, k + 1 = w.length → 4294967296 ^ k ≤ val w) : limbs (val w) = w := by
  refine limbs_val hw fun k hk h0 => ?_
  have h1 := h k hk
  have h2 : val w = val (w.take (k + 1)) := by rw [List.take_of_length_le (by omega)]
  rw [h2, val_take_succ, h0, Nat.mul_zero, Nat.add_zero] at h1
  have h3 := val_ltB (lows_take hw k)
  rw [List.length_take, Nat.min_eq_left (by omega)] at h3
  omega
theorem limbs_great {m k : Nat} (h : k + 1 = nb m) : 4294967296 ^ k ≤ m := by
  rcases Nat.lt_or_ge m (4294967296 ^ k) with h' | h'
  · have := nb_lt.2 h'
    omega
  · exact h'
theorem grow_step {w x : List Nat} {i c d c' q r : Nat} (hi : i < w.length) (hinv : val (w.take i) + 4294967296 ^ i * c = val (x.take i) * q + r) (hs : d + 4294967296 * c' = c + x.getD i 0 * q) :
    val ((w.set i d).take (i + 1)) + 4294967296 ^ (i + 1) * c' = val (x.take (i + 1)) * q + r := by
  rw [set_take_val hi, val_take_succ x, Nat.pow_succ]
  have h2 : 4294967296 ^ i * (d + 4294967296 * c') = 4294967296 ^ i * (c + x.getD i 0 * q) := by rw [hs]
  generalize 4294967296 ^ i = p at *
  rw [Nat.mul_assoc, Nat.add_mul, Nat.mul_assoc p]
  rw [Nat.mul_add, Nat.mul_add] at h2
  generalize p * (4294967296 * c') = m3 at *
  generalize p * c = m4 at *
  generalize p * (x.getD i 0 * q) = m5 at *
  generalize val (x.take i) * q = m7 at *
  generalize p * d = m6 at *
  omega
def GroP (x : List Nat) (q r : Nat) (s : Nat × Nat × List Nat) : Prop := s.1 ≤ x.length ∧ s.2.1 < 4294967296 ∧ s.2.2.length = x.length ∧ lows s.2.2 ∧ s.2.2.drop s.1 = x.drop s.1 ∧ val (s.2.2.take s.1) + 4294967296 ^ s.1 * s.2.1 = val (x.take s.1) * q + r
theorem GroP.next {x w : List Nat} (hx : lows x) {q r i c : Nat} (hq : q < 4294967296) (h : GroP x q r (i, c, w)) (hi : i < x.length) :
    w.getD i 0 = x.getD i 0 ∧ c + x.getD i 0 * q < 18446744073709551616 ∧ x.getD i 0 * q < 18446744073709551616 ∧ GroP x q r (i + 1, (c + x.getD i 0 * q) / 4294967296, w.set i ((c + x.getD i 0 * q) % 4294967296)) := by
  obtain ⟨h1, h2, h3, h4, h5, h6⟩ := h
  simp only at h1 h2 h3 h4 h5 h6
  have g1 := hx.getD i
  have hm : x.getD i 0 * q ≤ 4294967295 * 4294967295 := Nat.mul_le_mul (by omega) (by omega)
  have hg := getD_of_drop h5
  have hstep := grow_step (w := w) (d := (c + x.getD i 0 * q) % 4294967296) (c' := (c + x.getD i 0 * q) / 4294967296) (by omega) h6 (by omega)
  clear h6
  generalize x.getD i 0 * q = p at *
  refine ⟨hg, by omega, by omega, by simp only; omega, by show (c + p) / 4294967296 < 4294967296; omega, by simp only [List.length_set]; exact h3, lows_set h4 (by omega), ?_, hstep⟩
  show (w.set i _).drop (i + 1) = x.drop (i + 1)
  rw [set_drop]; exact drop_succ_of h5
/-- What comes out: with the carry behind it, or none. -/
theorem GroP.fin {m q r c : Nat} {w : List Nat} (hq : 0 < q) (h : GroP (limbs m) q r ((limbs m).length, c, w)) :
    (c = 0 → limbs (m * q + r) = w) ∧ (0 < c → limbs (m * q + r) = w ++ [c]) := by
  obtain ⟨h1, h2, h3, h4, h5, h6⟩ := h
  simp only at h1 h2 h3 h4 h5 h6
  rw [List.take_of_length_le (by omega), List.take_of_length_le (Nat.le_refl _), val_limbs] at h6
  constructor
  · intro h0
    subst h0
    rw [Nat.mul_zero, Nat.add_zero] at h6
    rw [← h6]
    refine canon h4 fun k hk => ?_
    have h7 := limbs_great (m := m) (k := k) (by unfold nb; omega)
    have h8 : m * 1 ≤ m * q := Nat.mul_le_mul_left _ hq
    omega
  · intro h0
    have h7 : val (w ++ [c]) = m * q + r := by
      rw [val_append, ← h6, h3]; simp [val]
    rw [← h7]
    refine limbs_val (lows_app h4 fun x hx => by rw [List.mem_singleton.1 hx]; exact h2) fun k hk => ?_
    rw [List.length_append, List.length_singleton] at hk
    obtain rfl : k = w.length := by omega
    rw [List.getD_eq_getElem?_getD, List.getElem?_append_right (Nat.le_refl _)]
    simp; omega
theorem nat_grow {m q r : Nat} (hm : nb m < 1073741824) (hq0 : 0 < q) (hq : q < 4294967296) (hr : r < 4294967296) : CG E 159 [.sl 0 (nb m) 0 (nb m), .int .u32 q, .int .u32 r] [(0, .row false (nb m) false 1 (nb m) (lR (limbs m)))]
    (.sl 0 (nb (m * q + r)) 0 (nb (m * q + r))) [(0, .row false (nb (m * q + r)) false 1 (nb (m * q + r)) (lR (limbs (m * q + r))))] := by
  refine CG_intro Tryz.func159 rfl (by kernel_rfl) rfl (by kernel_rfl) (by kernel_rfl) rfl ?_
  have hl := limbs_low m
  unfold nb at hm ⊢
  have hlen : ∀ n : Nat, n = (limbs m).length → n < 1073741824 := fun n h => by omega
  generalize hN : (limbs m).length = N at *
  simp (maxSteps := 3000000) (disch := first | exact trivial | assumption | omega | exact rOk | exact rCl | exact rNo) only [go_sem, seval]
  refine AL.of (GroP (limbs m) q r) (fun s => N - s.1) (fun s => [(0, .sl 0 N 0 N), (1, .int .u32 q), (2, .int .u32 r), (7, .int .u64 s.2.1), (12, .sl 0 N 0 N), (13, .int .i64 N), (14, .int .i64 s.1)])
    (fun s => [(0, .row false N false 1 N (lR s.2.2))]) (0, r, limbs m) ⟨by simp, hr, rfl, hl, rfl, by simp [val]⟩ ?_ ?_ ?_ ?_
  · simp (maxSteps := 3000000) (disch := first | exact trivial | assumption | omega | exact rOk | exact rCl | exact rNo) only [go_sem, seval]
  · simp (maxSteps := 3000000) (disch := first | exact trivial | assumption | omega | exact rOk | exact rCl | exact rNo) only [go_sem, seval]
    try exact fun _ _ => trivial
  · intro x _; simp (maxSteps := 3000000) (disch := first | exact trivial | assumption | omega | exact rOk | exact rCl | exact rNo) only [go_sem, seval]
  rintro ⟨i, c, w⟩ hP
  have hc := hP.2.1
  have hwl := hP.2.2.1
  have hi0 := hP.1
  simp only at hc hwl hi0
  rw [hN] at hwl hi0
  by_cases hi : i = N
  · subst hi
    have hP' := hP
    rw [← hN] at hP'
    obtain ⟨f1, f2⟩ := hP'.fin hq0
    clear hP hP'
    by_cases h0 : c = 0
    · have e := f1 h0
      rw [e, hwl]
      simp (maxSteps := 3000000) (disch := first | exact trivial | assumption | omega | exact rOk | exact rCl | exact rNo) only [go_sem, seval]
      try exact fun _ _ => trivial
    · have e := f2 (by omega)
      have ew : IntKind.u32.wrap (c : Int) = (c : Int) := wrap_u32 (by omega)
      rw [e, List.length_append, List.length_singleton, hwl]
      simp (maxSteps := 3000000) (disch := first | exact trivial | assumption | omega | exact rOk | exact rCl | exact rNo) only [go_sem, seval, ew]
      refine ⟨.inl trivial, .inr trivial, by omega, by omega, ?_⟩
      try exact fun j hj => Le.of_eq (lR_snoc hwl hj)
  · obtain ⟨g1, g2, g3, g4⟩ := hP.next hl hq (by omega)
    clear hP
    have e1 : IntKind.u32.wrap ((c : Int) + ((limbs m).getD i 0 : Nat) * (q : Int)) = (((c + (limbs m).getD i 0 * q) % 4294967296 : Nat) : Int) := by
      rw [wrap_u32', ← Int.natCast_mul]; generalize (limbs m).getD i 0 * q = p; omega
    have e2 : ((c : Int) + ((limbs m).getD i 0 : Nat) * (q : Int)) / 4294967296 = (((c + (limbs m).getD i 0 * q) / 4294967296 : Nat) : Int) := by
      rw [← Int.natCast_mul]; generalize (limbs m).getD i 0 * q = p; omega
    have e3 : IntKind.u64.wrap (((limbs m).getD i 0 : Nat) * (q : Int)) = ((limbs m).getD i 0 : Nat) * (q : Int) := by
      rw [← Int.natCast_mul]; exact wrap_u64 (by omega)
    have e4 : IntKind.u64.wrap ((c : Int) + ((limbs m).getD i 0 : Nat) * (q : Int)) = (c : Int) + ((limbs m).getD i 0 : Nat) * (q : Int) := by
      rw [← Int.natCast_mul]; exact wrap_u64 (by omega)
    have hlt := hl.getD i
    generalize hx : (limbs m).getD i 0 = x at *
    simp (maxSteps := 3000000) (disch := first | exact trivial | assumption | omega | exact rOk | exact rCl | exact rNo) only [go_sem, seval, lR, g1, hx, e1, e2, e3, e4]
    refine ⟨_, g4, by show N - (i + 1) < N - i; omega, ?_, ?_⟩
    · simp (maxSteps := 3000000) (disch := first | exact trivial | assumption | omega | exact rOk | exact rCl | exact rNo) only [go_sem, seval]
      try exact LeV.of_eq (by rw [Int.natCast_succ])
    · simp (maxSteps := 3000000) (disch := first | exact trivial | assumption | omega | exact rOk | exact rCl | exact rNo) only [go_sem, seval]
      try exact fun j hj => Le.of_eq (lR_set' (by omega))
end Go.Proofs.YtmcinfbckdiaoaaGreatDoor.Lv
