/- The feed does what the document's does: the plain law. -/
import Derived.Test.YtpobbfhdkbnpmaaDoorHG
import Derived.Test.YtpobbfhdkbnpmaaDoorHD
set_option linter.unusedVariables false
set_option linter.unusedSimpArgs false
set_option maxRecDepth 100000
set_option maxHeartbeats 1000000
namespace Go.Proofs.YtpobbfhdkbnpmaaDoor.Lv
open Go Go.RowKit

theorem take_drop_shift (b : List UInt8) (k a c : Nat) : (b.take (k + c)).drop (k + a) = ((b.drop k).take c).drop a := by
  rw [List.take_drop, List.drop_drop]
theorem segGet_shift (b : List UInt8) (k : Nat) (hk : k ≤ b.length) (p : List UInt8) (most : Int) : segGet b (k : Int) p most = ((segGet (b.drop k) 0 p most).1, (if (segGet (b.drop k) 0 p most).2.2.2 = 0 then k + (segGet (b.drop k) 0 p most).2.1 else (segGet (b.drop k) 0 p most).2.1), (segGet (b.drop k) 0 p most).2.2.1, (segGet (b.drop k) 0 p most).2.2.2) := by
  have hs := vget_shift b k hk
  have hl : (b.drop k).length = b.length - k := by simp
  unfold segGet
  rw [hs, hl]
  generalize vget (b.drop k) 0 = x
  obtain ⟨n, e, c⟩ := x
  simp only
  by_cases hc : c = 0
  case neg => simp [hc]
  subst hc
  simp only [ne_eq, not_true_eq_false, if_false, if_true]
  by_cases hn : n = 0
  · simp [hn]
  simp only [hn, if_false]
  by_cases hm : most < (n : Int)
  · simp [hm]
  simp only [hm, if_false]
  by_cases hlen : b.length < k + e + n + 32
  · rw [if_pos hlen]
    have : b.length - k < e + n + 32 := by omega
    simp [this]
  have hlen' : ¬ b.length - k < e + n + 32 := by omega
  simp only [hlen, hlen', if_false]
  have e1 := take_drop_shift b k (e + n) (e + n + 32)
  have e2 := take_drop_shift b k e (e + n)
  simp only [← Nat.add_assoc] at e1 e2
  rw [e1, e2]
  by_cases hd : ((b.drop k).take (e + n + 32)).drop (e + n) = segDig p (((b.drop k).take (e + n)).drop e)
  · simp only [hd, ne_eq, not_true_eq_false, if_false, if_true]
    simp [Nat.add_assoc]
  · simp only [hd, ne_eq, not_false_eq_true, if_true]; rfl
/-- They are as one. -/
structure Tie (m : Md) (f : Fd) : Prop where
  most : f.most = m.most
  code : f.code = m.e
  wh : f.wh = m.wh
  at_ : f.at_ = m.at_
  le : m.at_ ≤ m.b.length
  dead : m.e ≠ 0 → f.b = []
  prev : f.prev.length = 32 ∧ m.prev.length = 32
  live : m.e = 0 → f.b = m.b.drop m.at_ ∧ f.prev = m.prev ∧ m.wh = 0 ∧ f.last = m.last ∧ (m.last = true → f.b = [])
  st : m.e = 0 → f.begun = false → m.at_ = 0 ∧ pre magic m.b = false
  go : m.e = 0 → f.begun = true → m.at_ ≠ 0 ∧ m.b.take 4 = magic ∧ 4 ≤ m.b.length
theorem pre_nil_app {b : List UInt8} (h : pre magic b = true) : b.take 4 = magic ∧ 4 ≤ b.length := by
  simp only [pre, Bool.and_eq_true, decide_eq_true_eq, beq_iff_eq] at h
  exact ⟨h.2, h.1⟩
theorem md_magic_no (m : Md) (h : m.at_ ≠ 0 ∨ pre Lv.magic m.b = false) : m.magic = m := by
  unfold Md.magic
  rw [if_neg]
  rintro ⟨h1, h2⟩
  rcases h with h | h
  · exact h h1
  · rw [h] at h2; cases h2
theorem md_tail_no (m : Md) (h : m.last = false ∨ m.b.length ≤ m.at_) : m.tail = m := by
  unfold Md.tail
  rw [if_neg]
  rintro ⟨h1, h2, h3⟩
  rcases h with h | h
  · rw [h] at h1; cases h1
  · omega
theorem md_magic_yes (m : Md) (h : m.at_ = 0) (h' : pre Lv.magic m.b = true) : m.magic = { m with at_ := 4 } := by
  unfold Md.magic
  rw [if_pos ⟨h, h'⟩]
theorem md_tail_yes (m : Md) (h : m.last = true) (h1 : m.e = 0) (h2 : m.at_ < m.b.length) : m.tail = { m with e := 11, wh := m.at_ } := by
  unfold Md.tail
  rw [if_pos ⟨h, h1, h2⟩]
theorem Tie.push {m : Md} {f : Fd} (h : Tie m f) (s : List UInt8) : Tie (m.push s) (f.push s) := by
  obtain ⟨most, b, at_, begun, last, prev, code, wh⟩ := f
  obtain ⟨mb, mprev, mat, mmost, e, mwh, mlast⟩ := m
  obtain ⟨h1, h2, h3, h4, h5, h6, h7, h8, h9, h10⟩ := h
  simp only at h1 h2 h3 h4 h5 h6 h7 h8 h9 h10
  subst h1 h2 h3 h4
  by_cases he : code = 0
  case neg =>
    have e1 : Md.push s ⟨mb, mprev, at_, most, code, wh, mlast⟩ = ⟨mb, mprev, at_, most, code, wh, mlast⟩ := by unfold Md.push; rw [if_neg he]
    have e2 : Fd.push s ⟨most, b, at_, begun, last, prev, code, wh⟩ = ⟨most, b, at_, begun, last, prev, code, wh⟩ := by unfold Fd.push; rw [if_pos he]
    rw [e1, e2]
    exact ⟨rfl, rfl, rfl, rfl, h5, h6, h7, h8, h9, h10⟩
  subst he
  obtain ⟨rfl, rfl, rfl, rfl, hb⟩ := h8 rfl
  have h9' := h9 rfl
  have h10' := h10 rfl
  by_cases hs : s = []
  · subst hs
    have e2 : Fd.push [] ⟨most, mb.drop at_, at_, begun, last, prev, 0, 0⟩ = ⟨most, mb.drop at_, at_, begun, last, prev, 0, 0⟩ := by
      unfold Fd.push; rw [if_neg (by simp), if_pos rfl]
    have e1 : Md.push [] ⟨mb, prev, at_, most, 0, 0, last⟩ = ⟨mb, prev, at_, most, 0, 0, last⟩ := by
      unfold Md.push
      rw [if_pos rfl]
      cases last with
      | true =>
        have := congrArg List.length (hb rfl)
        rw [List.length_drop, List.length_nil] at this
        rw [if_pos rfl, List.append_nil]
        exact md_tail_no _ (.inr (by simp only; omega))
      | false =>
        rw [if_neg (by simp), List.append_nil]
        cases begun with
        | false =>
          obtain ⟨g1, g2⟩ := h9' rfl
          rw [md_magic_no _ (.inr g2)]
          exact md_tail_no _ (.inl rfl)
        | true =>
          obtain ⟨g1, g2⟩ := h10' rfl
          rw [md_magic_no _ (.inl g1)]
          exact md_tail_no _ (.inl rfl)
    rw [e1, e2]
    exact ⟨rfl, rfl, rfl, rfl, h5, h6, h7, h8, h9, h10⟩
  have hsl : 0 < s.length := List.length_pos_iff.2 hs
  have hdr : (mb ++ s).drop at_ = mb.drop at_ ++ s := List.drop_append_of_le_length h5
  cases last with
  | true =>
    have e1 : Md.push s ⟨mb, prev, at_, most, 0, 0, true⟩ = ⟨mb ++ s, prev, at_, most, 11, at_, true⟩ := by
      unfold Md.push
      rw [if_pos rfl, if_pos rfl]
      exact md_tail_yes _ rfl rfl (by simp only [List.length_append]; omega)
    have e2 : Fd.push s ⟨most, mb.drop at_, at_, begun, true, prev, 0, 0⟩ = ⟨most, [], at_, begun, true, prev, 11, at_⟩ := by
      unfold Fd.push Fd.fail; rw [if_neg (by simp), if_neg hs, if_pos rfl]
    rw [e1, e2]
    exact ⟨rfl, rfl, rfl, rfl, by simp only [List.length_append]; omega, fun _ => rfl, h7, fun h => (by simp at h), fun h => (by simp at h), fun h => (by simp at h)⟩
  | false =>
    cases begun with
    | true =>
      obtain ⟨g1, g2, g3⟩ := h10' rfl
      have e1 : Md.push s ⟨mb, prev, at_, most, 0, 0, false⟩ = ⟨mb ++ s, prev, at_, most, 0, 0, false⟩ := by
        unfold Md.push
        rw [if_pos rfl, if_neg (by simp), md_magic_no _ (.inl g1)]
        exact md_tail_no _ (.inl rfl)
      have e2 : Fd.push s ⟨most, mb.drop at_, at_, true, false, prev, 0, 0⟩ = ⟨most, mb.drop at_ ++ s, at_, true, false, prev, 0, 0⟩ := by
        unfold Fd.push; rw [if_neg (by simp), if_neg hs, if_neg (by simp), if_neg (by simp)]
      rw [e1, e2]
      exact ⟨rfl, rfl, rfl, rfl, by simp only [List.length_append]; omega, fun h => (by simp at h), h7, fun _ => ⟨hdr.symm, rfl, rfl, rfl, fun h => (by cases h)⟩, fun _ h => (by cases h),
        fun _ _ => ⟨g1, by simp only; rw [List.take_append_of_le_length g3, g2], by simp only [List.length_append]; omega⟩⟩
    | false =>
      obtain ⟨rfl, g2⟩ := h9' rfl
      rw [List.drop_zero] at *
      cases hp : pre magic (mb ++ s) with
      | true =>
        obtain ⟨g3, g4⟩ := pre_nil_app hp
        have e1 : Md.push s ⟨mb, prev, 0, most, 0, 0, false⟩ = ⟨mb ++ s, prev, 4, most, 0, 0, false⟩ := by
          unfold Md.push
          rw [if_pos rfl, if_neg (by simp), md_magic_yes _ rfl hp]
          exact md_tail_no _ (.inl rfl)
        have e2 : Fd.push s ⟨most, mb, 0, false, false, prev, 0, 0⟩ = ⟨most, (mb ++ s).drop 4, 4, true, false, prev, 0, 0⟩ := by
          unfold Fd.push; rw [if_neg (by simp), if_neg hs, if_neg (by simp), if_pos ⟨rfl, hp⟩]
        rw [e1, e2]
        exact ⟨rfl, rfl, rfl, rfl, g4, fun h => (by simp at h), h7, fun _ => ⟨rfl, rfl, rfl, rfl, fun h => (by cases h)⟩, fun _ h => (by cases h), fun _ _ => ⟨by simp, g3, g4⟩⟩
      | false =>
        have e1 : Md.push s ⟨mb, prev, 0, most, 0, 0, false⟩ = ⟨mb ++ s, prev, 0, most, 0, 0, false⟩ := by
          unfold Md.push
          rw [if_pos rfl, if_neg (by simp), md_magic_no _ (.inr hp)]
          exact md_tail_no _ (.inl rfl)
        have e2 : Fd.push s ⟨most, mb, 0, false, false, prev, 0, 0⟩ = ⟨most, mb ++ s, 0, false, false, prev, 0, 0⟩ := by
          unfold Fd.push; rw [if_neg (by simp), if_neg hs, if_neg (by simp), if_neg (by simp [hp])]
        rw [e1, e2]
        exact ⟨rfl, rfl, rfl, rfl, Nat.zero_le _, fun h => (by simp at h), h7, fun _ => ⟨rfl, rfl, rfl, rfl, fun h => (by cases h)⟩, fun _ _ => ⟨rfl, hp⟩, fun _ h => (by cases h)⟩
theorem Tie.held {m : Md} {f : Fd} (h : Tie m f) : f.b.length = m.held := by
  unfold Md.held
  by_cases he : m.e = 0
  · obtain ⟨h1, h2, h3, h4, h5⟩ := h.live he
    cases hl : m.last with
    | true => rw [if_pos (.inr rfl), h5 hl]; rfl
    | false => rw [if_neg (by simp [he]), h1, List.length_drop]
  · rw [if_pos (.inl he), h.dead he]; rfl
theorem Tie.last {m : Md} {f : Fd} (h : Tie m f) : Tie ({ m with last := true } : Md).tail f.end_ := by
  obtain ⟨most, b, at_, begun, last, prev, code, wh⟩ := f
  obtain ⟨mb, mprev, mat, mmost, e, mwh, mlast⟩ := m
  obtain ⟨h1, h2, h3, h4, h5, h6, h7, h8, h9, h10⟩ := h
  simp only at h1 h2 h3 h4 h5 h6 h7 h8 h9 h10
  subst h1 h2 h3 h4
  by_cases he : code = 0
  case neg =>
    have e1 : Md.tail ⟨mb, mprev, at_, most, code, wh, true⟩ = ⟨mb, mprev, at_, most, code, wh, true⟩ := by unfold Md.tail; rw [if_neg (fun h => he h.2.1)]
    have e2 : Fd.end_ ⟨most, b, at_, begun, last, prev, code, wh⟩ = ⟨most, b, at_, begun, last, prev, code, wh⟩ := by unfold Fd.end_; rw [if_pos he]
    rw [e1, e2]
    exact ⟨rfl, rfl, rfl, rfl, h5, h6, h7, fun h => absurd h he, fun h => absurd h he, fun h => absurd h he⟩
  subst he
  obtain ⟨rfl, rfl, rfl, rfl, hb⟩ := h8 rfl
  by_cases hd : mb.drop at_ = []
  · have hle : mb.length ≤ at_ := by
      have := congrArg List.length hd
      rw [List.length_drop, List.length_nil] at this; omega
    have e1 : Md.tail ⟨mb, prev, at_, most, 0, 0, true⟩ = ⟨mb, prev, at_, most, 0, 0, true⟩ := md_tail_no _ (.inr hle)
    have e2 : Fd.end_ ⟨most, mb.drop at_, at_, begun, last, prev, 0, 0⟩ = ⟨most, mb.drop at_, at_, begun, true, prev, 0, 0⟩ := by
      unfold Fd.end_; rw [if_neg (by simp), if_neg (by simp only; rw [hd]; simp)]
    rw [e1, e2]
    exact ⟨rfl, rfl, rfl, rfl, h5, h6, h7, fun _ => ⟨rfl, rfl, rfl, rfl, fun _ => hd⟩, h9, h10⟩
  · have hlt : at_ < mb.length := by
      rcases Nat.lt_or_ge at_ mb.length with h | h
      · exact h
      · exact absurd (List.drop_of_length_le h) hd
    have e1 : Md.tail ⟨mb, prev, at_, most, 0, 0, true⟩ = ⟨mb, prev, at_, most, 11, at_, true⟩ := md_tail_yes _ rfl rfl hlt
    have e2 : Fd.end_ ⟨most, mb.drop at_, at_, begun, last, prev, 0, 0⟩ = ⟨most, [], at_, begun, true, prev, 11, at_⟩ := by
      unfold Fd.end_ Fd.fail; rw [if_neg (by simp), if_pos hd]
    rw [e1, e2]
    exact ⟨rfl, rfl, rfl, rfl, h5, fun _ => rfl, h7, fun h => (by simp at h), fun h => (by simp at h), fun h => (by simp at h)⟩
end Go.Proofs.YtpobbfhdkbnpmaaDoor.Lv
