/- The feed does what the document's does: the plain law, next. -/
import Derived.Test.YtpobbfhdkbnpmaaDoorHH
set_option linter.unusedVariables false
set_option linter.unusedSimpArgs false
set_option maxRecDepth 100000
set_option maxHeartbeats 200000
namespace Go.Proofs.YtpobbfhdkbnpmaaDoor.Lv
open Go Go.RowKit

theorem segGet_dig (b : List UInt8) (a : Int) (p : List UInt8) (most : Int) (h : (segGet b a p most).2.2.2 = 0) : (segGet b a p most).2.2.1.length = 32 := by
  unfold segGet at h ⊢
  generalize vget b a = x at *
  obtain ⟨n, e, c⟩ := x
  simp only at h ⊢
  by_cases h1 : c ≠ 0
  · rw [if_pos h1] at h; exact absurd h h1
  rw [if_neg h1] at h ⊢
  by_cases h2 : n = 0
  · rw [if_pos h2] at h; cases h
  rw [if_neg h2] at h ⊢
  by_cases h3 : most < (n : Int)
  · rw [if_pos h3] at h; cases h
  rw [if_neg h3] at h ⊢
  by_cases h4 : b.length < e + n + 32
  · rw [if_pos h4] at h; cases h
  rw [if_neg h4] at h ⊢
  generalize (b.take (e + n)).drop e = body at *
  by_cases h5 : (b.take (e + n + 32)).drop (e + n) ≠ segDig p body
  · rw [if_pos h5] at h; cases h
  rw [if_neg h5]
  exact segDig_len _ _
theorem Tie.next {m : Md} {f : Fd} (h : Tie m f) : Tie m.next f.next ∧ f.got = m.got ∧ f.body = m.body ∧ f.from_ = m.from_ := by
  obtain ⟨most, b, at_, begun, last, prev, code, wh⟩ := f
  obtain ⟨mb, mprev, mat, mmost, e, mwh, mlast⟩ := m
  obtain ⟨h1, h2, h3, h4, h5, h6, h7, h8, h9, h10⟩ := h
  simp only at h1 h2 h3 h4 h5 h6 h7 h8 h9 h10
  subst h1 h2 h3 h4
  have fin : ∀ {M : Md} {F F' : Fd}, F.got = false → M.got = false → F.got = M.got ∧ F.body = M.body ∧ F.from_ = M.from_ := fun {M F F'} hF hM => by
    refine ⟨hF.trans hM.symm, ?_, ?_⟩
    · unfold Fd.body Md.body; rw [hF, hM, if_neg (by simp), if_neg (by simp)]
    · unfold Fd.from_ Md.from_; rw [hF, hM, if_neg (by simp), if_neg (by simp)]
  by_cases he : code = 0
  case neg =>
    have e1 : Md.next ⟨mb, mprev, at_, most, code, wh, mlast⟩ = ⟨mb, mprev, at_, most, code, wh, mlast⟩ := by unfold Md.next; rw [if_pos (.inl he)]
    have e2 : Fd.next ⟨most, b, at_, begun, last, prev, code, wh⟩ = ⟨most, b, at_, begun, last, prev, code, wh⟩ := by unfold Fd.next; rw [if_pos he]
    rw [e1, e2]
    refine ⟨⟨rfl, rfl, rfl, rfl, h5, h6, h7, h8, h9, h10⟩, fin (F' := ⟨0, [], 0, false, false, [], 0, 0⟩) ?_ ?_⟩
    · unfold Fd.got; simp [he]
    · unfold Md.got; simp [he]
  subst he
  obtain ⟨rfl, rfl, rfl, rfl, hb⟩ := h8 rfl
  have hnil := @segGet_nil prev most
  cases last with
  | true =>
    have hd := hb rfl
    have e1 : Md.next ⟨mb, prev, at_, most, 0, 0, true⟩ = ⟨mb, prev, at_, most, 0, 0, true⟩ := by unfold Md.next; rw [if_pos (.inr rfl)]
    have e2 : Fd.next ⟨most, mb.drop at_, at_, begun, true, prev, 0, 0⟩ = ⟨most, mb.drop at_, at_, begun, true, prev, 0, 0⟩ := by
      unfold Fd.next
      simp only [hd, hnil]
      cases begun <;> simp
    rw [e1, e2]
    refine ⟨⟨rfl, rfl, rfl, rfl, h5, h6, h7, h8, h9, h10⟩, fin (F' := ⟨0, [], 0, false, false, [], 0, 0⟩) ?_ ?_⟩
    · unfold Fd.got; simp only [hd, hnil]; cases begun <;> rfl
    · unfold Md.got; simp
  | false =>
  cases begun with
  | false =>
    obtain ⟨rfl, g2⟩ := h9 rfl rfl
    rw [List.drop_zero] at *
    cases hdif : Md.dif ⟨mb, prev, 0, most, 0, 0, false⟩ with
    | true =>
      have hne : mb.take (min mb.length 4) ≠ magic.take (min mb.length 4) := by
        unfold Md.dif at hdif
        simpa using hdif
      have e1 : Md.next ⟨mb, prev, 0, most, 0, 0, false⟩ = ⟨mb, prev, 0, most, 5, 0, false⟩ := by
        unfold Md.next; rw [if_neg (by simp), hdif, if_pos rfl]
      have e2 : Fd.next ⟨most, mb, 0, false, false, prev, 0, 0⟩ = ⟨most, [], 0, false, false, prev, 5, 0⟩ := by
        unfold Fd.next Fd.fail; rw [if_neg (by simp), if_pos rfl, if_pos hne]
      rw [e1, e2]
      refine ⟨⟨rfl, rfl, rfl, rfl, Nat.zero_le _, fun _ => rfl, h7, fun h => (by simp at h), fun h => (by simp at h), fun h => (by simp at h)⟩, fin (F' := ⟨0, [], 0, false, false, [], 0, 0⟩) ?_ ?_⟩
      · unfold Fd.got; simp
      · unfold Md.got; rw [hdif]; simp
    | false =>
      have hne : mb.take (min mb.length 4) = magic.take (min mb.length 4) := by
        unfold Md.dif at hdif
        simpa using hdif
      have e1 : Md.next ⟨mb, prev, 0, most, 0, 0, false⟩ = ⟨mb, prev, 0, most, 0, 0, false⟩ := by
        unfold Md.next; rw [if_neg (by simp), hdif, if_neg (by simp), if_pos rfl]
      have e2 : Fd.next ⟨most, mb, 0, false, false, prev, 0, 0⟩ = ⟨most, mb, 0, false, false, prev, 0, 0⟩ := by
        unfold Fd.next; rw [if_neg (by simp), if_pos rfl, if_neg (by simp [hne])]
      rw [e1, e2]
      refine ⟨⟨rfl, rfl, rfl, rfl, Nat.zero_le _, fun h => (by simp at h), h7, h8, h9, h10⟩, fin (F' := ⟨0, [], 0, false, false, [], 0, 0⟩) ?_ ?_⟩
      · unfold Fd.got; simp
      · unfold Md.got; simp
  | true =>
    obtain ⟨g1, g2, g3⟩ := h10 rfl rfl
    have hdif : Md.dif ⟨mb, prev, at_, most, 0, 0, false⟩ = false := by
      unfold Md.dif
      simp only
      rw [show min mb.length 4 = 4 by omega, g2]
      rfl
    have hs := segGet_shift mb at_ h5 prev most
    have hdg := segGet_dig (mb.drop at_) 0 prev most
    have hen := (segGet_end mb at_ prev most).1
    generalize hx : segGet (mb.drop at_) 0 prev most = x at *
    obtain ⟨body, en, d, c⟩ := x
    simp only at hs hdg
    have hgot : Fd.got ⟨most, mb.drop at_, at_, true, false, prev, 0, 0⟩ = (c == 0) := by unfold Fd.got; simp only [hx]; simp
    have hgot2 : Md.got ⟨mb, prev, at_, most, 0, 0, false⟩ = (c == 0) := by unfold Md.got; rw [hdif]; simp only [hs]; simp [g1]
    by_cases h4 : c = 4
    · subst h4
      have e1 : Md.next ⟨mb, prev, at_, most, 0, 0, false⟩ = ⟨mb, prev, at_, most, 0, 0, false⟩ := by
        unfold Md.next; rw [if_neg (by simp), hdif, if_neg (by simp), if_neg g1]; simp only [hs, if_true]
      have e2 : Fd.next ⟨most, mb.drop at_, at_, true, false, prev, 0, 0⟩ = ⟨most, mb.drop at_, at_, true, false, prev, 0, 0⟩ := by
        unfold Fd.next; rw [if_neg (by simp), if_neg (by simp)]; simp only [hx, if_true]
      rw [e1, e2]
      exact ⟨⟨rfl, rfl, rfl, rfl, h5, h6, h7, h8, h9, h10⟩, fin (F' := ⟨0, [], 0, false, false, [], 0, 0⟩) hgot hgot2⟩
    by_cases h0 : c = 0
    case neg =>
      have e1 : Md.next ⟨mb, prev, at_, most, 0, 0, false⟩ = ⟨mb, prev, at_, most, c, at_, false⟩ := by
        unfold Md.next; rw [if_neg (by simp), hdif, if_neg (by simp), if_neg g1]; simp only [hs]; rw [if_neg h4, if_pos h0]
      have e2 : Fd.next ⟨most, mb.drop at_, at_, true, false, prev, 0, 0⟩ = ⟨most, [], at_, true, false, prev, c, at_⟩ := by
        unfold Fd.next Fd.fail; rw [if_neg (by simp), if_neg (by simp)]; simp only [hx]; rw [if_neg h4, if_pos h0]
      rw [e1, e2]
      have hc0 : (c == 0) = false := by simp [h0]
      exact ⟨⟨rfl, rfl, rfl, rfl, h5, fun _ => rfl, h7, fun h => absurd h h0, fun h => absurd h h0, fun h => absurd h h0⟩, fin (F' := ⟨0, [], 0, false, false, [], 0, 0⟩) (hgot.trans hc0) (hgot2.trans hc0)⟩
    subst h0
    rw [if_pos rfl] at hs
    rw [hs] at hen
    simp only at hen
    have e1 : Md.next ⟨mb, prev, at_, most, 0, 0, false⟩ = ⟨mb, d, at_ + en, most, 0, 0, false⟩ := by
      unfold Md.next; rw [if_neg (by simp), hdif, if_neg (by simp), if_neg g1]; simp only [hs]; simp
    have e2 : Fd.next ⟨most, mb.drop at_, at_, true, false, prev, 0, 0⟩ = ⟨most, mb.drop (at_ + en), at_ + en, true, false, d, 0, 0⟩ := by
      unfold Fd.next; rw [if_neg (by simp), if_neg (by simp)]; simp only [hx]; simp
    have hbody : Fd.body ⟨most, mb.drop at_, at_, true, false, prev, 0, 0⟩ = body := by unfold Fd.body; rw [hgot]; simp [hx]
    have hbody2 : Md.body ⟨mb, prev, at_, most, 0, 0, false⟩ = body := by unfold Md.body; rw [hgot2]; simp [hs]
    have hfrom : Fd.from_ ⟨most, mb.drop at_, at_, true, false, prev, 0, 0⟩ = at_ := by unfold Fd.from_; rw [hgot]; simp
    have hfrom2 : Md.from_ ⟨mb, prev, at_, most, 0, 0, false⟩ = at_ := by unfold Md.from_; rw [hgot2]; simp
    rw [e1, e2]
    refine ⟨⟨rfl, rfl, rfl, rfl, hen, fun h => (by simp at h), ⟨hdg rfl, hdg rfl⟩, fun _ => ⟨rfl, rfl, rfl, rfl, fun h => (by cases h)⟩, fun _ h => (by cases h), fun _ _ => ⟨by simp only; omega, g2, g3⟩⟩, hgot.trans hgot2.symm, hbody.trans hbody2.symm, hfrom.trans hfrom2.symm⟩
theorem Tie.new (most : Int) : Tie ⟨[], sha magic, 0, most, 0, 0, false⟩ (Fd.new most) :=
  ⟨rfl, rfl, rfl, rfl, Nat.le_refl _, fun h => (by simp at h), ⟨sha_length _, sha_length _⟩, fun _ => ⟨rfl, rfl, rfl, rfl, fun h => (by cases h)⟩, fun _ _ => ⟨rfl, rfl⟩, fun _ h => (by cases h)⟩
end Go.Proofs.YtpobbfhdkbnpmaaDoor.Lv
