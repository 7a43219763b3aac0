/- Law 22: FeedPlays. -/
import Derived.Test.YtpobbfhdkbnpmaaDoorHI
import Derived.Test.YtpobbfhdkbnpmaaDoorHEa
set_option linter.unusedVariables false
set_option linter.unusedSimpArgs false
set_option maxRecDepth 100000
set_option maxHeartbeats 40000000
namespace Go.Proofs.YtpobbfhdkbnpmaaDoor.Lv
open Go Go.RowKit

structure PAct where
  kind : Int
  n : Int
  b : List UInt8
def PAct.D (a : PAct) : D := .agg [.int .i64 a.kind, .int .i64 a.n, .str a.b]
def aR (l : List PAct) : Nat → D := fun i => (l.getD i ⟨0, 0, []⟩).D
/-- One thing done, of the stream so much being left. -/
theorem u8_wrap (n : Int) : ∃ c : UInt8, IntKind.u8.wrap n = (c.toNat : Int) := by
  refine ⟨UInt8.ofNat (n % 256).toNat, ?_⟩
  rw [wrap_u8', UInt8.toNat_ofNat']
  omega
theorem u8_bits (op : BinOp) (a b : Int) : ∃ c : UInt8, bits .u8 op a b = (c.toNat : Int) := u8_wrap _
theorem md_tail_same (m : Md) : m.tail.b = m.b ∧ m.tail.most = m.most := by
  unfold Md.tail; split <;> exact ⟨rfl, rfl⟩
theorem md_magic_same (m : Md) : m.magic.b = m.b ∧ m.magic.most = m.most := by
  unfold Md.magic; split <;> exact ⟨rfl, rfl⟩
theorem md_push_same (m : Md) (s : List UInt8) : (m.push s).b.length ≤ m.b.length + s.length ∧ (m.push s).most = m.most := by
  unfold Md.push
  split
  · split
    · obtain ⟨h1, h2⟩ := md_tail_same { m with b := m.b ++ s }
      rw [h1, h2]
      exact ⟨by simp only [List.length_append]; omega, rfl⟩
    · obtain ⟨h1, h2⟩ := md_tail_same ({ m with b := m.b ++ s } : Md).magic
      obtain ⟨h3, h4⟩ := md_magic_same { m with b := m.b ++ s }
      rw [h1, h2, h3, h4]
      exact ⟨by simp only [List.length_append]; omega, rfl⟩
  · exact ⟨by omega, rfl⟩
theorem md_next_same (m : Md) : m.next.b = m.b ∧ m.next.most = m.most := by
  unfold Md.next
  by_cases h1 : m.e ≠ 0 ∨ m.last = true
  · rw [if_pos h1]; exact ⟨rfl, rfl⟩
  rw [if_neg h1]
  by_cases h2 : m.dif = true
  · rw [if_pos h2]; exact ⟨rfl, rfl⟩
  rw [if_neg h2]
  by_cases h3 : m.at_ = 0
  · rw [if_pos h3]; exact ⟨rfl, rfl⟩
  rw [if_neg h3]
  by_cases h4 : (segGet m.b m.at_ m.prev m.most).2.2.2 = 4
  · rw [if_pos h4]; exact ⟨rfl, rfl⟩
  rw [if_neg h4]
  by_cases h5 : (segGet m.b m.at_ m.prev m.most).2.2.2 ≠ 0
  · rw [if_pos h5]; exact ⟨rfl, rfl⟩
  rw [if_neg h5]; exact ⟨rfl, rfl⟩
theorem wlc_all (h : Hp) : wl.all (one h) = true := by kernel_rfl
theorem Tie.blen {m : Md} {f : Fd} (h : Tie m f) : f.b.length ≤ m.b.length := by
  by_cases he : m.e = 0
  · rw [(h.live he).1, List.length_drop]; omega
  · rw [h.dead he]; simp
theorem aR_getD (l : List PAct) (i : Nat) : aR l i = .agg [.int .i64 (l.getD i ⟨0, 0, []⟩).kind, .int .i64 (l.getD i ⟨0, 0, []⟩).n, .str (l.getD i ⟨0, 0, []⟩).b] := rfl
theorem law_FeedPlays (l : List (List UInt8)) (at_ : Int) (by_ : UInt8) (most : Int) (acts : List PAct) (hat : I64 at_) (hmo : I64 most) (hac : ∀ a ∈ acts, I64 a.kind ∧ I64 a.n) :
    C E 10 [.ro false 1 l.length (tR l), .int .i64 at_, .int .u8 (by_.toNat : Int), .int .i64 most, .ro true 3 acts.length (aR acts)] (.bool true) := by
  refine CG_intro Tryd.func10 rfl (by kernel_rfl) rfl (by kernel_rfl) (by kernel_rfl) rfl ?_
  simp (maxSteps := 3000000) (disch := first | exact trivial | assumption | omega | exact RegOk.mk (by decide +kernel) | exact RegCl.mk (by decide +kernel) | exact RegNo.mk (by kernel_rfl)) only [go_sem, seval]
  refine callC law22_alive (LesV.refl _) rfl ?_
  by_cases h1 : 8 < l.length
  · simp (maxSteps := 3000000) (disch := first | exact trivial | assumption | omega | exact RegOk.mk (by decide +kernel) | exact RegCl.mk (by decide +kernel) | exact RegNo.mk (by kernel_rfl)) only [go_sem, seval]
  by_cases h2 : 60 < acts.length
  · simp (maxSteps := 3000000) (disch := first | exact trivial | assumption | omega | exact RegOk.mk (by decide +kernel) | exact RegCl.mk (by decide +kernel) | exact RegNo.mk (by kernel_rfl)) only [go_sem, seval]
  simp (maxSteps := 3000000) (disch := first | exact trivial | assumption | omega | exact RegOk.mk (by decide +kernel) | exact RegCl.mk (by decide +kernel) | exact RegNo.mk (by kernel_rfl)) only [go_sem, seval]
  refine AL.of (fun k : Nat => k ≤ l.length ∧ ∀ i, i < k → (l.getD i []).length ≤ 150) (fun k => l.length - k) (fun k => [(0, .ro false 1 l.length (tR l)), (1, .int .i64 at_), (2, .int .u8 (by_.toNat : Int)), (3, .int .i64 most), (4, .ro true 3 acts.length (aR acts)), (11, .int .i64 k)])
    (fun _ => []) 0 ⟨by omega, fun i hi => by omega⟩ ?_ ?_ ?_ ?_
  · simp (maxSteps := 3000000) (disch := first | exact trivial | assumption | omega | exact RegOk.mk (by decide +kernel) | exact RegCl.mk (by decide +kernel) | exact RegNo.mk (by kernel_rfl)) only [go_sem, seval]
  · trivial
  · intro x _; simp (maxSteps := 3000000) (disch := first | exact trivial | assumption | omega | exact RegOk.mk (by decide +kernel) | exact RegCl.mk (by decide +kernel) | exact RegNo.mk (by kernel_rfl)) only [go_sem, seval]
  rintro k ⟨hk, hall⟩
  by_cases hkl : k = l.length
  case neg =>
    by_cases h3 : 150 < (l.getD k []).length
    · simp (maxSteps := 3000000) (disch := first | exact trivial | assumption | omega | exact RegOk.mk (by decide +kernel) | exact RegCl.mk (by decide +kernel) | exact RegNo.mk (by kernel_rfl)) only [go_sem, seval, tR_getD]
    simp (maxSteps := 3000000) (disch := first | exact trivial | assumption | omega | exact RegOk.mk (by decide +kernel) | exact RegCl.mk (by decide +kernel) | exact RegNo.mk (by kernel_rfl)) only [go_sem, seval, tR_getD]
    refine ⟨k + 1, ⟨by omega, fun i hi => ?_⟩, by show l.length - (k + 1) < l.length - k; omega, ?_, ?_⟩
    · by_cases hik : i = k
      · subst hik; omega
      · exact hall i (by omega)
    · simp (maxSteps := 3000000) (disch := first | exact trivial | assumption | omega | exact RegOk.mk (by decide +kernel) | exact RegCl.mk (by decide +kernel) | exact RegNo.mk (by kernel_rfl)) only [go_sem, seval]
      exact LeV.of_eq (by rw [Int.natCast_succ])
    · trivial
  subst hkl
  have hsh : ∀ x ∈ l, x.length ≤ 150 := fun x hx => by
    obtain ⟨i, hi, rfl⟩ := List.getElem_of_mem hx
    have := hall i hi
    rw [List.getD_eq_getElem?_getD, List.getElem?_eq_getElem hi] at this
    exact this
  have hsum := seglen_sum l hsh
  simp (maxSteps := 3000000) (disch := first | exact trivial | assumption | omega | exact RegOk.mk (by decide +kernel) | exact RegCl.mk (by decide +kernel) | exact RegNo.mk (by kernel_rfl)) only [go_sem, seval]
  refine callC (law22_Stream l (by omega) hsh) (LesV.refl _) rfl ?_
  have hend := posn_end l (sha magic)
  have hpos := posn_le l l.length
  have hlen4 : 4 ≤ (magic ++ strm l (sha magic)).length := by rw [List.length_append]; show 4 ≤ 4 + _; omega
  generalize hT : magic ++ strm l (sha magic) = T at *
  have hTl : T.length ≤ 1600 := by omega
  simp (maxSteps := 3000000) (disch := first | exact trivial | assumption | omega | exact RegOk.mk (by decide +kernel) | exact RegCl.mk (by decide +kernel) | exact RegNo.mk (by kernel_rfl)) only [go_sem, seval]
  refine ⟨by omega, ?_⟩
  obtain ⟨c, hc, _, hc2⟩ := within_nat at_ 0 (T.length - 1) (by omega)
  refine callC (book_Within at_ 0 ((T.length : Int) - 1) (by omega) (by omega) (by omega) hat) (LesV.refl _) rfl ?_
  rw [show within at_ 0 ((T.length : Int) - 1) = (c : Int) by rw [← hc]; congr 1; omega]
  obtain ⟨v, hv⟩ := u8_bits .xor ((T.getD c 0).toNat : Int) (by_.toNat : Int)
  simp (maxSteps := 3000000) (disch := first | exact trivial | assumption | omega | exact RegOk.mk (by decide +kernel) | exact RegCl.mk (by decide +kernel) | exact RegNo.mk (by kernel_rfl)) only [go_sem, seval, hv]
  rw [bstr_of (l := T.set c v) rfl (by simp) fun i hi => by
    unfold bR
    simp only [List.getD_eq_getElem?_getD, List.getElem?_set]
    by_cases hic : i = c
    · subst hic; simp [hi]
    · rw [if_neg hic, if_neg (fun h => hic h.symm)]]
  have hrl : (T.set c v).length ≤ 1600 := by simp; omega
  generalize T.set c v = R at *
  simp (maxSteps := 3000000) (disch := first | exact trivial | assumption | omega | exact RegOk.mk (by decide +kernel) | exact RegCl.mk (by decide +kernel) | exact RegNo.mk (by kernel_rfl)) only [go_sem, seval]
  refine callC r2_Table (LesV.refl _) cl_words ?_
  simp (maxSteps := 3000000) (disch := first | exact trivial | assumption | omega | exact RegOk.mk (by decide +kernel) | exact RegCl.mk (by decide +kernel) | exact RegNo.mk (by kernel_rfl)) only [go_sem, seval, flat_words]
  refine ⟨by kernel_rfl, ?_⟩
  refine callG [] (feed_New most) rfl rfl ?_ rfl ?_
  · simp (maxSteps := 3000000) (disch := first | exact trivial | assumption | omega | exact RegOk.mk (by decide +kernel) | exact RegCl.mk (by decide +kernel) | exact RegNo.mk (by kernel_rfl)) only [go_sem, seval]
  simp (maxSteps := 3000000) (disch := first | exact trivial | assumption | omega | exact RegOk.mk (by decide +kernel) | exact RegCl.mk (by decide +kernel) | exact RegNo.mk (by kernel_rfl)) only [go_sem, seval, Fd.H, exD_fd]
  refine callCl (r2_Sum magic (by decide)) ?_ rfl ?_
  · simp (maxSteps := 3000000) (disch := first | exact trivial | assumption | omega | exact RegOk.mk (by decide +kernel) | exact RegCl.mk (by decide +kernel) | exact RegNo.mk (by kernel_rfl)) only [go_sem, seval, words_wl, cls_imp nof _ wl cls_wl, magic]
    try exact LesV.refl _
  simp (maxSteps := 3000000) (disch := first | exact trivial | assumption | omega | exact RegOk.mk (by decide +kernel) | exact RegCl.mk (by decide +kernel) | exact RegNo.mk (by kernel_rfl)) only [go_sem, seval, words_wl, wl_len]
  have hnew := Tie.new most
  refine ⟨by rw [List.all_append, wlc_all]; rfl, ?_⟩
  refine AL.of (fun x : Nat × Md × Fd × List UInt8 => x.1 ≤ acts.length ∧ Tie x.2.1 x.2.2.1 ∧ x.2.1.b.length ≤ 100 * x.1 ∧ x.2.2.2.length ≤ 1600 ∧ I64 x.2.1.most) (fun x => acts.length - x.1)
    (fun x => [(4, .ro true 3 acts.length (aR acts)), (13, .str x.2.2.2), (15, .ad 2 0), (16, .ad 3 0), (17, .int .i64 x.1)])
    (fun x => [(3, .var true 79 x.2.1.D), (2, .var true 8 x.2.2.1.D)]) (0, ⟨[], sha magic, 0, most, 0, 0, false⟩, Fd.new most, R) ⟨by omega, hnew, by simp, hrl, hmo⟩ ?_ ?_ ?_ ?_
  · simp (maxSteps := 3000000) (disch := first | exact trivial | assumption | omega | exact RegOk.mk (by decide +kernel) | exact RegCl.mk (by decide +kernel) | exact RegNo.mk (by kernel_rfl)) only [go_sem, seval]
  · simp (maxSteps := 3000000) (disch := first | exact trivial | assumption | omega | exact RegOk.mk (by decide +kernel) | exact RegCl.mk (by decide +kernel) | exact RegNo.mk (by kernel_rfl)) only [go_sem, seval, imp_fd, Md.D, Fd.D]
    try exact LeV.refl _
  · intro x _; simp (maxSteps := 3000000) (disch := first | exact trivial | assumption | omega | exact RegOk.mk (by decide +kernel) | exact RegCl.mk (by decide +kernel) | exact RegNo.mk (by kernel_rfl)) only [go_sem, seval]
  rintro ⟨i, m, f, rest⟩ ⟨hi, hTie, hmb, hrest, hmm⟩
  simp only at hi hTie hmb hrest hmm
  clear hnew hrl hTl hlen4 hpos hend hT hsum hsh hall
  by_cases hil : i = acts.length
  · subst hil
    simp (maxSteps := 3000000) (disch := first | exact trivial | assumption | omega | exact RegOk.mk (by decide +kernel) | exact RegCl.mk (by decide +kernel) | exact RegNo.mk (by kernel_rfl)) only [go_sem, seval]
  have hilt : i < acts.length := by omega
  obtain ⟨hk64, hn64⟩ := hac _ (getD_mem acts i ⟨0, 0, []⟩ hilt)
  have hble := hTie.blen
  have hfat := hTie.at_
  have hle := hTie.le
  have hmost := hTie.most
  have hpl := hTie.prev
  have haR := aR_getD acts i
  generalize hact : acts.getD i ⟨0, 0, []⟩ = a at *
  obtain ⟨ak, an, ab⟩ := a
  simp only at hk64 hn64 haR
  unfold I64 at hk64 hn64 hmm
  by_cases k0 : ak = 0
  · subst k0
    obtain ⟨n, hn, _, hn2⟩ := within_nat an 0 (min rest.length 90) (by omega)
    have hn' : within an 0 (min (rest.length : Int) 90) = (n : Int) := by rw [← hn]; congr 1; omega
    simp (maxSteps := 3000000) (disch := first | exact trivial | assumption | omega | exact RegOk.mk (by decide +kernel) | exact RegCl.mk (by decide +kernel) | exact RegNo.mk (by kernel_rfl)) only [go_sem, seval, haR]
    refine callC (book_Within an 0 (min (rest.length : Int) 90) (by omega) (by omega) (by omega) hn64) ?_ rfl ?_
    · simp (maxSteps := 3000000) (disch := first | exact trivial | assumption | omega | exact RegOk.mk (by decide +kernel) | exact RegCl.mk (by decide +kernel) | exact RegNo.mk (by kernel_rfl)) only [go_sem, seval]
    rw [hn']
    have hd : ∀ l : List UInt8, l = rest → (l.take l.length).drop n = rest.drop n := fun l h => by rw [h, List.take_length]
    have hsl : (rest.take n).length ≤ 90 := by rw [List.length_take]; omega
    obtain ⟨rest', hr'⟩ : ∃ r, r = rest.drop n := ⟨_, rfl⟩
    have hrest' : rest'.length ≤ 1600 := by rw [hr', List.length_drop]; omega
    generalize hs : rest.take n = s at *
    simp (maxSteps := 3000000) (disch := first | exact trivial | assumption | omega | exact RegOk.mk (by decide +kernel) | exact RegCl.mk (by decide +kernel) | exact RegNo.mk (by kernel_rfl)) only [go_sem, seval, haR, hs]
    refine callG [2] (feed_Push s f (by omega) (by omega)) rfl (by simp (maxSteps := 3000000) (disch := first | exact trivial | assumption | omega | exact RegOk.mk (by decide +kernel) | exact RegCl.mk (by decide +kernel) | exact RegNo.mk (by kernel_rfl)) only [go_sem, seval]) ?_ ?_ ?_
    · simp (maxSteps := 3000000) (disch := first | exact trivial | assumption | omega | exact RegOk.mk (by decide +kernel) | exact RegCl.mk (by decide +kernel) | exact RegNo.mk (by kernel_rfl)) only [go_sem, seval]
    · simp (maxSteps := 3000000) (disch := first | exact trivial | assumption | omega | exact RegOk.mk (by decide +kernel) | exact RegCl.mk (by decide +kernel) | exact RegNo.mk (by kernel_rfl)) only [go_sem, seval, Fd.H, imp_fd]
    simp (maxSteps := 3000000) (disch := first | exact trivial | assumption | omega | exact RegOk.mk (by decide +kernel) | exact RegCl.mk (by decide +kernel) | exact RegNo.mk (by kernel_rfl)) only [go_sem, seval, Fd.H, exD_fd, refs_fd, haR, hs]
    refine callG [3] (model_push s m (by omega) (by omega) (by omega)) rfl (by simp (maxSteps := 3000000) (disch := first | exact trivial | assumption | omega | exact RegOk.mk (by decide +kernel) | exact RegCl.mk (by decide +kernel) | exact RegNo.mk (by kernel_rfl)) only [go_sem, seval]) ?_ ?_ ?_
    · simp (maxSteps := 3000000) (disch := first | exact trivial | assumption | omega | exact RegOk.mk (by decide +kernel) | exact RegCl.mk (by decide +kernel) | exact RegNo.mk (by kernel_rfl)) only [go_sem, seval]
    · simp (maxSteps := 3000000) (disch := first | exact trivial | assumption | omega | exact RegOk.mk (by decide +kernel) | exact RegCl.mk (by decide +kernel) | exact RegNo.mk (by kernel_rfl)) only [go_sem, seval, Md.H, imp_md]
    simp (maxSteps := 3000000) (disch := first | exact trivial | assumption | omega | exact RegOk.mk (by decide +kernel) | exact RegCl.mk (by decide +kernel) | exact RegNo.mk (by kernel_rfl)) only [go_sem, seval, Md.H, exD_md, refs_md, hs, ← hr', List.take_length]
    have hT' := hTie.push s
    obtain ⟨hq1, hq2⟩ := md_push_same m s
    generalize m.push s = m' at *
    generalize f.push s = f' at *
    have hmm' : I64 m'.most := by rw [hq2]; exact hmm
    have hmb' : m'.b.length ≤ 100 * (i + 1) := by omega
    refine CallX_env [(4, .ro true 3 acts.length (aR acts)), (13, .str rest'), (15, .ad 2 0), (16, .ad 3 0), (17, .int .i64 i)] (by simp (maxSteps := 3000000) (disch := first | exact trivial | assumption | omega | exact RegOk.mk (by decide +kernel) | exact RegCl.mk (by decide +kernel) | exact RegNo.mk (by kernel_rfl)) only [go_sem, seval]) fun e he => ?_
    simp only [EnvEq_cons, EnvEq_nil] at he
    have hcode := hT'.code
    have hwh := hT'.wh
    have hat' := hT'.at_
    have hheld := hT'.held
    have hle' := hT'.le
    refine callG [2] (feed_Fault f') rfl (by simp (maxSteps := 3000000) (disch := first | exact trivial | assumption | omega | exact RegOk.mk (by decide +kernel) | exact RegCl.mk (by decide +kernel) | exact RegNo.mk (by kernel_rfl)) only [go_sem, seval]) ?_ ?_ ?_
    · simp (maxSteps := 3000000) (disch := first | exact trivial | assumption | omega | exact RegOk.mk (by decide +kernel) | exact RegCl.mk (by decide +kernel) | exact RegNo.mk (by kernel_rfl)) only [go_sem, seval]
    · simp (maxSteps := 3000000) (disch := first | exact trivial | assumption | omega | exact RegOk.mk (by decide +kernel) | exact RegCl.mk (by decide +kernel) | exact RegNo.mk (by kernel_rfl)) only [go_sem, seval, Fd.H, imp_fd]
    simp (maxSteps := 3000000) (disch := first | exact trivial | assumption | omega | exact RegOk.mk (by decide +kernel) | exact RegCl.mk (by decide +kernel) | exact RegNo.mk (by kernel_rfl)) only [go_sem, seval, Fd.H, exD_fd, refs_fd, he, exD_md, Md.D, hcode, hwh]
    refine callRl [2] (feed_At f') (by simp (maxSteps := 3000000) (disch := first | exact trivial | assumption | omega | exact RegOk.mk (by decide +kernel) | exact RegCl.mk (by decide +kernel) | exact RegNo.mk (by kernel_rfl)) only [go_sem, seval]) (by simp (maxSteps := 3000000) (disch := first | exact trivial | assumption | omega | exact RegOk.mk (by decide +kernel) | exact RegCl.mk (by decide +kernel) | exact RegNo.mk (by kernel_rfl)) only [go_sem, seval, flatB, Fd.D]) rfl ?_ ?_ ?_
    · simp (maxSteps := 3000000) (disch := first | exact trivial | assumption | omega | exact RegOk.mk (by decide +kernel) | exact RegCl.mk (by decide +kernel) | exact RegNo.mk (by kernel_rfl)) only [go_sem, seval]
    · simp (maxSteps := 3000000) (disch := first | exact trivial | assumption | omega | exact RegOk.mk (by decide +kernel) | exact RegCl.mk (by decide +kernel) | exact RegNo.mk (by kernel_rfl)) only [go_sem, seval, Fd.H, imp_fd]
    simp (maxSteps := 3000000) (disch := first | exact trivial | assumption | omega | exact RegOk.mk (by decide +kernel) | exact RegCl.mk (by decide +kernel) | exact RegNo.mk (by kernel_rfl)) only [go_sem, seval, Fd.H, exD_fd, refs_fd, he, hcode, hwh, hat']
    refine callRl [2] (feed_Held f') (by simp (maxSteps := 3000000) (disch := first | exact trivial | assumption | omega | exact RegOk.mk (by decide +kernel) | exact RegCl.mk (by decide +kernel) | exact RegNo.mk (by kernel_rfl)) only [go_sem, seval]) (by simp (maxSteps := 3000000) (disch := first | exact trivial | assumption | omega | exact RegOk.mk (by decide +kernel) | exact RegCl.mk (by decide +kernel) | exact RegNo.mk (by kernel_rfl)) only [go_sem, seval, flatB, Fd.D]) rfl ?_ ?_ ?_
    · simp (maxSteps := 3000000) (disch := first | exact trivial | assumption | omega | exact RegOk.mk (by decide +kernel) | exact RegCl.mk (by decide +kernel) | exact RegNo.mk (by kernel_rfl)) only [go_sem, seval]
    · simp (maxSteps := 3000000) (disch := first | exact trivial | assumption | omega | exact RegOk.mk (by decide +kernel) | exact RegCl.mk (by decide +kernel) | exact RegNo.mk (by kernel_rfl)) only [go_sem, seval, Fd.H, imp_fd]
    simp (maxSteps := 3000000) (disch := first | exact trivial | assumption | omega | exact RegOk.mk (by decide +kernel) | exact RegCl.mk (by decide +kernel) | exact RegNo.mk (by kernel_rfl)) only [go_sem, seval, Fd.H, exD_fd, refs_fd, he, hcode, hwh, hat', hheld]
    refine callRl [3] (model_held m' (by omega) hle') (by simp (maxSteps := 3000000) (disch := first | exact trivial | assumption | omega | exact RegOk.mk (by decide +kernel) | exact RegCl.mk (by decide +kernel) | exact RegNo.mk (by kernel_rfl)) only [go_sem, seval]) (by simp (maxSteps := 3000000) (disch := first | exact trivial | assumption | omega | exact RegOk.mk (by decide +kernel) | exact RegCl.mk (by decide +kernel) | exact RegNo.mk (by kernel_rfl)) only [go_sem, seval, flatB, Md.D]) rfl ?_ ?_ ?_
    · simp (maxSteps := 3000000) (disch := first | exact trivial | assumption | omega | exact RegOk.mk (by decide +kernel) | exact RegCl.mk (by decide +kernel) | exact RegNo.mk (by kernel_rfl)) only [go_sem, seval]
    · simp (maxSteps := 3000000) (disch := first | exact trivial | assumption | omega | exact RegOk.mk (by decide +kernel) | exact RegCl.mk (by decide +kernel) | exact RegNo.mk (by kernel_rfl)) only [go_sem, seval, Md.H, Md.D]
    simp (maxSteps := 3000000) (disch := first | exact trivial | assumption | omega | exact RegOk.mk (by decide +kernel) | exact RegCl.mk (by decide +kernel) | exact RegNo.mk (by kernel_rfl)) only [go_sem, seval, Md.H, exD_md, refs_md, he, hcode, hwh, hat', hheld]
    refine ⟨(i + 1, m', f', rest'), ⟨by show i + 1 ≤ acts.length; omega, hT', by show m'.b.length ≤ 100 * (i + 1); omega, hrest', hmm'⟩, by show acts.length - (i + 1) < acts.length - i; omega, ?_, ?_⟩
    · simp (maxSteps := 3000000) (disch := first | exact trivial | assumption | omega | exact RegOk.mk (by decide +kernel) | exact RegCl.mk (by decide +kernel) | exact RegNo.mk (by kernel_rfl)) only [go_sem, seval, he]
      exact LeV.of_eq (by rw [Int.natCast_succ])
    · simp (maxSteps := 3000000) (disch := first | exact trivial | assumption | omega | exact RegOk.mk (by decide +kernel) | exact RegCl.mk (by decide +kernel) | exact RegNo.mk (by kernel_rfl)) only [go_sem, seval, imp_fd, imp_md]
      try exact LeV.refl _
  by_cases k1 : ak = 1
  · subst k1
    obtain ⟨hT', hg1, hg2, hg3⟩ := hTie.next
    obtain ⟨hq1, hq2⟩ := md_next_same m
    have hne : ∀ x : List UInt8, (!(x == x)) = false := fun x => by simp
    have hnb : ∀ x : Bool, (!(x == x)) = false := fun x => by simp
    have hgot : Fd.got f = Md.got m := hg1
    obtain ⟨rest', hr'⟩ : ∃ r, r = rest := ⟨_, rfl⟩
    have hrest' : rest'.length ≤ 1600 := by rw [hr']; omega
    simp (maxSteps := 3000000) (disch := first | exact trivial | assumption | omega | exact RegOk.mk (by decide +kernel) | exact RegCl.mk (by decide +kernel) | exact RegNo.mk (by kernel_rfl)) only [go_sem, seval, haR]
    refine callG [2] (feed_Next f (by omega) (by omega) (by omega) (by omega)) rfl (by simp (maxSteps := 3000000) (disch := first | exact trivial | assumption | omega | exact RegOk.mk (by decide +kernel) | exact RegCl.mk (by decide +kernel) | exact RegNo.mk (by kernel_rfl)) only [go_sem, seval]) ?_ ?_ ?_
    · simp (maxSteps := 3000000) (disch := first | exact trivial | assumption | omega | exact RegOk.mk (by decide +kernel) | exact RegCl.mk (by decide +kernel) | exact RegNo.mk (by kernel_rfl)) only [go_sem, seval]
    · simp (maxSteps := 3000000) (disch := first | exact trivial | assumption | omega | exact RegOk.mk (by decide +kernel) | exact RegCl.mk (by decide +kernel) | exact RegNo.mk (by kernel_rfl)) only [go_sem, seval, Fd.H, imp_fd]
    simp (maxSteps := 3000000) (disch := first | exact trivial | assumption | omega | exact RegOk.mk (by decide +kernel) | exact RegCl.mk (by decide +kernel) | exact RegNo.mk (by kernel_rfl)) only [go_sem, seval, Fd.H, exD_fd, refs_fd, haR, pieceD]
    refine callG [3] (model_next m (by omega) (by omega) (by omega) (by omega)) rfl (by simp (maxSteps := 3000000) (disch := first | exact trivial | assumption | omega | exact RegOk.mk (by decide +kernel) | exact RegCl.mk (by decide +kernel) | exact RegNo.mk (by kernel_rfl)) only [go_sem, seval]) ?_ ?_ ?_
    · simp (maxSteps := 3000000) (disch := first | exact trivial | assumption | omega | exact RegOk.mk (by decide +kernel) | exact RegCl.mk (by decide +kernel) | exact RegNo.mk (by kernel_rfl)) only [go_sem, seval]
    · simp (maxSteps := 3000000) (disch := first | exact trivial | assumption | omega | exact RegOk.mk (by decide +kernel) | exact RegCl.mk (by decide +kernel) | exact RegNo.mk (by kernel_rfl)) only [go_sem, seval, Md.H, imp_md]
    have hfm : (f.from_ : Int) = (m.from_ : Int) := by rw [hg3]
    simp (maxSteps := 3000000) (disch := first | exact trivial | assumption | omega | exact RegOk.mk (by decide +kernel) | exact RegCl.mk (by decide +kernel) | exact RegNo.mk (by kernel_rfl)) only [go_sem, seval, Md.H, exD_md, refs_md, hg1, hg2, hg3, hne, hnb, ← hr']
    have hmm' : I64 m.next.most := by rw [hq2]; exact hmm
    have hmb' : m.next.b.length ≤ 100 * (i + 1) := by rw [hq1]; omega
    generalize m.next = m' at *
    generalize f.next = f' at *
    refine CallX_env [(4, .ro true 3 acts.length (aR acts)), (13, .str rest'), (15, .ad 2 0), (16, .ad 3 0), (17, .int .i64 i)] (by simp (maxSteps := 3000000) (disch := first | exact trivial | assumption | omega | exact RegOk.mk (by decide +kernel) | exact RegCl.mk (by decide +kernel) | exact RegNo.mk (by kernel_rfl)) only [go_sem, seval]) fun e he => ?_
    simp only [EnvEq_cons, EnvEq_nil] at he
    have hcode := hT'.code
    have hwh := hT'.wh
    have hat' := hT'.at_
    have hheld := hT'.held
    have hle' := hT'.le
    refine callG [2] (feed_Fault f') rfl (by simp (maxSteps := 3000000) (disch := first | exact trivial | assumption | omega | exact RegOk.mk (by decide +kernel) | exact RegCl.mk (by decide +kernel) | exact RegNo.mk (by kernel_rfl)) only [go_sem, seval]) ?_ ?_ ?_
    · simp (maxSteps := 3000000) (disch := first | exact trivial | assumption | omega | exact RegOk.mk (by decide +kernel) | exact RegCl.mk (by decide +kernel) | exact RegNo.mk (by kernel_rfl)) only [go_sem, seval]
    · simp (maxSteps := 3000000) (disch := first | exact trivial | assumption | omega | exact RegOk.mk (by decide +kernel) | exact RegCl.mk (by decide +kernel) | exact RegNo.mk (by kernel_rfl)) only [go_sem, seval, Fd.H, imp_fd]
    simp (maxSteps := 3000000) (disch := first | exact trivial | assumption | omega | exact RegOk.mk (by decide +kernel) | exact RegCl.mk (by decide +kernel) | exact RegNo.mk (by kernel_rfl)) only [go_sem, seval, Fd.H, exD_fd, refs_fd, he, exD_md, Md.D, hcode, hwh]
    refine callRl [2] (feed_At f') (by simp (maxSteps := 3000000) (disch := first | exact trivial | assumption | omega | exact RegOk.mk (by decide +kernel) | exact RegCl.mk (by decide +kernel) | exact RegNo.mk (by kernel_rfl)) only [go_sem, seval]) (by simp (maxSteps := 3000000) (disch := first | exact trivial | assumption | omega | exact RegOk.mk (by decide +kernel) | exact RegCl.mk (by decide +kernel) | exact RegNo.mk (by kernel_rfl)) only [go_sem, seval, flatB, Fd.D]) rfl ?_ ?_ ?_
    · simp (maxSteps := 3000000) (disch := first | exact trivial | assumption | omega | exact RegOk.mk (by decide +kernel) | exact RegCl.mk (by decide +kernel) | exact RegNo.mk (by kernel_rfl)) only [go_sem, seval]
    · simp (maxSteps := 3000000) (disch := first | exact trivial | assumption | omega | exact RegOk.mk (by decide +kernel) | exact RegCl.mk (by decide +kernel) | exact RegNo.mk (by kernel_rfl)) only [go_sem, seval, Fd.H, imp_fd]
    simp (maxSteps := 3000000) (disch := first | exact trivial | assumption | omega | exact RegOk.mk (by decide +kernel) | exact RegCl.mk (by decide +kernel) | exact RegNo.mk (by kernel_rfl)) only [go_sem, seval, Fd.H, exD_fd, refs_fd, he, hcode, hwh, hat']
    refine callRl [2] (feed_Held f') (by simp (maxSteps := 3000000) (disch := first | exact trivial | assumption | omega | exact RegOk.mk (by decide +kernel) | exact RegCl.mk (by decide +kernel) | exact RegNo.mk (by kernel_rfl)) only [go_sem, seval]) (by simp (maxSteps := 3000000) (disch := first | exact trivial | assumption | omega | exact RegOk.mk (by decide +kernel) | exact RegCl.mk (by decide +kernel) | exact RegNo.mk (by kernel_rfl)) only [go_sem, seval, flatB, Fd.D]) rfl ?_ ?_ ?_
    · simp (maxSteps := 3000000) (disch := first | exact trivial | assumption | omega | exact RegOk.mk (by decide +kernel) | exact RegCl.mk (by decide +kernel) | exact RegNo.mk (by kernel_rfl)) only [go_sem, seval]
    · simp (maxSteps := 3000000) (disch := first | exact trivial | assumption | omega | exact RegOk.mk (by decide +kernel) | exact RegCl.mk (by decide +kernel) | exact RegNo.mk (by kernel_rfl)) only [go_sem, seval, Fd.H, imp_fd]
    simp (maxSteps := 3000000) (disch := first | exact trivial | assumption | omega | exact RegOk.mk (by decide +kernel) | exact RegCl.mk (by decide +kernel) | exact RegNo.mk (by kernel_rfl)) only [go_sem, seval, Fd.H, exD_fd, refs_fd, he, hcode, hwh, hat', hheld]
    refine callRl [3] (model_held m' (by omega) hle') (by simp (maxSteps := 3000000) (disch := first | exact trivial | assumption | omega | exact RegOk.mk (by decide +kernel) | exact RegCl.mk (by decide +kernel) | exact RegNo.mk (by kernel_rfl)) only [go_sem, seval]) (by simp (maxSteps := 3000000) (disch := first | exact trivial | assumption | omega | exact RegOk.mk (by decide +kernel) | exact RegCl.mk (by decide +kernel) | exact RegNo.mk (by kernel_rfl)) only [go_sem, seval, flatB, Md.D]) rfl ?_ ?_ ?_
    · simp (maxSteps := 3000000) (disch := first | exact trivial | assumption | omega | exact RegOk.mk (by decide +kernel) | exact RegCl.mk (by decide +kernel) | exact RegNo.mk (by kernel_rfl)) only [go_sem, seval]
    · simp (maxSteps := 3000000) (disch := first | exact trivial | assumption | omega | exact RegOk.mk (by decide +kernel) | exact RegCl.mk (by decide +kernel) | exact RegNo.mk (by kernel_rfl)) only [go_sem, seval, Md.H, Md.D]
    simp (maxSteps := 3000000) (disch := first | exact trivial | assumption | omega | exact RegOk.mk (by decide +kernel) | exact RegCl.mk (by decide +kernel) | exact RegNo.mk (by kernel_rfl)) only [go_sem, seval, Md.H, exD_md, refs_md, he, hcode, hwh, hat', hheld]
    refine ⟨(i + 1, m', f', rest'), ⟨by show i + 1 ≤ acts.length; omega, hT', by show m'.b.length ≤ 100 * (i + 1); omega, hrest', hmm'⟩, by show acts.length - (i + 1) < acts.length - i; omega, ?_, ?_⟩
    · simp (maxSteps := 3000000) (disch := first | exact trivial | assumption | omega | exact RegOk.mk (by decide +kernel) | exact RegCl.mk (by decide +kernel) | exact RegNo.mk (by kernel_rfl)) only [go_sem, seval, he]
      exact LeV.of_eq (by rw [Int.natCast_succ])
    · simp (maxSteps := 3000000) (disch := first | exact trivial | assumption | omega | exact RegOk.mk (by decide +kernel) | exact RegCl.mk (by decide +kernel) | exact RegNo.mk (by kernel_rfl)) only [go_sem, seval, imp_fd, imp_md]
      try exact LeV.refl _
  by_cases k2 : ak = 2
  · subst k2
    have hT' := hTie.last
    obtain ⟨hq1, hq2⟩ := md_tail_same { m with last := true }
    obtain ⟨rest', hr'⟩ : ∃ r, r = rest := ⟨_, rfl⟩
    have hrest' : rest'.length ≤ 1600 := by rw [hr']; omega
    simp (maxSteps := 3000000) (disch := first | exact trivial | assumption | omega | exact RegOk.mk (by decide +kernel) | exact RegCl.mk (by decide +kernel) | exact RegNo.mk (by kernel_rfl)) only [go_sem, seval, haR]
    refine callG [2] (feed_Last f) rfl (by simp (maxSteps := 3000000) (disch := first | exact trivial | assumption | omega | exact RegOk.mk (by decide +kernel) | exact RegCl.mk (by decide +kernel) | exact RegNo.mk (by kernel_rfl)) only [go_sem, seval]) ?_ ?_ ?_
    · simp (maxSteps := 3000000) (disch := first | exact trivial | assumption | omega | exact RegOk.mk (by decide +kernel) | exact RegCl.mk (by decide +kernel) | exact RegNo.mk (by kernel_rfl)) only [go_sem, seval]
    · simp (maxSteps := 3000000) (disch := first | exact trivial | assumption | omega | exact RegOk.mk (by decide +kernel) | exact RegCl.mk (by decide +kernel) | exact RegNo.mk (by kernel_rfl)) only [go_sem, seval, Fd.H, imp_fd]
    simp (maxSteps := 3000000) (disch := first | exact trivial | assumption | omega | exact RegOk.mk (by decide +kernel) | exact RegCl.mk (by decide +kernel) | exact RegNo.mk (by kernel_rfl)) only [go_sem, seval, Fd.H, exD_fd, refs_fd, haR, Md.D]
    refine callG [3] (model_tail { m with last := true } (by simp only; omega) (by simp only; omega)) rfl (by simp (maxSteps := 3000000) (disch := first | exact trivial | assumption | omega | exact RegOk.mk (by decide +kernel) | exact RegCl.mk (by decide +kernel) | exact RegNo.mk (by kernel_rfl)) only [go_sem, seval]) ?_ ?_ ?_
    · simp (maxSteps := 3000000) (disch := first | exact trivial | assumption | omega | exact RegOk.mk (by decide +kernel) | exact RegCl.mk (by decide +kernel) | exact RegNo.mk (by kernel_rfl)) only [go_sem, seval]
    · simp (maxSteps := 3000000) (disch := first | exact trivial | assumption | omega | exact RegOk.mk (by decide +kernel) | exact RegCl.mk (by decide +kernel) | exact RegNo.mk (by kernel_rfl)) only [go_sem, seval, Md.H, Md.D]
    simp (maxSteps := 3000000) (disch := first | exact trivial | assumption | omega | exact RegOk.mk (by decide +kernel) | exact RegCl.mk (by decide +kernel) | exact RegNo.mk (by kernel_rfl)) only [go_sem, seval, Md.H, exD_md, refs_md, ← hr']
    have hmm' : I64 ({ m with last := true } : Md).tail.most := by rw [hq2]; exact hmm
    have hmb' : ({ m with last := true } : Md).tail.b.length ≤ 100 * (i + 1) := by rw [hq1]; simp only; omega
    generalize ({ m with last := true } : Md).tail = m' at *
    generalize f.end_ = f' at *
    refine CallX_env [(4, .ro true 3 acts.length (aR acts)), (13, .str rest'), (15, .ad 2 0), (16, .ad 3 0), (17, .int .i64 i)] (by simp (maxSteps := 3000000) (disch := first | exact trivial | assumption | omega | exact RegOk.mk (by decide +kernel) | exact RegCl.mk (by decide +kernel) | exact RegNo.mk (by kernel_rfl)) only [go_sem, seval]) fun e he => ?_
    simp only [EnvEq_cons, EnvEq_nil] at he
    have hcode := hT'.code
    have hwh := hT'.wh
    have hat' := hT'.at_
    have hheld := hT'.held
    have hle' := hT'.le
    refine callG [2] (feed_Fault f') rfl (by simp (maxSteps := 3000000) (disch := first | exact trivial | assumption | omega | exact RegOk.mk (by decide +kernel) | exact RegCl.mk (by decide +kernel) | exact RegNo.mk (by kernel_rfl)) only [go_sem, seval]) ?_ ?_ ?_
    · simp (maxSteps := 3000000) (disch := first | exact trivial | assumption | omega | exact RegOk.mk (by decide +kernel) | exact RegCl.mk (by decide +kernel) | exact RegNo.mk (by kernel_rfl)) only [go_sem, seval]
    · simp (maxSteps := 3000000) (disch := first | exact trivial | assumption | omega | exact RegOk.mk (by decide +kernel) | exact RegCl.mk (by decide +kernel) | exact RegNo.mk (by kernel_rfl)) only [go_sem, seval, Fd.H, imp_fd]
    simp (maxSteps := 3000000) (disch := first | exact trivial | assumption | omega | exact RegOk.mk (by decide +kernel) | exact RegCl.mk (by decide +kernel) | exact RegNo.mk (by kernel_rfl)) only [go_sem, seval, Fd.H, exD_fd, refs_fd, he, exD_md, Md.D, hcode, hwh]
    refine callRl [2] (feed_At f') (by simp (maxSteps := 3000000) (disch := first | exact trivial | assumption | omega | exact RegOk.mk (by decide +kernel) | exact RegCl.mk (by decide +kernel) | exact RegNo.mk (by kernel_rfl)) only [go_sem, seval]) (by simp (maxSteps := 3000000) (disch := first | exact trivial | assumption | omega | exact RegOk.mk (by decide +kernel) | exact RegCl.mk (by decide +kernel) | exact RegNo.mk (by kernel_rfl)) only [go_sem, seval, flatB, Fd.D]) rfl ?_ ?_ ?_
    · simp (maxSteps := 3000000) (disch := first | exact trivial | assumption | omega | exact RegOk.mk (by decide +kernel) | exact RegCl.mk (by decide +kernel) | exact RegNo.mk (by kernel_rfl)) only [go_sem, seval]
    · simp (maxSteps := 3000000) (disch := first | exact trivial | assumption | omega | exact RegOk.mk (by decide +kernel) | exact RegCl.mk (by decide +kernel) | exact RegNo.mk (by kernel_rfl)) only [go_sem, seval, Fd.H, imp_fd]
    simp (maxSteps := 3000000) (disch := first | exact trivial | assumption | omega | exact RegOk.mk (by decide +kernel) | exact RegCl.mk (by decide +kernel) | exact RegNo.mk (by kernel_rfl)) only [go_sem, seval, Fd.H, exD_fd, refs_fd, he, hcode, hwh, hat']
    refine callRl [2] (feed_Held f') (by simp (maxSteps := 3000000) (disch := first | exact trivial | assumption | omega | exact RegOk.mk (by decide +kernel) | exact RegCl.mk (by decide +kernel) | exact RegNo.mk (by kernel_rfl)) only [go_sem, seval]) (by simp (maxSteps := 3000000) (disch := first | exact trivial | assumption | omega | exact RegOk.mk (by decide +kernel) | exact RegCl.mk (by decide +kernel) | exact RegNo.mk (by kernel_rfl)) only [go_sem, seval, flatB, Fd.D]) rfl ?_ ?_ ?_
    · simp (maxSteps := 3000000) (disch := first | exact trivial | assumption | omega | exact RegOk.mk (by decide +kernel) | exact RegCl.mk (by decide +kernel) | exact RegNo.mk (by kernel_rfl)) only [go_sem, seval]
    · simp (maxSteps := 3000000) (disch := first | exact trivial | assumption | omega | exact RegOk.mk (by decide +kernel) | exact RegCl.mk (by decide +kernel) | exact RegNo.mk (by kernel_rfl)) only [go_sem, seval, Fd.H, imp_fd]
    simp (maxSteps := 3000000) (disch := first | exact trivial | assumption | omega | exact RegOk.mk (by decide +kernel) | exact RegCl.mk (by decide +kernel) | exact RegNo.mk (by kernel_rfl)) only [go_sem, seval, Fd.H, exD_fd, refs_fd, he, hcode, hwh, hat', hheld]
    refine callRl [3] (model_held m' (by omega) hle') (by simp (maxSteps := 3000000) (disch := first | exact trivial | assumption | omega | exact RegOk.mk (by decide +kernel) | exact RegCl.mk (by decide +kernel) | exact RegNo.mk (by kernel_rfl)) only [go_sem, seval]) (by simp (maxSteps := 3000000) (disch := first | exact trivial | assumption | omega | exact RegOk.mk (by decide +kernel) | exact RegCl.mk (by decide +kernel) | exact RegNo.mk (by kernel_rfl)) only [go_sem, seval, flatB, Md.D]) rfl ?_ ?_ ?_
    · simp (maxSteps := 3000000) (disch := first | exact trivial | assumption | omega | exact RegOk.mk (by decide +kernel) | exact RegCl.mk (by decide +kernel) | exact RegNo.mk (by kernel_rfl)) only [go_sem, seval]
    · simp (maxSteps := 3000000) (disch := first | exact trivial | assumption | omega | exact RegOk.mk (by decide +kernel) | exact RegCl.mk (by decide +kernel) | exact RegNo.mk (by kernel_rfl)) only [go_sem, seval, Md.H, Md.D]
    simp (maxSteps := 3000000) (disch := first | exact trivial | assumption | omega | exact RegOk.mk (by decide +kernel) | exact RegCl.mk (by decide +kernel) | exact RegNo.mk (by kernel_rfl)) only [go_sem, seval, Md.H, exD_md, refs_md, he, hcode, hwh, hat', hheld]
    refine ⟨(i + 1, m', f', rest'), ⟨by show i + 1 ≤ acts.length; omega, hT', by show m'.b.length ≤ 100 * (i + 1); omega, hrest', hmm'⟩, by show acts.length - (i + 1) < acts.length - i; omega, ?_, ?_⟩
    · simp (maxSteps := 3000000) (disch := first | exact trivial | assumption | omega | exact RegOk.mk (by decide +kernel) | exact RegCl.mk (by decide +kernel) | exact RegNo.mk (by kernel_rfl)) only [go_sem, seval, he]
      exact LeV.of_eq (by rw [Int.natCast_succ])
    · simp (maxSteps := 3000000) (disch := first | exact trivial | assumption | omega | exact RegOk.mk (by decide +kernel) | exact RegCl.mk (by decide +kernel) | exact RegNo.mk (by kernel_rfl)) only [go_sem, seval, imp_fd, imp_md]
      try exact LeV.refl _
  by_cases k3 : ak = 3
  · subst k3
    by_cases h40 : 40 < ab.length
    · simp (maxSteps := 3000000) (disch := first | exact trivial | assumption | omega | exact RegOk.mk (by decide +kernel) | exact RegCl.mk (by decide +kernel) | exact RegNo.mk (by kernel_rfl)) only [go_sem, seval, haR]
    obtain ⟨rest', hr'⟩ : ∃ r, r = rest := ⟨_, rfl⟩
    have hrest' : rest'.length ≤ 1600 := by rw [hr']; omega
    obtain ⟨s, rfl⟩ : ∃ s, s = ab := ⟨_, rfl⟩
    have hsl : s.length ≤ 90 := by omega
    simp (maxSteps := 3000000) (disch := first | exact trivial | assumption | omega | exact RegOk.mk (by decide +kernel) | exact RegCl.mk (by decide +kernel) | exact RegNo.mk (by kernel_rfl)) only [go_sem, seval, haR]
    refine callG [2] (feed_Push s f (by omega) (by omega)) rfl (by simp (maxSteps := 3000000) (disch := first | exact trivial | assumption | omega | exact RegOk.mk (by decide +kernel) | exact RegCl.mk (by decide +kernel) | exact RegNo.mk (by kernel_rfl)) only [go_sem, seval]) ?_ ?_ ?_
    · simp (maxSteps := 3000000) (disch := first | exact trivial | assumption | omega | exact RegOk.mk (by decide +kernel) | exact RegCl.mk (by decide +kernel) | exact RegNo.mk (by kernel_rfl)) only [go_sem, seval]
    · simp (maxSteps := 3000000) (disch := first | exact trivial | assumption | omega | exact RegOk.mk (by decide +kernel) | exact RegCl.mk (by decide +kernel) | exact RegNo.mk (by kernel_rfl)) only [go_sem, seval, Fd.H, imp_fd]
    simp (maxSteps := 3000000) (disch := first | exact trivial | assumption | omega | exact RegOk.mk (by decide +kernel) | exact RegCl.mk (by decide +kernel) | exact RegNo.mk (by kernel_rfl)) only [go_sem, seval, Fd.H, exD_fd, refs_fd, haR]
    refine callG [3] (model_push s m (by omega) (by omega) (by omega)) rfl (by simp (maxSteps := 3000000) (disch := first | exact trivial | assumption | omega | exact RegOk.mk (by decide +kernel) | exact RegCl.mk (by decide +kernel) | exact RegNo.mk (by kernel_rfl)) only [go_sem, seval]) ?_ ?_ ?_
    · simp (maxSteps := 3000000) (disch := first | exact trivial | assumption | omega | exact RegOk.mk (by decide +kernel) | exact RegCl.mk (by decide +kernel) | exact RegNo.mk (by kernel_rfl)) only [go_sem, seval]
    · simp (maxSteps := 3000000) (disch := first | exact trivial | assumption | omega | exact RegOk.mk (by decide +kernel) | exact RegCl.mk (by decide +kernel) | exact RegNo.mk (by kernel_rfl)) only [go_sem, seval, Md.H, imp_md]
    simp (maxSteps := 3000000) (disch := first | exact trivial | assumption | omega | exact RegOk.mk (by decide +kernel) | exact RegCl.mk (by decide +kernel) | exact RegNo.mk (by kernel_rfl)) only [go_sem, seval, Md.H, exD_md, refs_md, ← hr']
    have hT' := hTie.push s
    obtain ⟨hq1, hq2⟩ := md_push_same m s
    generalize m.push s = m' at *
    generalize f.push s = f' at *
    have hmm' : I64 m'.most := by rw [hq2]; exact hmm
    have hmb' : m'.b.length ≤ 100 * (i + 1) := by omega
    refine CallX_env [(4, .ro true 3 acts.length (aR acts)), (13, .str rest'), (15, .ad 2 0), (16, .ad 3 0), (17, .int .i64 i)] (by simp (maxSteps := 3000000) (disch := first | exact trivial | assumption | omega | exact RegOk.mk (by decide +kernel) | exact RegCl.mk (by decide +kernel) | exact RegNo.mk (by kernel_rfl)) only [go_sem, seval]) fun e he => ?_
    simp only [EnvEq_cons, EnvEq_nil] at he
    have hcode := hT'.code
    have hwh := hT'.wh
    have hat' := hT'.at_
    have hheld := hT'.held
    have hle' := hT'.le
    refine callG [2] (feed_Fault f') rfl (by simp (maxSteps := 3000000) (disch := first | exact trivial | assumption | omega | exact RegOk.mk (by decide +kernel) | exact RegCl.mk (by decide +kernel) | exact RegNo.mk (by kernel_rfl)) only [go_sem, seval]) ?_ ?_ ?_
    · simp (maxSteps := 3000000) (disch := first | exact trivial | assumption | omega | exact RegOk.mk (by decide +kernel) | exact RegCl.mk (by decide +kernel) | exact RegNo.mk (by kernel_rfl)) only [go_sem, seval]
    · simp (maxSteps := 3000000) (disch := first | exact trivial | assumption | omega | exact RegOk.mk (by decide +kernel) | exact RegCl.mk (by decide +kernel) | exact RegNo.mk (by kernel_rfl)) only [go_sem, seval, Fd.H, imp_fd]
    simp (maxSteps := 3000000) (disch := first | exact trivial | assumption | omega | exact RegOk.mk (by decide +kernel) | exact RegCl.mk (by decide +kernel) | exact RegNo.mk (by kernel_rfl)) only [go_sem, seval, Fd.H, exD_fd, refs_fd, he, exD_md, Md.D, hcode, hwh]
    refine callRl [2] (feed_At f') (by simp (maxSteps := 3000000) (disch := first | exact trivial | assumption | omega | exact RegOk.mk (by decide +kernel) | exact RegCl.mk (by decide +kernel) | exact RegNo.mk (by kernel_rfl)) only [go_sem, seval]) (by simp (maxSteps := 3000000) (disch := first | exact trivial | assumption | omega | exact RegOk.mk (by decide +kernel) | exact RegCl.mk (by decide +kernel) | exact RegNo.mk (by kernel_rfl)) only [go_sem, seval, flatB, Fd.D]) rfl ?_ ?_ ?_
    · simp (maxSteps := 3000000) (disch := first | exact trivial | assumption | omega | exact RegOk.mk (by decide +kernel) | exact RegCl.mk (by decide +kernel) | exact RegNo.mk (by kernel_rfl)) only [go_sem, seval]
    · simp (maxSteps := 3000000) (disch := first | exact trivial | assumption | omega | exact RegOk.mk (by decide +kernel) | exact RegCl.mk (by decide +kernel) | exact RegNo.mk (by kernel_rfl)) only [go_sem, seval, Fd.H, imp_fd]
    simp (maxSteps := 3000000) (disch := first | exact trivial | assumption | omega | exact RegOk.mk (by decide +kernel) | exact RegCl.mk (by decide +kernel) | exact RegNo.mk (by kernel_rfl)) only [go_sem, seval, Fd.H, exD_fd, refs_fd, he, hcode, hwh, hat']
    refine callRl [2] (feed_Held f') (by simp (maxSteps := 3000000) (disch := first | exact trivial | assumption | omega | exact RegOk.mk (by decide +kernel) | exact RegCl.mk (by decide +kernel) | exact RegNo.mk (by kernel_rfl)) only [go_sem, seval]) (by simp (maxSteps := 3000000) (disch := first | exact trivial | assumption | omega | exact RegOk.mk (by decide +kernel) | exact RegCl.mk (by decide +kernel) | exact RegNo.mk (by kernel_rfl)) only [go_sem, seval, flatB, Fd.D]) rfl ?_ ?_ ?_
    · simp (maxSteps := 3000000) (disch := first | exact trivial | assumption | omega | exact RegOk.mk (by decide +kernel) | exact RegCl.mk (by decide +kernel) | exact RegNo.mk (by kernel_rfl)) only [go_sem, seval]
    · simp (maxSteps := 3000000) (disch := first | exact trivial | assumption | omega | exact RegOk.mk (by decide +kernel) | exact RegCl.mk (by decide +kernel) | exact RegNo.mk (by kernel_rfl)) only [go_sem, seval, Fd.H, imp_fd]
    simp (maxSteps := 3000000) (disch := first | exact trivial | assumption | omega | exact RegOk.mk (by decide +kernel) | exact RegCl.mk (by decide +kernel) | exact RegNo.mk (by kernel_rfl)) only [go_sem, seval, Fd.H, exD_fd, refs_fd, he, hcode, hwh, hat', hheld]
    refine callRl [3] (model_held m' (by omega) hle') (by simp (maxSteps := 3000000) (disch := first | exact trivial | assumption | omega | exact RegOk.mk (by decide +kernel) | exact RegCl.mk (by decide +kernel) | exact RegNo.mk (by kernel_rfl)) only [go_sem, seval]) (by simp (maxSteps := 3000000) (disch := first | exact trivial | assumption | omega | exact RegOk.mk (by decide +kernel) | exact RegCl.mk (by decide +kernel) | exact RegNo.mk (by kernel_rfl)) only [go_sem, seval, flatB, Md.D]) rfl ?_ ?_ ?_
    · simp (maxSteps := 3000000) (disch := first | exact trivial | assumption | omega | exact RegOk.mk (by decide +kernel) | exact RegCl.mk (by decide +kernel) | exact RegNo.mk (by kernel_rfl)) only [go_sem, seval]
    · simp (maxSteps := 3000000) (disch := first | exact trivial | assumption | omega | exact RegOk.mk (by decide +kernel) | exact RegCl.mk (by decide +kernel) | exact RegNo.mk (by kernel_rfl)) only [go_sem, seval, Md.H, Md.D]
    simp (maxSteps := 3000000) (disch := first | exact trivial | assumption | omega | exact RegOk.mk (by decide +kernel) | exact RegCl.mk (by decide +kernel) | exact RegNo.mk (by kernel_rfl)) only [go_sem, seval, Md.H, exD_md, refs_md, he, hcode, hwh, hat', hheld]
    refine ⟨(i + 1, m', f', rest'), ⟨by show i + 1 ≤ acts.length; omega, hT', by show m'.b.length ≤ 100 * (i + 1); omega, hrest', hmm'⟩, by show acts.length - (i + 1) < acts.length - i; omega, ?_, ?_⟩
    · simp (maxSteps := 3000000) (disch := first | exact trivial | assumption | omega | exact RegOk.mk (by decide +kernel) | exact RegCl.mk (by decide +kernel) | exact RegNo.mk (by kernel_rfl)) only [go_sem, seval, he]
      exact LeV.of_eq (by rw [Int.natCast_succ])
    · simp (maxSteps := 3000000) (disch := first | exact trivial | assumption | omega | exact RegOk.mk (by decide +kernel) | exact RegCl.mk (by decide +kernel) | exact RegNo.mk (by kernel_rfl)) only [go_sem, seval, imp_fd, imp_md]
      try exact LeV.refl _
  have kk : ak < 0 ∨ 3 < ak := by omega
  obtain ⟨rest', hr'⟩ : ∃ r, r = rest := ⟨_, rfl⟩
  have hrest' : rest'.length ≤ 1600 := by rw [hr']; omega
  have hT' := hTie
  have hmm' : I64 m.most := hmm
  have hmb' : m.b.length ≤ 100 * (i + 1) := by omega
  simp (maxSteps := 3000000) (disch := first | exact trivial | assumption | omega | exact RegOk.mk (by decide +kernel) | exact RegCl.mk (by decide +kernel) | exact RegNo.mk (by kernel_rfl)) only [go_sem, seval, haR, ← hr']
  generalize m = m' at *
  generalize f = f' at *
  refine CallX_env [(4, .ro true 3 acts.length (aR acts)), (13, .str rest'), (15, .ad 2 0), (16, .ad 3 0), (17, .int .i64 i)] (by simp (maxSteps := 3000000) (disch := first | exact trivial | assumption | omega | exact RegOk.mk (by decide +kernel) | exact RegCl.mk (by decide +kernel) | exact RegNo.mk (by kernel_rfl)) only [go_sem, seval]) fun e he => ?_
  simp only [EnvEq_cons, EnvEq_nil] at he
  have hcode := hT'.code
  have hwh := hT'.wh
  have hat' := hT'.at_
  have hheld := hT'.held
  have hle' := hT'.le
  refine callG [2] (feed_Fault f') rfl (by simp (maxSteps := 3000000) (disch := first | exact trivial | assumption | omega | exact RegOk.mk (by decide +kernel) | exact RegCl.mk (by decide +kernel) | exact RegNo.mk (by kernel_rfl)) only [go_sem, seval]) ?_ ?_ ?_
  · simp (maxSteps := 3000000) (disch := first | exact trivial | assumption | omega | exact RegOk.mk (by decide +kernel) | exact RegCl.mk (by decide +kernel) | exact RegNo.mk (by kernel_rfl)) only [go_sem, seval]
  · simp (maxSteps := 3000000) (disch := first | exact trivial | assumption | omega | exact RegOk.mk (by decide +kernel) | exact RegCl.mk (by decide +kernel) | exact RegNo.mk (by kernel_rfl)) only [go_sem, seval, Fd.H, imp_fd]
  simp (maxSteps := 3000000) (disch := first | exact trivial | assumption | omega | exact RegOk.mk (by decide +kernel) | exact RegCl.mk (by decide +kernel) | exact RegNo.mk (by kernel_rfl)) only [go_sem, seval, Fd.H, exD_fd, refs_fd, he, exD_md, Md.D, hcode, hwh]
  refine callRl [2] (feed_At f') (by simp (maxSteps := 3000000) (disch := first | exact trivial | assumption | omega | exact RegOk.mk (by decide +kernel) | exact RegCl.mk (by decide +kernel) | exact RegNo.mk (by kernel_rfl)) only [go_sem, seval]) (by simp (maxSteps := 3000000) (disch := first | exact trivial | assumption | omega | exact RegOk.mk (by decide +kernel) | exact RegCl.mk (by decide +kernel) | exact RegNo.mk (by kernel_rfl)) only [go_sem, seval, flatB, Fd.D]) rfl ?_ ?_ ?_
  · simp (maxSteps := 3000000) (disch := first | exact trivial | assumption | omega | exact RegOk.mk (by decide +kernel) | exact RegCl.mk (by decide +kernel) | exact RegNo.mk (by kernel_rfl)) only [go_sem, seval]
  · simp (maxSteps := 3000000) (disch := first | exact trivial | assumption | omega | exact RegOk.mk (by decide +kernel) | exact RegCl.mk (by decide +kernel) | exact RegNo.mk (by kernel_rfl)) only [go_sem, seval, Fd.H, imp_fd]
  simp (maxSteps := 3000000) (disch := first | exact trivial | assumption | omega | exact RegOk.mk (by decide +kernel) | exact RegCl.mk (by decide +kernel) | exact RegNo.mk (by kernel_rfl)) only [go_sem, seval, Fd.H, exD_fd, refs_fd, he, hcode, hwh, hat']
  refine callRl [2] (feed_Held f') (by simp (maxSteps := 3000000) (disch := first | exact trivial | assumption | omega | exact RegOk.mk (by decide +kernel) | exact RegCl.mk (by decide +kernel) | exact RegNo.mk (by kernel_rfl)) only [go_sem, seval]) (by simp (maxSteps := 3000000) (disch := first | exact trivial | assumption | omega | exact RegOk.mk (by decide +kernel) | exact RegCl.mk (by decide +kernel) | exact RegNo.mk (by kernel_rfl)) only [go_sem, seval, flatB, Fd.D]) rfl ?_ ?_ ?_
  · simp (maxSteps := 3000000) (disch := first | exact trivial | assumption | omega | exact RegOk.mk (by decide +kernel) | exact RegCl.mk (by decide +kernel) | exact RegNo.mk (by kernel_rfl)) only [go_sem, seval]
  · simp (maxSteps := 3000000) (disch := first | exact trivial | assumption | omega | exact RegOk.mk (by decide +kernel) | exact RegCl.mk (by decide +kernel) | exact RegNo.mk (by kernel_rfl)) only [go_sem, seval, Fd.H, imp_fd]
  simp (maxSteps := 3000000) (disch := first | exact trivial | assumption | omega | exact RegOk.mk (by decide +kernel) | exact RegCl.mk (by decide +kernel) | exact RegNo.mk (by kernel_rfl)) only [go_sem, seval, Fd.H, exD_fd, refs_fd, he, hcode, hwh, hat', hheld]
  refine callRl [3] (model_held m' (by omega) hle') (by simp (maxSteps := 3000000) (disch := first | exact trivial | assumption | omega | exact RegOk.mk (by decide +kernel) | exact RegCl.mk (by decide +kernel) | exact RegNo.mk (by kernel_rfl)) only [go_sem, seval]) (by simp (maxSteps := 3000000) (disch := first | exact trivial | assumption | omega | exact RegOk.mk (by decide +kernel) | exact RegCl.mk (by decide +kernel) | exact RegNo.mk (by kernel_rfl)) only [go_sem, seval, flatB, Md.D]) rfl ?_ ?_ ?_
  · simp (maxSteps := 3000000) (disch := first | exact trivial | assumption | omega | exact RegOk.mk (by decide +kernel) | exact RegCl.mk (by decide +kernel) | exact RegNo.mk (by kernel_rfl)) only [go_sem, seval]
  · simp (maxSteps := 3000000) (disch := first | exact trivial | assumption | omega | exact RegOk.mk (by decide +kernel) | exact RegCl.mk (by decide +kernel) | exact RegNo.mk (by kernel_rfl)) only [go_sem, seval, Md.H, Md.D]
  simp (maxSteps := 3000000) (disch := first | exact trivial | assumption | omega | exact RegOk.mk (by decide +kernel) | exact RegCl.mk (by decide +kernel) | exact RegNo.mk (by kernel_rfl)) only [go_sem, seval, Md.H, exD_md, refs_md, he, hcode, hwh, hat', hheld]
  refine ⟨(i + 1, m', f', rest'), ⟨by show i + 1 ≤ acts.length; omega, hT', by show m'.b.length ≤ 100 * (i + 1); omega, hrest', hmm'⟩, by show acts.length - (i + 1) < acts.length - i; omega, ?_, ?_⟩
  · simp (maxSteps := 3000000) (disch := first | exact trivial | assumption | omega | exact RegOk.mk (by decide +kernel) | exact RegCl.mk (by decide +kernel) | exact RegNo.mk (by kernel_rfl)) only [go_sem, seval, he]
    exact LeV.of_eq (by rw [Int.natCast_succ])
  · simp (maxSteps := 3000000) (disch := first | exact trivial | assumption | omega | exact RegOk.mk (by decide +kernel) | exact RegCl.mk (by decide +kernel) | exact RegNo.mk (by kernel_rfl)) only [go_sem, seval, imp_fd, imp_md]
    try exact LeV.refl _
end Go.Proofs.YtpobbfhdkbnpmaaDoor.Lv
