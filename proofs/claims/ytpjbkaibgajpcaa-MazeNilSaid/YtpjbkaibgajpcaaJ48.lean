/-
  maze's laws: MazeNil.
-/
import Derived.Test.YtpjbkaibgajpcaaJ47
import Derived.Test.YtpjbkaibgajpcaaJ12
namespace Go.Proofs.Ytpjbkaibgajpcaa
open Go.RowKit Go.ChangeMaps

theorem gSoft_nilM (w : World) (k : Int) :
    Calls Try.prog 30 #[.pointer none, .int .u64 k] w (NewL w []) := by
  obtain ⟨W1, hW1⟩ : ∃ W1, W1 = (w.alloc (.cells #[.pointer none] 46)).alloc (.cells #[.int .u64 k] 22) := ⟨_, rfl⟩
  have hb1 : Below w.heap.size w W1 := by rw [hW1]; exact ((Below.refl _ w).alloc (Nat.le_refl _) _).alloc (by simp) _
  have HW := Lib.hid hW1
  have HB := Lib.hid hb1
  clear hW1 hb1
  go_enter Try.func30, Try.ntmps30
  go_wp2_with (first
    | (go_at_call 29; rw [← HW.out]; refine (gNear_nil _ _).mono ?_; rintro e w' ⟨rfl, rfl⟩)
    | (go_at_call 49; refine (del_nil _ _ _).mono ?_; rintro e w2 ⟨rfl, rfl⟩))
  go_ret
  exact ⟨_, rfl, ⟨rfl, .inl ⟨rfl, rfl⟩⟩, HB.out⟩

theorem mRebuild_nil (w : World) (v : Value) :
    Calls Try.prog 8 #[.pointer none, v] w fun e w' => e = .returned (.tuple #[.pointer none, .int .i64 6]) ∧ w' = w := by
  go_enter Try.func8, Try.ntmps8
  go_wp2_with fail
  go_ret2
  exact ⟨rfl, rfl⟩

theorem mEntry_nil (w : World) :
    Calls Try.prog 6 #[.pointer none] w fun e w' => e = .returned (.tuple #[.int .u64 0, .bool false]) ∧ w' = w := by
  have cL := Lib.hid (mLen w _ _ 0 (mGraph_nil w) (gLen_nil w))
  go_enter Try.func6, Try.ntmps6
  go_wp2_with fail
  (with_reducible refine cL.out.mono ?_)
  rintro e w1 ⟨rfl, rfl⟩
  go_wp2_with fail
  go_ret2
  exact ⟨rfl, rfl⟩

theorem nil_of {w : World} {e : Ending} {w' : World} (h : NewL w [] e w') : ∃ p c, e = .returned (.slice p 0 c) ∧ Below w.heap.size w w' := by
  obtain ⟨v, rfl, ho, hb⟩ := h
  obtain ⟨p, n, c, rfl⟩ := own_form ho
  obtain rfl : n = 0 := own_len ho
  exact ⟨p, c, rfl, hb⟩


set_option maxRecDepth 100000 in
set_option maxHeartbeats 8000000 in
theorem mazeNil (w : World) (dim key : Int) (v : Value) (xs : List Int) (hv : Nums w .i32 v xs) :
    Law 3 #[.int .i64 dim, .int .u64 key, v] w := by
  obtain ⟨vq, vc, rfl, -, -, -, -⟩ := hv.slice
  obtain ⟨v, hvv⟩ : ∃ v, v = Value.slice vq xs.length vc := ⟨_, rfl⟩
  rw [← hvv]
  clear hv hvv
  by_cases hd : 1 ≤ dim ∧ dim ≤ 8
  · have hd1 : ¬ dim < 1 := by omega
    have hd2 : ¬ 8 < dim := by omega
    have hd3 : 1 ≤ dim := hd.1
    have hd4 : dim ≤ 8 := hd.2
    have hd3b : decide (1 ≤ dim) = true := decide_eq_true hd3
    have hd4b : decide (dim ≤ 8) = true := decide_eq_true hd4
    have HD := Lib.hid hd
    clear hd
    have cV := Lib.hid (fun W => mVec_nil W key)
    have cE := Lib.hid (fun W => mEntry_nil W)
    have cF := Lib.hid (fun W => mFind_nil W v 5)
    have cR := Lib.hid (fun W u => mRebuild_nil W u)
    have cP := Lib.hid (fun W => mPut_nil W key v)
    have cNe := Lib.hid (fun W => (mNear W _ _ key [] (mGraph_nil W) ((gNear_nil W key).mono fun e w' hh => NewL.nil hh.1 hh.2)))
    have cSo := Lib.hid (fun W => (mSoft W _ _ key [] (mGraph_nil W) (gSoft_nilM W key)))
    have cKe := Lib.hid (fun W => (mKeys W _ _ 0 [] (mGraph_nil W) ((gKeys_nil W).mono fun e w' hh => NewL.nil hh.1 hh.2)))
    have cRe := Lib.hid (fun W => (mReach W _ _ key [] (mGraph_nil W) ((gReach_nil W key).mono fun e w' hh => NewL.nil hh.1 hh.2)))
    have cLe := Lib.hid (fun W => (mLen W _ _ 0 (mGraph_nil W) (gLen_nil W)))
    have cHa := Lib.hid (fun W => (mHas W _ _ key false (mGraph_nil W) (gHas_nil W key)))
    have cA := Lib.hid (awake11 w)
    go_enter Try.func3, Try.ntmps3
    go_wp2_with fail
    (with_reducible refine cA.out.mono ?_)
    rintro e w1 ⟨rfl, hb1⟩
    have B1 := Lib.hid hb1
    clear hb1
    go_wp2_with fail
    (with_reducible refine (cV.out _).mono ?_)
    rintro e w2 ⟨rfl, rfl⟩
    go_wp2_with fail
    (with_reducible refine (cE.out _).mono ?_)
    rintro e w3 ⟨rfl, rfl⟩
    go_wp2_with fail
    (with_reducible refine (cF.out _).mono ?_)
    rintro e w4 ⟨rfl, rfl⟩
    go_wp2_with fail
    (with_reducible refine (cR.out _ _).mono ?_)
    rintro e w5 ⟨rfl, rfl⟩
    obtain ⟨W5, hW5⟩ : ∃ W5, W5 = w4.alloc (.cells #[.int .u64 key] 22) := ⟨_, rfl⟩
    have B5 := Lib.hid (show Below w.heap.size w W5 from by rw [hW5]; exact B1.out.alloc B1.out.size _)
    go_wp2_with fail
    rw [← hW5]
    clear hW5
    (with_reducible refine (mNew W5 dim HD.out).mono ?_); rintro e w6 ⟨z, p, m, mv, Q, rfl, -, hb6⟩; have B6 := Lib.hid (B5.out.trans (hb6.mono B5.out.size)); clear hb6
    go_wp2_with fail
    (with_reducible refine (cP.out _).mono ?_)
    rintro e w7 ⟨rfl, rfl⟩
    go_wp2_with fail
    (with_reducible refine (cNe.out _).mono ?_)
    intro e w8 h8
    obtain ⟨p8, c8, rfl, hb8⟩ := nil_of h8
    have B8 := Lib.hid (B6.out.trans (hb8.mono B6.out.size))
    clear h8 hb8
    go_wp2_with fail
    (with_reducible refine (cSo.out _).mono ?_)
    intro e w9 h9
    obtain ⟨p9, c9, rfl, hb9⟩ := nil_of h9
    have B9 := Lib.hid (B8.out.trans (hb9.mono B8.out.size))
    clear h9 hb9
    go_wp2_with fail
    (with_reducible refine (cKe.out _).mono ?_)
    intro e w10 h10
    obtain ⟨p10, c10, rfl, hb10⟩ := nil_of h10
    have B10 := Lib.hid (B9.out.trans (hb10.mono B9.out.size))
    clear h10 hb10
    go_wp2_with fail
    (with_reducible refine (cRe.out _).mono ?_)
    intro e w11 h11
    obtain ⟨p11, c11, rfl, hb11⟩ := nil_of h11
    have B11 := Lib.hid (B10.out.trans (hb11.mono B10.out.size))
    clear h11 hb11
    go_wp2_with fail
    (with_reducible refine (cLe.out _).mono ?_)
    rintro e w12 ⟨rfl, rfl⟩
    go_wp2_with fail
    (with_reducible refine (cHa.out _).mono ?_)
    rintro e w13 ⟨rfl, rfl⟩
    go_wp2_with fail
    go_ret
    exact ⟨rfl, B11.out⟩
  · have HD := Lib.hid hd
    by_cases hd1 : dim < 1
    · have hd3 : ¬ 1 ≤ dim := by omega
      have hd3b : decide (1 ≤ dim) = false := decide_eq_false hd3
      clear hd
      have cV := Lib.hid (fun W => mVec_nil W key)
      have cE := Lib.hid (fun W => mEntry_nil W)
      have cF := Lib.hid (fun W => mFind_nil W v 5)
      have cR := Lib.hid (fun W u => mRebuild_nil W u)
      have cP := Lib.hid (fun W => mPut_nil W key v)
      have cNe := Lib.hid (fun W => (mNear W _ _ key [] (mGraph_nil W) ((gNear_nil W key).mono fun e w' hh => NewL.nil hh.1 hh.2)))
      have cSo := Lib.hid (fun W => (mSoft W _ _ key [] (mGraph_nil W) (gSoft_nilM W key)))
      have cKe := Lib.hid (fun W => (mKeys W _ _ 0 [] (mGraph_nil W) ((gKeys_nil W).mono fun e w' hh => NewL.nil hh.1 hh.2)))
      have cRe := Lib.hid (fun W => (mReach W _ _ key [] (mGraph_nil W) ((gReach_nil W key).mono fun e w' hh => NewL.nil hh.1 hh.2)))
      have cLe := Lib.hid (fun W => (mLen W _ _ 0 (mGraph_nil W) (gLen_nil W)))
      have cHa := Lib.hid (fun W => (mHas W _ _ key false (mGraph_nil W) (gHas_nil W key)))
      have cA := Lib.hid (awake11 w)
      go_enter Try.func3, Try.ntmps3
      go_wp2_with fail
      (with_reducible refine cA.out.mono ?_)
      rintro e w1 ⟨rfl, hb1⟩
      have B1 := Lib.hid hb1
      clear hb1
      go_wp2_with fail
      (with_reducible refine (cV.out _).mono ?_)
      rintro e w2 ⟨rfl, rfl⟩
      go_wp2_with fail
      (with_reducible refine (cE.out _).mono ?_)
      rintro e w3 ⟨rfl, rfl⟩
      go_wp2_with fail
      (with_reducible refine (cF.out _).mono ?_)
      rintro e w4 ⟨rfl, rfl⟩
      go_wp2_with fail
      (with_reducible refine (cR.out _ _).mono ?_)
      rintro e w5 ⟨rfl, rfl⟩
      obtain ⟨W5, hW5⟩ : ∃ W5, W5 = w4.alloc (.cells #[.int .u64 key] 22) := ⟨_, rfl⟩
      have B5 := Lib.hid (show Below w.heap.size w W5 from by rw [hW5]; exact B1.out.alloc B1.out.size _)
      go_wp2_with fail
      rw [← hW5]
      clear hW5
      (with_reducible refine (mNew_no W5 dim HD.out).mono ?_); rintro e w6 ⟨rfl, rfl⟩; have B6 := B5
      go_wp2_with fail
      (with_reducible refine (cP.out _).mono ?_)
      rintro e w7 ⟨rfl, rfl⟩
      go_wp2_with fail
      (with_reducible refine (cNe.out _).mono ?_)
      intro e w8 h8
      obtain ⟨p8, c8, rfl, hb8⟩ := nil_of h8
      have B8 := Lib.hid (B6.out.trans (hb8.mono B6.out.size))
      clear h8 hb8
      go_wp2_with fail
      (with_reducible refine (cSo.out _).mono ?_)
      intro e w9 h9
      obtain ⟨p9, c9, rfl, hb9⟩ := nil_of h9
      have B9 := Lib.hid (B8.out.trans (hb9.mono B8.out.size))
      clear h9 hb9
      go_wp2_with fail
      (with_reducible refine (cKe.out _).mono ?_)
      intro e w10 h10
      obtain ⟨p10, c10, rfl, hb10⟩ := nil_of h10
      have B10 := Lib.hid (B9.out.trans (hb10.mono B9.out.size))
      clear h10 hb10
      go_wp2_with fail
      (with_reducible refine (cRe.out _).mono ?_)
      intro e w11 h11
      obtain ⟨p11, c11, rfl, hb11⟩ := nil_of h11
      have B11 := Lib.hid (B10.out.trans (hb11.mono B10.out.size))
      clear h11 hb11
      go_wp2_with fail
      (with_reducible refine (cLe.out _).mono ?_)
      rintro e w12 ⟨rfl, rfl⟩
      go_wp2_with fail
      (with_reducible refine (cHa.out _).mono ?_)
      rintro e w13 ⟨rfl, rfl⟩
      go_wp2_with fail
      go_ret
      exact ⟨rfl, B11.out⟩
    · have hd2 : 8 < dim := by omega
      have hd3 : 1 ≤ dim := by omega
      have hd4 : ¬ dim ≤ 8 := by omega
      have hd3b : decide (1 ≤ dim) = true := decide_eq_true hd3
      have hd4b : decide (dim ≤ 8) = false := decide_eq_false hd4
      clear hd
      have cV := Lib.hid (fun W => mVec_nil W key)
      have cE := Lib.hid (fun W => mEntry_nil W)
      have cF := Lib.hid (fun W => mFind_nil W v 5)
      have cR := Lib.hid (fun W u => mRebuild_nil W u)
      have cP := Lib.hid (fun W => mPut_nil W key v)
      have cNe := Lib.hid (fun W => (mNear W _ _ key [] (mGraph_nil W) ((gNear_nil W key).mono fun e w' hh => NewL.nil hh.1 hh.2)))
      have cSo := Lib.hid (fun W => (mSoft W _ _ key [] (mGraph_nil W) (gSoft_nilM W key)))
      have cKe := Lib.hid (fun W => (mKeys W _ _ 0 [] (mGraph_nil W) ((gKeys_nil W).mono fun e w' hh => NewL.nil hh.1 hh.2)))
      have cRe := Lib.hid (fun W => (mReach W _ _ key [] (mGraph_nil W) ((gReach_nil W key).mono fun e w' hh => NewL.nil hh.1 hh.2)))
      have cLe := Lib.hid (fun W => (mLen W _ _ 0 (mGraph_nil W) (gLen_nil W)))
      have cHa := Lib.hid (fun W => (mHas W _ _ key false (mGraph_nil W) (gHas_nil W key)))
      have cA := Lib.hid (awake11 w)
      go_enter Try.func3, Try.ntmps3
      go_wp2_with fail
      (with_reducible refine cA.out.mono ?_)
      rintro e w1 ⟨rfl, hb1⟩
      have B1 := Lib.hid hb1
      clear hb1
      go_wp2_with fail
      (with_reducible refine (cV.out _).mono ?_)
      rintro e w2 ⟨rfl, rfl⟩
      go_wp2_with fail
      (with_reducible refine (cE.out _).mono ?_)
      rintro e w3 ⟨rfl, rfl⟩
      go_wp2_with fail
      (with_reducible refine (cF.out _).mono ?_)
      rintro e w4 ⟨rfl, rfl⟩
      go_wp2_with fail
      (with_reducible refine (cR.out _ _).mono ?_)
      rintro e w5 ⟨rfl, rfl⟩
      obtain ⟨W5, hW5⟩ : ∃ W5, W5 = w4.alloc (.cells #[.int .u64 key] 22) := ⟨_, rfl⟩
      have B5 := Lib.hid (show Below w.heap.size w W5 from by rw [hW5]; exact B1.out.alloc B1.out.size _)
      go_wp2_with fail
      rw [← hW5]
      clear hW5
      (with_reducible refine (mNew_no W5 dim HD.out).mono ?_); rintro e w6 ⟨rfl, rfl⟩; have B6 := B5
      go_wp2_with fail
      (with_reducible refine (cP.out _).mono ?_)
      rintro e w7 ⟨rfl, rfl⟩
      go_wp2_with fail
      (with_reducible refine (cNe.out _).mono ?_)
      intro e w8 h8
      obtain ⟨p8, c8, rfl, hb8⟩ := nil_of h8
      have B8 := Lib.hid (B6.out.trans (hb8.mono B6.out.size))
      clear h8 hb8
      go_wp2_with fail
      (with_reducible refine (cSo.out _).mono ?_)
      intro e w9 h9
      obtain ⟨p9, c9, rfl, hb9⟩ := nil_of h9
      have B9 := Lib.hid (B8.out.trans (hb9.mono B8.out.size))
      clear h9 hb9
      go_wp2_with fail
      (with_reducible refine (cKe.out _).mono ?_)
      intro e w10 h10
      obtain ⟨p10, c10, rfl, hb10⟩ := nil_of h10
      have B10 := Lib.hid (B9.out.trans (hb10.mono B9.out.size))
      clear h10 hb10
      go_wp2_with fail
      (with_reducible refine (cRe.out _).mono ?_)
      intro e w11 h11
      obtain ⟨p11, c11, rfl, hb11⟩ := nil_of h11
      have B11 := Lib.hid (B10.out.trans (hb11.mono B10.out.size))
      clear h11 hb11
      go_wp2_with fail
      (with_reducible refine (cLe.out _).mono ?_)
      rintro e w12 ⟨rfl, rfl⟩
      go_wp2_with fail
      (with_reducible refine (cHa.out _).mono ?_)
      rintro e w13 ⟨rfl, rfl⟩
      go_wp2_with fail
      go_ret
      exact ⟨rfl, B11.out⟩

end Go.Proofs.Ytpjbkaibgajpcaa
