import Derived.Test.YtpoophimfjfgkaaBase
namespace Go.Proofs.Ytpoophimfjfgkaa
open Go.RowKit

def outB (n : Int) : Bool := decide (n < -268435456) || decide (268435456 < n)

theorem right1 (n : Int) (w : World) :
    Calls Try.prog 33 #[.int .i32 n] w fun e w' => e = .returned (.bool (outB n)) ∧ w = w' := by
  by_cases h : n < -268435456
  all_goals
    go_enter Try.func33, Try.ntmps33
    go_wp2
    go_ret
    exact ⟨by simp [outB, h]; try omega, rfl⟩

def idx (xs : List Int) : Int := match xs.findIdx? outB with | some k => k | none => -1

theorem idx_at (xs : List Int) (k : Nat) (hk : k < xs.length) (hall : ∀ j (h : j < xs.length), j < k → outB xs[j] = false) (hx : outB xs[k] = true) : idx xs = k := by
  have : xs.findIdx? outB = some k := by
    rw [List.findIdx?_eq_some_iff_getElem]
    exact ⟨hk, hx, fun j hj => by simpa using hall j (by omega) hj⟩
  simp [idx, this]

theorem idx_none (xs : List Int) (hall : ∀ j (h : j < xs.length), outB xs[j] = false) : idx xs = -1 := by
  have : xs.findIdx? outB = none := by
    rw [List.findIdx?_eq_none_iff]
    intro x hx
    obtain ⟨i, hi, rfl⟩ := List.mem_iff_getElem.1 hx
    exact hall i hi
  simp [idx, this]

theorem indexFunc (xs : List Int) (v : Value) (w : World) (h : Nums w .i32 v xs) :
    Calls Try.prog 34 #[v, .func (.func 33) #[] #[]] w fun e w' => e = .returned (.int .i64 (idx xs)) ∧ w = w' := by
  obtain ⟨p, cap, rfl, hcap, hbig, -, hc⟩ := h.slice
  have hl : xs.length ≤ 9223372036854775807 := by omega
  clear hcap hbig
  go_enter Try.func34, Try.ntmps34
  go_wp2_with fail
  go_loop [5, 8] (fun _ i => ∃ k : Nat, k ≤ xs.length ∧ i = .int .i64 k ∧ ∀ j (h : j < xs.length), j < k → outB xs[j] = false) (fun _ i => xs.length - (intOf i).toNat)
  case atStart => exact ⟨0, by omega, rfl, by omega⟩
  case round =>
    obtain ⟨k, hk, rfl, hall⟩ := hrel
    have H := Lib.hid hall
    have H2 := Lib.hid hc
    have H3 := Lib.hid h
    clear hall hc h
    by_cases hlt : k < xs.length
    · obtain ⟨b, off, rfl, hcell⟩ := H2.out k hlt
      cases hx : outB xs[k]
      · go_wp2_with (go_at_call 33; refine (right1 _ _).mono ?_; rintro e w' ⟨rfl, rfl⟩)
        go_round
        case rel => exact ⟨k + 1, by omega, by go_num, fun j h hj => by
          by_cases e : j = k
          · subst e; exact hx
          · exact H.out j h (by omega)⟩
        case measure => simp [intOf]; omega
      · go_wp2_with (go_at_call 33; refine (right1 _ _).mono ?_; rintro e w' ⟨rfl, rfl⟩)
        go_ret
        exact ⟨ret_int (idx_at xs k hlt H.out hx).symm, rfl⟩
    · go_wp2_with fail
      go_ret
      exact ⟨ret_int (idx_none xs fun j h => H.out j h (by omega)).symm, rfl⟩


def rightB (xs : List Int) : Bool := decide (0 < xs.length) && decide (xs.length ≤ 8) && !xs.any outB

theorem idx_ge (xs : List Int) : decide (0 ≤ idx xs) = xs.any outB := by
  unfold idx
  cases h : xs.findIdx? outB with
  | none =>
    rw [List.findIdx?_eq_none_iff] at h
    have : xs.any outB = false := by simp only [List.any_eq_false]; exact fun x hx => by simp [h x hx]
    simp [this]
  | some k =>
    rw [List.findIdx?_eq_some_iff_getElem] at h
    obtain ⟨hk, hx, _⟩ := h
    have : xs.any outB = true := by simp only [List.any_eq_true]; exact ⟨_, List.getElem_mem hk, hx⟩
    simp [this]

theorem containsFunc (xs : List Int) (v : Value) (w : World) (h : Nums w .i32 v xs) :
    Calls Try.prog 32 #[v, .func (.func 33) #[] #[]] w fun e w' => e = .returned (.bool (xs.any outB)) ∧ w = w' := by
  have H := Lib.hid h
  clear h
  go_enter Try.func32, Try.ntmps32
  go_wp2_with fail
  refine (indexFunc xs _ _ H.out).mono ?_
  rintro e w' ⟨rfl, rfl⟩
  go_wp2_with fail
  go_ret
  exact ⟨ret_bool (idx_ge xs), rfl⟩

theorem right (xs : List Int) (v : Value) (w : World) (h : Nums w .i32 v xs) :
    Calls Try.prog 26 #[v] w fun e w' => e = .returned (.bool (rightB xs)) ∧ w = w' := by
  obtain ⟨p, cap, rfl, hcap, hbig, -, hc⟩ := h.slice
  have hl : xs.length ≤ 9223372036854775807 := by omega
  clear hcap hbig
  clear hc
  have H := Lib.hid h
  clear h
  by_cases h1 : 0 < xs.length
  · by_cases h2 : xs.length ≤ 8
    · go_enter Try.func26, Try.ntmps26
      go_wp2_with (go_at_call 32; refine (containsFunc xs _ _ H.out).mono ?_; rintro e w' ⟨rfl, rfl⟩)
      go_ret
      exact ⟨ret_bool (by simp [rightB, h1, h2]), rfl⟩
    · go_enter Try.func26, Try.ntmps26
      go_wp2_with fail
      go_ret
      exact ⟨ret_bool (by simp [rightB, h1, h2]), rfl⟩
  · go_enter Try.func26, Try.ntmps26
    go_wp2_with fail
    go_ret
    exact ⟨ret_bool (by simp [rightB, h1]), rfl⟩

end Go.Proofs.Ytpoophimfjfgkaa
