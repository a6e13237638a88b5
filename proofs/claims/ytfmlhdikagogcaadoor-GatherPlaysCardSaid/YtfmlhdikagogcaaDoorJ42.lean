/-
  The document's Right, of vectors.
  note: the document's Right, of a Query and of a Seen: its small functions.
-/
import Derived.Test.YtfmlhdikagogcaaDoorJ11
import Derived.Test.YtfmlhdikagogcaaDoorJ19
import Derived.Deep.DeepCutAuto
namespace Go.Proofs.YtfmlhdikagogcaaDoor
open Go.RowKit
set_option maxRecDepth 20000

theorem refRight (xs : List Int) (v : Value) (w : World) (h : Nums w .i32 v xs) :
    Calls Tryd.prog 18 #[v] w fun e w' => e = .returned (.bool (rightB xs)) ∧ w = w' := by
  obtain ⟨p, cap, rfl, hcap, hbig, -, hc⟩ := h.slice
  have hl : xs.length ≤ 9223372036854775807 := by omega
  clear hcap hbig
  have H := Lib.hid h
  clear h hc
  go_enter Tryd.func18, Tryd.ntmps18
  go_wp2
  go_loop [4, 7] (fun _ i => ∃ k : Nat, k ≤ xs.length ∧ i = .int .i64 k ∧ ∀ j (h : j < xs.length), j < k → outR xs[j] = false) (fun _ i => xs.length - (intOf i).toNat)
  case atStart => exact ⟨0, by omega, rfl, by omega⟩
  case round =>
    obtain ⟨k, hk, rfl, hall⟩ := hrel
    have A := Lib.hid hall
    clear hall
    by_cases hlt : k < xs.length
    · obtain ⟨b, off, rfl, hcell⟩ := H.out.elem hlt
      by_cases h1 : 268435456 < xs[k]
      · go_wp2
        go_ret
        exact ⟨ret_bool (by have : xs.any outR = true := by rw [List.any_eq_true]; exact ⟨_, List.getElem_mem hlt, by simp [outR, h1]⟩
                            simp [rightB, this]), rfl⟩
      · by_cases h2 : xs[k] < -268435456
        · go_wp2
          go_ret
          exact ⟨ret_bool (by have : xs.any outR = true := by rw [List.any_eq_true]; exact ⟨_, List.getElem_mem hlt, by simp [outR, h2]⟩
                              simp [rightB, this]), rfl⟩
        · go_wp2
          go_round
          case rel => exact ⟨k + 1, by omega, by go_num, fun j h hj => by
            by_cases e : j = k
            · subst e; simp [outR]; omega
            · exact A.out j h (by omega)⟩
          case measure => simp [intOf]; omega
    · have hany : xs.any outR = false := by
        simp only [List.any_eq_false]
        intro x hx
        obtain ⟨i, hi, rfl⟩ := List.mem_iff_getElem.1 hx
        simp [A.out i hi (by omega)]
      have Y := Lib.hid hany
      clear hany
      by_cases h1 : 1 ≤ xs.length
      · go_wp2
        go_ret
        exact ⟨ret_bool (by have h0 : 0 < xs.length := by omega
                            simp [rightB, Y.out, h0]; omega), rfl⟩
      · go_wp2
        go_ret
        exact ⟨ret_bool (by simp [rightB]; omega), rfl⟩

end Go.Proofs.YtfmlhdikagogcaaDoor

namespace Go.Proofs.YtfmlhdikagogcaaDoor
open Go.RowKit
set_option maxRecDepth 20000

/-- the letters of a kind's fields -/
def kbytes (kind : Int) : ByteArray := if kind = 8 then ⟨#[113, 105, 107, 101, 118]⟩ else ⟨#[113, 99, 104]⟩
def kname (kind : Int) : ByteArray := if kind = 8 then ⟨#[81, 117, 101, 114, 121]⟩ else ⟨#[83, 101, 101, 110]⟩

theorem name8 (w : World) : Calls Tryd.prog 47 #[.int .u8 8] w fun e w' => e = .returned (.tuple #[.string (kname 8), .string (kbytes 8)]) ∧ w = w' := by
  go_enter Tryd.func47, Tryd.ntmps47
  go_wp2_with fail
  go_ret2
  exact ⟨rfl, rfl⟩

theorem name10 (w : World) : Calls Tryd.prog 47 #[.int .u8 10] w fun e w' => e = .returned (.tuple #[.string (kname 10), .string (kbytes 10)]) ∧ w = w' := by
  go_enter Tryd.func47, Tryd.ntmps47
  go_wp2_with fail
  go_ret2
  exact ⟨rfl, rfl⟩

theorem nameK (kind : Int) (hk : kind = 8 ∨ kind = 10) (w : World) : Calls Tryd.prog 47 #[.int .u8 kind] w fun e w' => e = .returned (.tuple #[.string (kname kind), .string (kbytes kind)]) ∧ w = w' := by
  rcases hk with rfl | rfl
  · exact name8 w
  · exact name10 w

def hasB (s : ByteArray) (f : Int) : Bool := s.data.toList.any fun b => decide ((b.toNat : Int) = f)

theorem hasK (kind f : Int) (hk : kind = 8 ∨ kind = 10) (w : World) : Calls Tryd.prog 63 #[.int .u8 kind, .int .u8 f] w fun e w' => e = .returned (.bool (hasB (kbytes kind) f)) ∧ w = w' := by
  have NK := Lib.hid (nameK kind hk w)
  obtain ⟨s, hs⟩ : ∃ s, s = kbytes kind := ⟨_, rfl⟩
  rw [← hs] at NK ⊢
  have hsz : s.size ≤ 5 := by rcases hk with rfl | rfl <;> (rw [hs]; decide)
  have hl : s.data.toList.length = s.size := by rw [Array.length_toList]; rfl
  clear hs hk
  go_enter Tryd.func63, Tryd.ntmps63
  go_wp2_with fail
  with_reducible refine NK.out.mono ?_
  rintro e w' ⟨rfl, rfl⟩
  go_wp2_with fail
  go_loopg [7] s.size (fun q i wr => ∃ k : Nat, q = s.size - k ∧ k ≤ s.size ∧ i = .int .i64 k ∧ (∀ j (h : j < s.data.toList.length), j < k → ((s.data.toList[j]).toNat : Int) ≠ f) ∧ wr = w)
  case atStart => exact ⟨0, rfl, by omega, rfl, by omega, rfl⟩
  case round =>
    obtain ⟨k, rfl, hk, rfl, hall, rfl⟩ := hrel
    have A := Lib.hid hall
    clear hall
    by_cases hlt : k < s.size
    · have hkd : k < s.data.toList.length := by omega
      obtain ⟨x, hx⟩ : ∃ x : Int, x = ((s.data.toList[k]).toNat : Int) := ⟨_, rfl⟩
      have hix : ∀ w, (Instr.index 9 (.string s) (.int .i64 k)).run Tryd.prog w = .ok (.int .u8 x) w := fun w => by
        rw [run_index_string w 9 s .i64 k Tryd.underlying9, dif_pos ⟨by omega, by omega⟩, hx]
        rfl
      have HX := Lib.hid hx
      have k0 : (k : Int) < (s.size : Int) := by omega
      clear hx hl
      by_cases hf : x = f
      · go_wp2_with fail
        go_ret
        refine ⟨ret_bool ?_, rfl⟩
        unfold hasB
        symm
        rw [List.any_eq_true]
        exact ⟨_, List.getElem_mem hkd, by rw [← HX.out]; simp [hf]⟩
      · go_wp2_with fail
        go_roundg (s.size - (k + 1))
        case measure => omega
        case rel => exact ⟨k + 1, rfl, by omega, by go_num, fun j hj hj2 => by
          by_cases e : j = k
          · subst e; rw [← HX.out]; exact hf
          · exact A.out j hj (by omega), rfl⟩
    · have hno : hasB s f = false := by
        unfold hasB
        rw [List.any_eq_false]
        intro b hb
        obtain ⟨j, hj, rfl⟩ := List.mem_iff_getElem.1 hb
        have := A.out j hj (by omega)
        simpa using this
      go_wp2_with fail
      go_ret
      exact ⟨ret_bool hno.symm, rfl⟩

/-- a number of a field -/
def numB (kind f x most : Int) : Bool := decide (x ≤ most) && (decide (x = 0) || hasB (kbytes kind) f)

theorem numK (kind f x most : Int) (hk : kind = 8 ∨ kind = 10) (w : World) : Calls Tryd.prog 48 #[.int .u8 kind, .int .u8 f, .int .u64 x, .int .u64 most] w fun e w' => e = .returned (.bool (numB kind f x most)) ∧ w = w' := by
  have HK := Lib.hid (hasK kind f hk w)
  clear hk
  generalize hb : hasB (kbytes kind) f = b at HK
  have HB := Lib.hid hb
  clear hb
  by_cases h1 : x ≤ most
  · by_cases h2 : x = 0
    · go_enter Tryd.func48, Tryd.ntmps48
      go_wp2_with fail
      go_ret
      exact ⟨ret_bool (by unfold numB; rw [decide_eq_true h2]; simp; omega), rfl⟩
    · go_enter Tryd.func48, Tryd.ntmps48
      go_wp2_with fail
      with_reducible refine HK.out.mono ?_
      rintro e w' ⟨rfl, rfl⟩
      go_wp2_with fail
      go_ret
      exact ⟨ret_bool (by simp [numB, h1, h2, HB.out]), rfl⟩
  · go_enter Tryd.func48, Tryd.ntmps48
    go_wp2_with fail
    go_ret
    exact ⟨ret_bool (by unfold numB; rw [decide_eq_false (show ¬ x ≤ most by omega)]; rfl), rfl⟩

theorem vecK (xs : List Int) (v : Value) (w : World) (h : Nums w .i32 v xs) :
    Calls Tryd.prog 49 #[v] w fun e w' => e = .returned (.bool (decide (xs.length = 0) || rightB xs)) ∧ w = w' := by
  obtain ⟨p, cap, rfl, hcap, hbig, -, hc⟩ := h.slice
  have hl : xs.length ≤ 9223372036854775807 := by omega
  have R := Lib.hid (refRight xs _ w h)
  clear h hc hcap hbig
  by_cases h0 : xs.length = 0
  · have h0' : (xs.length : Int) = 0 := by omega
    go_enter Tryd.func49, Tryd.ntmps49
    go_wp2_with fail
    go_ret
    exact ⟨ret_bool (by simp [h0]), rfl⟩
  · have h0' : ¬ (xs.length : Int) = 0 := by omega
    go_enter Tryd.func49, Tryd.ntmps49
    go_wp2_with fail
    with_reducible refine R.out.mono ?_
    rintro e w' ⟨rfl, rfl⟩
    go_wp2_with fail
    go_ret
    exact ⟨ret_bool (by simp [h0]), rfl⟩

end Go.Proofs.YtfmlhdikagogcaaDoor
