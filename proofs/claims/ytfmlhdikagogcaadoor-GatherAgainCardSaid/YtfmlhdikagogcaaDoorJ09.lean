/-
  note: what a kind's fields say of a right note.
  The document's Right, of vectors.
  note: the document's Right, of a Query and of a Seen: its small functions.
-/
import Derived.Test.YtfmlhdikagogcaaDoorJ08
import Derived.Test.YtfmlhdikagogcaaDoorJ04
import Derived.Deep.DeepCutAuto
namespace Go.Proofs.YtfmlhdikagogcaaDoor
open Go.RowKit
set_option maxRecDepth 20000

theorem heldN_bit (l : List Bool) (j i : Nat) : (heldN l j).testBit i = (decide (j ≤ i) && l.getD (i - j) false) := by
  induction l generalizing j with
  | nil => simp [heldN]
  | cons b r ih =>
    unfold heldN
    rw [Nat.testBit_or, ih (j + 1)]
    rcases Nat.lt_trichotomy i j with h | h | h
    · rw [decide_eq_false (by omega), decide_eq_false (by omega)]
      cases b
      · simp
      · simp [Nat.one_shiftLeft, Nat.testBit_two_pow]; omega
    · subst h
      rw [decide_eq_true (Nat.le_refl _), decide_eq_false (by omega), Nat.sub_self]
      cases b <;> simp [Nat.one_shiftLeft, Nat.testBit_two_pow]
    · rw [decide_eq_true (by omega), decide_eq_true (by omega), show i - j = i - (j + 1) + 1 by omega, List.getD_cons_succ]
      cases b
      · simp
      · simp [Nat.one_shiftLeft, Nat.testBit_two_pow]; intro; omega

theorem fits_bit {n : Nt} (h : fitsB n = true) (hf : 0 ≤ fieldsZ n.kind) (i : Nat) (hi : i < 15) (hb : (fieldsZ n.kind).toNat.testBit i = false) : n.flags.getD i false = false := by
  have h0 : bits .andNot .i64 (heldN n.flags 0 : Int) (fieldsZ n.kind) = 0 := by simpa [fitsB] using h
  obtain ⟨f, hfe⟩ : ∃ f : Nat, fieldsZ n.kind = f := ⟨(fieldsZ n.kind).toNat, by omega⟩
  rw [hfe] at h0 hb
  have h1 := heldN_lt n.flags 0
  have h2 : n.flags.length = 15 := rfl
  rw [h2] at h1
  have h3 : IntKind.i64.wrap ((BitVec.ofInt 64 (heldN n.flags 0 : Int) &&& ~~~ BitVec.ofInt 64 (f : Int)).toNat : Int) = 0 := h0
  have h4 : (BitVec.ofInt 64 (heldN n.flags 0 : Int) &&& ~~~ BitVec.ofInt 64 (f : Int)).toNat = 0 := by
    generalize (BitVec.ofInt 64 (heldN n.flags 0 : Int) &&& ~~~ BitVec.ofInt 64 (f : Int)) = X at h3 ⊢
    have := X.isLt
    simp only [IntKind.wrap, IntKind.signed, IntKind.bits] at h3
    generalize X.toNat = y at *
    simp at h3
    omega
  have h5 : (BitVec.ofInt 64 (heldN n.flags 0 : Int) &&& ~~~ BitVec.ofInt 64 (f : Int)) = 0#64 := BitVec.eq_of_toNat_eq (by rw [h4]; rfl)
  have h6 := congrArg (fun x => x.getLsbD i) h5
  simp only [BitVec.getLsbD_and, BitVec.getLsbD_not, BitVec.getLsbD_zero] at h6
  have h7 : (BitVec.ofInt 64 (heldN n.flags 0 : Int)).getLsbD i = (heldN n.flags 0).testBit i := by
    rw [BitVec.getLsbD, BitVec.toNat_ofInt]
    congr 1; omega
  have h8 : (BitVec.ofInt 64 (f : Int)).getLsbD i = false := by
    rw [BitVec.getLsbD, BitVec.toNat_ofInt, show ((f : Int) % ((2 ^ 64 : Nat) : Int)).toNat = f % 2 ^ 64 by omega, Nat.testBit_mod_two_pow]
    simp at hb; simp [hb]
  rw [h7, h8, heldN_bit] at h6
  simpa [show i < 64 by omega] using h6

theorem right_parts {n : Nt} (h : rightN n = true) : 1 ≤ n.kind ∧ n.kind ≤ 22 ∧ fitsB n = true ∧ boundedB n = true := by
  unfold rightN at h
  simp only [Bool.and_eq_true, decide_eq_true_eq] at h
  exact ⟨h.1.1.1, h.1.1.2, h.1.2, h.2⟩

theorem bare_len {xs : List Int} (h : bareB xs = true) : xs.length ≤ 8 := by
  unfold bareB at h
  simp only [Bool.or_eq_true, beq_iff_eq] at h
  rcases h with h | h
  · omega
  · have := h; unfold rightB at this; simp at this; omega

/-- a query holds nothing but its vector -/
theorem right_query {n : Nt} (h : rightN n = true) (hk : n.kind = 8) : (n.parts = [] ∧ n.ops = [] ∧ n.hits = []) ∧ n.vec.length ≤ 8 ∧ n.txn ≤ 0 ∧ n.batch ≤ 0 ∧ n.stamp ≤ 0 ∧ n.after ≤ 0 ∧ n.mark ≤ 0 ∧ n.code = 0 ∧ n.who = 0 := by
  obtain ⟨-, -, hf, hb⟩ := right_parts h
  have hz : fieldsZ n.kind = 8672 := by rw [hk]; rfl
  have hN : (fieldsZ n.kind).toNat = 8672 := by rw [hz]; rfl
  have f := fun i hi hb => fits_bit hf (by rw [hz]; decide) i hi hb
  rw [hN] at f
  have f0 := f 0 (by decide) (by decide)
  have f1 := f 1 (by decide) (by decide)
  have f2 := f 2 (by decide) (by decide)
  have f3 := f 3 (by decide) (by decide)
  have f4 := f 4 (by decide) (by decide)
  have f9 := f 9 (by decide) (by decide)
  have f10 := f 10 (by decide) (by decide)
  have f11 := f 11 (by decide) (by decide)
  have f12 := f 12 (by decide) (by decide)
  have f14 := f 14 (by decide) (by decide)
  unfold Nt.flags at f0 f1 f2 f3 f4 f9 f10 f11 f12 f14
  simp at f0 f1 f2 f3 f4 f9 f10 f11 f12 f14
  unfold boundedB at hb
  simp only [Bool.and_eq_true] at hb
  have hl := hb.1.1.1.2
  unfold lensB at hl
  simp only [Bool.and_eq_true] at hl
  exact ⟨⟨f11, f12, f14⟩, bare_len hl.2, f0, f1, f2, f3, f4, f9, f10⟩

/-- what has been seen tells hits alone, or an error -/
theorem right_seen {n : Nt} (h : rightN n = true) (hk : n.kind = 10) : n.hits.length ≤ 16 ∧ (∀ h ∈ n.hits, badHit h = false) ∧ 0 ≤ n.code ∧ n.code ≤ 13 := by
  obtain ⟨-, -, hf, hb⟩ := right_parts h
  unfold boundedB at hb
  simp only [Bool.and_eq_true] at hb
  have hl := hb.1.1.1.2
  have hn := hb.1.1.1.1
  have hh := hb.2
  unfold lensB at hl
  unfold numsB at hn
  simp only [Bool.and_eq_true, decide_eq_true_eq] at hl hn
  simp at hh
  exact ⟨hl.1.2, hh, hn.1.1.1.1.2, hn.2⟩

end Go.Proofs.YtfmlhdikagogcaaDoor

namespace Go.Proofs.YtfmlhdikagogcaaDoor
open Go.RowKit
set_option maxRecDepth 20000

theorem refRight (xs : List Int) (v : Value) (w : World) (h : Nums w .i32 v xs) :
    Calls Tryd.prog 18 #[v] w fun e w' => e = .returned (.bool (rightB xs)) ∧ w = w' := by
  obtain ⟨p, cap, rfl, hcap, hbig, -, hc⟩ := h.slice
  have hl : xs.length ≤ 9223372036854775807 := by omega
  clear hcap hbig
  have H := Lib.hid h
  clear h hc
  go_enter Tryd.func18, Tryd.ntmps18
  go_wp2
  go_loop [4, 7] (fun _ i => ∃ k : Nat, k ≤ xs.length ∧ i = .int .i64 k ∧ ∀ j (h : j < xs.length), j < k → outR xs[j] = false) (fun _ i => xs.length - (intOf i).toNat)
  case atStart => exact ⟨0, by omega, rfl, by omega⟩
  case round =>
    obtain ⟨k, hk, rfl, hall⟩ := hrel
    have A := Lib.hid hall
    clear hall
    by_cases hlt : k < xs.length
    · obtain ⟨b, off, rfl, hcell⟩ := H.out.elem hlt
      by_cases h1 : 268435456 < xs[k]
      · go_wp2
        go_ret
        exact ⟨ret_bool (by have : xs.any outR = true := by rw [List.any_eq_true]; exact ⟨_, List.getElem_mem hlt, by simp [outR, h1]⟩
                            simp [rightB, this]), rfl⟩
      · by_cases h2 : xs[k] < -268435456
        · go_wp2
          go_ret
          exact ⟨ret_bool (by have : xs.any outR = true := by rw [List.any_eq_true]; exact ⟨_, List.getElem_mem hlt, by simp [outR, h2]⟩
                              simp [rightB, this]), rfl⟩
        · go_wp2
          go_round
          case rel => exact ⟨k + 1, by omega, by go_num, fun j h hj => by
            by_cases e : j = k
            · subst e; simp [outR]; omega
            · exact A.out j h (by omega)⟩
          case measure => simp [intOf]; omega
    · have hany : xs.any outR = false := by
        simp only [List.any_eq_false]
        intro x hx
        obtain ⟨i, hi, rfl⟩ := List.mem_iff_getElem.1 hx
        simp [A.out i hi (by omega)]
      have Y := Lib.hid hany
      clear hany
      by_cases h1 : 1 ≤ xs.length
      · go_wp2
        go_ret
        exact ⟨ret_bool (by have h0 : 0 < xs.length := by omega
                            simp [rightB, Y.out, h0]; omega), rfl⟩
      · go_wp2
        go_ret
        exact ⟨ret_bool (by simp [rightB]; omega), rfl⟩

end Go.Proofs.YtfmlhdikagogcaaDoor

namespace Go.Proofs.YtfmlhdikagogcaaDoor
open Go.RowKit
set_option maxRecDepth 20000

/-- the letters of a kind's fields -/
def kbytes (kind : Int) : ByteArray := if kind = 8 then ⟨#[113, 105, 107, 101, 118]⟩ else ⟨#[113, 99, 104]⟩
def kname (kind : Int) : ByteArray := if kind = 8 then ⟨#[81, 117, 101, 114, 121]⟩ else ⟨#[83, 101, 101, 110]⟩

theorem name8 (w : World) : Calls Tryd.prog 47 #[.int .u8 8] w fun e w' => e = .returned (.tuple #[.string (kname 8), .string (kbytes 8)]) ∧ w = w' := by
  go_enter Tryd.func47, Tryd.ntmps47
  go_wp2_with fail
  go_ret2
  exact ⟨rfl, rfl⟩

theorem name10 (w : World) : Calls Tryd.prog 47 #[.int .u8 10] w fun e w' => e = .returned (.tuple #[.string (kname 10), .string (kbytes 10)]) ∧ w = w' := by
  go_enter Tryd.func47, Tryd.ntmps47
  go_wp2_with fail
  go_ret2
  exact ⟨rfl, rfl⟩

theorem nameK (kind : Int) (hk : kind = 8 ∨ kind = 10) (w : World) : Calls Tryd.prog 47 #[.int .u8 kind] w fun e w' => e = .returned (.tuple #[.string (kname kind), .string (kbytes kind)]) ∧ w = w' := by
  rcases hk with rfl | rfl
  · exact name8 w
  · exact name10 w

def hasB (s : ByteArray) (f : Int) : Bool := s.data.toList.any fun b => decide ((b.toNat : Int) = f)

theorem hasK (kind f : Int) (hk : kind = 8 ∨ kind = 10) (w : World) : Calls Tryd.prog 63 #[.int .u8 kind, .int .u8 f] w fun e w' => e = .returned (.bool (hasB (kbytes kind) f)) ∧ w = w' := by
  have NK := Lib.hid (nameK kind hk w)
  obtain ⟨s, hs⟩ : ∃ s, s = kbytes kind := ⟨_, rfl⟩
  rw [← hs] at NK ⊢
  have hsz : s.size ≤ 5 := by rcases hk with rfl | rfl <;> (rw [hs]; decide)
  have hl : s.data.toList.length = s.size := by rw [Array.length_toList]; rfl
  clear hs hk
  go_enter Tryd.func63, Tryd.ntmps63
  go_wp2_with fail
  with_reducible refine NK.out.mono ?_
  rintro e w' ⟨rfl, rfl⟩
  go_wp2_with fail
  go_loopg [7] s.size (fun q i wr => ∃ k : Nat, q = s.size - k ∧ k ≤ s.size ∧ i = .int .i64 k ∧ (∀ j (h : j < s.data.toList.length), j < k → ((s.data.toList[j]).toNat : Int) ≠ f) ∧ wr = w)
  case atStart => exact ⟨0, rfl, by omega, rfl, by omega, rfl⟩
  case round =>
    obtain ⟨k, rfl, hk, rfl, hall, rfl⟩ := hrel
    have A := Lib.hid hall
    clear hall
    by_cases hlt : k < s.size
    · have hkd : k < s.data.toList.length := by omega
      obtain ⟨x, hx⟩ : ∃ x : Int, x = ((s.data.toList[k]).toNat : Int) := ⟨_, rfl⟩
      have hix : ∀ w, (Instr.index 9 (.string s) (.int .i64 k)).run Tryd.prog w = .ok (.int .u8 x) w := fun w => by
        rw [run_index_string w 9 s .i64 k Tryd.underlying9, dif_pos ⟨by omega, by omega⟩, hx]
        rfl
      have HX := Lib.hid hx
      have k0 : (k : Int) < (s.size : Int) := by omega
      clear hx hl
      by_cases hf : x = f
      · go_wp2_with fail
        go_ret
        refine ⟨ret_bool ?_, rfl⟩
        unfold hasB
        symm
        rw [List.any_eq_true]
        exact ⟨_, List.getElem_mem hkd, by rw [← HX.out]; simp [hf]⟩
      · go_wp2_with fail
        go_roundg (s.size - (k + 1))
        case measure => omega
        case rel => exact ⟨k + 1, rfl, by omega, by go_num, fun j hj hj2 => by
          by_cases e : j = k
          · subst e; rw [← HX.out]; exact hf
          · exact A.out j hj (by omega), rfl⟩
    · have hno : hasB s f = false := by
        unfold hasB
        rw [List.any_eq_false]
        intro b hb
        obtain ⟨j, hj, rfl⟩ := List.mem_iff_getElem.1 hb
        have := A.out j hj (by omega)
        simpa using this
      go_wp2_with fail
      go_ret
      exact ⟨ret_bool hno.symm, rfl⟩

/-- a number of a field -/
def numB (kind f x most : Int) : Bool := decide (x ≤ most) && (decide (x = 0) || hasB (kbytes kind) f)

theorem numK (kind f x most : Int) (hk : kind = 8 ∨ kind = 10) (w : World) : Calls Tryd.prog 48 #[.int .u8 kind, .int .u8 f, .int .u64 x, .int .u64 most] w fun e w' => e = .returned (.bool (numB kind f x most)) ∧ w = w' := by
  have HK := Lib.hid (hasK kind f hk w)
  clear hk
  generalize hb : hasB (kbytes kind) f = b at HK
  have HB := Lib.hid hb
  clear hb
  by_cases h1 : x ≤ most
  · by_cases h2 : x = 0
    · go_enter Tryd.func48, Tryd.ntmps48
      go_wp2_with fail
      go_ret
      exact ⟨ret_bool (by unfold numB; rw [decide_eq_true h2]; simp; omega), rfl⟩
    · go_enter Tryd.func48, Tryd.ntmps48
      go_wp2_with fail
      with_reducible refine HK.out.mono ?_
      rintro e w' ⟨rfl, rfl⟩
      go_wp2_with fail
      go_ret
      exact ⟨ret_bool (by simp [numB, h1, h2, HB.out]), rfl⟩
  · go_enter Tryd.func48, Tryd.ntmps48
    go_wp2_with fail
    go_ret
    exact ⟨ret_bool (by unfold numB; rw [decide_eq_false (show ¬ x ≤ most by omega)]; rfl), rfl⟩

theorem vecK (xs : List Int) (v : Value) (w : World) (h : Nums w .i32 v xs) :
    Calls Tryd.prog 49 #[v] w fun e w' => e = .returned (.bool (decide (xs.length = 0) || rightB xs)) ∧ w = w' := by
  obtain ⟨p, cap, rfl, hcap, hbig, -, hc⟩ := h.slice
  have hl : xs.length ≤ 9223372036854775807 := by omega
  have R := Lib.hid (refRight xs _ w h)
  clear h hc hcap hbig
  by_cases h0 : xs.length = 0
  · have h0' : (xs.length : Int) = 0 := by omega
    go_enter Tryd.func49, Tryd.ntmps49
    go_wp2_with fail
    go_ret
    exact ⟨ret_bool (by simp [h0]), rfl⟩
  · have h0' : ¬ (xs.length : Int) = 0 := by omega
    go_enter Tryd.func49, Tryd.ntmps49
    go_wp2_with fail
    with_reducible refine R.out.mono ?_
    rintro e w' ⟨rfl, rfl⟩
    go_wp2_with fail
    go_ret
    exact ⟨ret_bool (by simp [h0]), rfl⟩

end Go.Proofs.YtfmlhdikagogcaaDoor
