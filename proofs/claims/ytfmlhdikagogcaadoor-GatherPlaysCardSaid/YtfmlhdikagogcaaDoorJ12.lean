/-
  note: is one of the ops, or of the hits, too great?
-/
import Derived.Test.YtfmlhdikagogcaaDoorJ11
namespace Go.Proofs.YtfmlhdikagogcaaDoor
open Go.RowKit
set_option maxRecDepth 20000

/-- where the first one is; -1: nowhere -/
def posG {α : Type} (p : α → Bool) (l : List α) : Int := match l.findIdx? p with | some k => k | none => -1

theorem posG_at {α : Type} {p : α → Bool} {l : List α} {k : Nat} (hk : k < l.length) (hall : ∀ j (h : j < l.length), j < k → p l[j] = false) (hx : p l[k] = true) : posG p l = k := by
  have : l.findIdx? p = some k := by
    rw [List.findIdx?_eq_some_iff_getElem]
    exact ⟨hk, hx, fun j hj => by simpa using hall j (by omega) hj⟩
  simp [posG, this]

theorem posG_none {α : Type} {p : α → Bool} {l : List α} (hall : ∀ j (h : j < l.length), p l[j] = false) : posG p l = -1 := by
  have : l.findIdx? p = none := by
    rw [List.findIdx?_eq_none_iff]
    intro x hx
    obtain ⟨i, hi, rfl⟩ := List.mem_iff_getElem.1 hx
    exact hall i hi
  simp [posG, this]

theorem posG_ge {α : Type} (p : α → Bool) (l : List α) : decide (0 ≤ posG p l) = l.any p := by
  unfold posG
  cases h : l.findIdx? p with
  | none =>
    rw [List.findIdx?_eq_none_iff] at h
    have : l.any p = false := by simp only [List.any_eq_false]; exact fun x hx => by simp [h x hx]
    simp [this]
  | some k =>
    rw [List.findIdx?_eq_some_iff_getElem] at h
    obtain ⟨hk, hx, _⟩ := h
    have : l.any p = true := by simp only [List.any_eq_true]; exact ⟨_, List.getElem_mem hk, hx⟩
    simp [this]

theorem RecsF.below {w w' : World} {F : Nat → Prop} {v : Value} {l : List (Int × List Int)} (h : RecsF w F v l) (hb : Below w.heap.size w w') : RecsF w' F v l := by
  obtain ⟨p, cap, hv, h1, h2, h3, h4⟩ := h
  refine ⟨p, cap, hv, h1, h2, h3, fun i hi => ?_⟩
  obtain ⟨b, off, u, hp, hf, c0, c1, hn, hl⟩ := h4 i hi
  exact ⟨b, off, u, hp, hf, below_cells hb c0, below_cells hb c1, hn.below hb, hl⟩

theorem indexOps (l : List (Int × List Int)) (F : Nat → Prop) (v : Value) (w : World) (h : RecsF w F v l) :
    Calls Tryd.prog 84 #[v, .func (.func 73) #[] #[]] w fun e w' => e = .returned (.int .i64 (posG badOp l)) ∧ Below w.heap.size w w' := by
  obtain ⟨p, cap, rfl, hcap, hbig, -, -⟩ := id h
  have hl : l.length ≤ 9223372036854775807 := by omega
  have H := Lib.hid h
  clear hcap hbig h
  go_enter Tryd.func84, Tryd.ntmps84
  go_wp2_with fail
  go_loopg [5, 8] l.length (fun q _ i wr => ∃ k : Nat, q = l.length - k ∧ k ≤ l.length ∧ i = .int .i64 k ∧ (∀ j (h : j < l.length), j < k → badOp l[j] = false) ∧ Below w.heap.size w wr)
  case atStart => exact ⟨0, rfl, by omega, rfl, fun j _ h => absurd h (by omega), Below.refl _ _⟩
  case round =>
    obtain ⟨k, rfl, hk, rfl, hall, hb⟩ := hrel
    have O := Lib.hid (And.intro hall hb)
    by_cases hlt : k < l.length
    · have hr := H.out.below hb
      obtain ⟨b, off, u, rfl, -, c0, c1, hu, -⟩ := hr.elem hlt
      obtain ⟨up, uc, rfl, -, -, -, -⟩ := hu.slice
      have A := Lib.hid (bounded1 l[k].1 l[k].2 _ _ hu)
      clear hu
      clear hall hb hr
      cases hx : badOp l[k]
      · go_wp2_with fail
        refine A.out.mono ?_
        rintro e w' ⟨rfl, hb'⟩
        have B' := Lib.hid (O.out.2.trans (hb'.mono O.out.2.size))
        rw [show badOp (l[k].1, l[k].2) = false from hx]
        have X := Lib.hid hx
        clear hb' hx
        go_wp2_with fail
        go_roundg (l.length - (k + 1))
        case measure => omega
        case rel => exact ⟨k + 1, rfl, by omega, by go_num, fun j h hj => by
          by_cases e : j = k
          · subst e; exact X.out
          · exact O.out.1 j h (by omega), B'.out⟩
      · go_wp2_with fail
        refine A.out.mono ?_
        rintro e w' ⟨rfl, hb'⟩
        have B' := Lib.hid (O.out.2.trans (hb'.mono O.out.2.size))
        rw [show badOp (l[k].1, l[k].2) = true from hx]
        have X := Lib.hid hx
        clear hb' hx
        go_wp2_with fail
        go_ret
        exact ⟨ret_int (posG_at hlt O.out.1 X.out).symm, B'.out⟩
    · obtain rfl : k = l.length := by omega
      clear hall hb
      go_wp2_with fail
      go_ret
      exact ⟨ret_int (posG_none fun j h => O.out.1 j h h).symm, O.out.2⟩

theorem indexHits (l : List Hz) (F : Nat → Prop) (v : Value) (w : World) (h : HitsF w F v l) :
    Calls Tryd.prog 77 #[v, .func (.func 75) #[] #[]] w fun e w' => e = .returned (.int .i64 (posG badHit l)) ∧ Below w.heap.size w w' := by
  obtain ⟨p, cap, rfl, hcap, hbig, -, -⟩ := id h
  have hl : l.length ≤ 9223372036854775807 := by omega
  have H := Lib.hid h
  clear hcap hbig h
  go_enter Tryd.func77, Tryd.ntmps77
  go_wp2_with fail
  go_loopg [5, 8] l.length (fun q _ i wr => ∃ k : Nat, q = l.length - k ∧ k ≤ l.length ∧ i = .int .i64 k ∧ (∀ j (h : j < l.length), j < k → badHit l[j] = false) ∧ Below w.heap.size w wr)
  case atStart => exact ⟨0, rfl, by omega, rfl, fun j _ h => absurd h (by omega), Below.refl _ _⟩
  case round =>
    obtain ⟨k, rfl, hk, rfl, hall, hb⟩ := hrel
    have O := Lib.hid (And.intro hall hb)
    by_cases hlt : k < l.length
    · have hr := H.out.below hb
      obtain ⟨rs', -, -, hel⟩ := hr.rows
      obtain ⟨b, off, up, uc, -, rfl, -, -, c0, c1, c2, hu, -⟩ := hel k hlt
      have A := Lib.hid (bounded2 l[k].id l[k].dist l[k].vec _ _ hu)
      clear hu hel
      clear hall hb hr
      cases hx : badHit l[k]
      · go_wp2_with fail
        refine A.out.mono ?_
        rintro e w' ⟨rfl, hb'⟩
        have B' := Lib.hid (O.out.2.trans (hb'.mono O.out.2.size))
        rw [show badHit ⟨l[k].id, l[k].dist, l[k].vec⟩ = false from hx]
        have X := Lib.hid hx
        clear hb' hx
        go_wp2_with fail
        go_roundg (l.length - (k + 1))
        case measure => omega
        case rel => exact ⟨k + 1, rfl, by omega, by go_num, fun j h hj => by
          by_cases e : j = k
          · subst e; exact X.out
          · exact O.out.1 j h (by omega), B'.out⟩
      · go_wp2_with fail
        refine A.out.mono ?_
        rintro e w' ⟨rfl, hb'⟩
        have B' := Lib.hid (O.out.2.trans (hb'.mono O.out.2.size))
        rw [show badHit ⟨l[k].id, l[k].dist, l[k].vec⟩ = true from hx]
        have X := Lib.hid hx
        clear hb' hx
        go_wp2_with fail
        go_ret
        exact ⟨ret_int (posG_at hlt O.out.1 X.out).symm, B'.out⟩
    · obtain rfl : k = l.length := by omega
      clear hall hb
      go_wp2_with fail
      go_ret
      exact ⟨ret_int (posG_none fun j h => O.out.1 j h h).symm, O.out.2⟩


theorem containsOps (l : List (Int × List Int)) (F : Nat → Prop) (v : Value) (w : World) (h : RecsF w F v l) :
    Calls Tryd.prog 72 #[v, .func (.func 73) #[] #[]] w fun e w' => e = .returned (.bool (l.any badOp)) ∧ Below w.heap.size w w' := by
  have H := Lib.hid (indexOps l F v w h)
  clear h
  go_enter Tryd.func72, Tryd.ntmps72
  go_wp2_with fail
  refine H.out.mono ?_
  rintro e w' ⟨rfl, hb⟩
  have B := Lib.hid hb
  clear hb
  go_wp2_with fail
  go_ret
  exact ⟨ret_bool (posG_ge badOp l), B.out⟩

theorem containsHits (l : List Hz) (F : Nat → Prop) (v : Value) (w : World) (h : HitsF w F v l) :
    Calls Tryd.prog 74 #[v, .func (.func 75) #[] #[]] w fun e w' => e = .returned (.bool (l.any badHit)) ∧ Below w.heap.size w w' := by
  have H := Lib.hid (indexHits l F v w h)
  clear h
  go_enter Tryd.func74, Tryd.ntmps74
  go_wp2_with fail
  refine H.out.mono ?_
  rintro e w' ⟨rfl, hb⟩
  have B := Lib.hid hb
  clear hb
  go_wp2_with fail
  go_ret
  exact ⟨ret_bool (posG_ge badHit l), B.out⟩

end Go.Proofs.YtfmlhdikagogcaaDoor
