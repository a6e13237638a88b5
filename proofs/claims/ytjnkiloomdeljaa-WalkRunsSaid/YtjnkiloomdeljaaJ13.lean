/-
  The document's SameHits.
  best's law: the document's example.
-/
import Derived.Test.YtjnkiloomdeljaaJ12
import Derived.Test.YtjnkiloomdeljaaJ02
namespace Go.Proofs.Ytjnkiloomdeljaa
open Go.RowKit

theorem hz_ext {a b : Hz} (h1 : a.id = b.id) (h2 : a.dist = b.dist) (h3 : a.vec = b.vec) : a = b := by
  cases a; cases b; simp_all

set_option maxHeartbeats 4000000 in
theorem sameHits (F G : Nat → Prop) (l m : List Hz) (v u : Value) (w : World) (h : HitsF w F v l) (g : HitsF w G u m) :
    Calls Try.prog 12 #[v, u] w fun e w' => e = .returned (.bool (decide (l = m))) ∧ Drawn w w' := by
  obtain ⟨p, cap, rfl, hcap, hbig, -, -⟩ := id h
  have hl : l.length ≤ 9223372036854775807 := by omega
  clear hcap hbig
  obtain ⟨q, cap', rfl, hcap', hbig', -, -⟩ := id g
  have hl' : m.length ≤ 9223372036854775807 := by omega
  clear hcap' hbig'
  have H := Lib.hid h
  have GG := Lib.hid g
  clear h g
  by_cases h3 : l.length = m.length
  · have h4 : ((l.length : Int) != m.length) = false := by simp [h3]
    have H3 := Lib.hid h3
    clear h3
    go_enter Try.func12, Try.ntmps12
    go_wp2_with fail
    go_loopg [5, 13] l.length (fun q _ i wr => ∃ k : Nat, q = l.length - k ∧ k ≤ l.length ∧ i = .int .i64 k ∧ l.take k = m.take k ∧ Drawn w wr)
    case atStart => exact ⟨0, rfl, by omega, rfl, rfl, Drawn.refl _⟩
    case round =>
      obtain ⟨k, rfl, hk, rfl, hall, hb⟩ := hrel
      have A := Lib.hid (And.intro hall hb)
      clear hall hb
      by_cases hlt : k < l.length
      · have hlt' : k < m.length := by have := H3.out; omega
        obtain ⟨rs', -, -, hel⟩ := (H.out.below A.out.2.below).rows
        obtain ⟨b, off, up1, uc1, -, rfl, -, -, c0, c1, c2, hu1, -⟩ := hel k hlt
        obtain ⟨rs2, -, -, hel'⟩ := (GG.out.below A.out.2.below).rows
        obtain ⟨b', off', up2, uc2, -, rfl, -, -, c0', c1', c2', hu2, -⟩ := hel' k hlt'
        have U1 := Lib.hid hu1
        have U2 := Lib.hid hu2
        clear hu1 hu2 hel hel'
        have k0 : (0 : Int) ≤ (k : Int) := by omega
        have k1 : (k : Int) < (l.length : Int) := by omega
        have k2 : (k : Int) < (m.length : Int) := by omega
        by_cases hx : l[k].id = m[k].id
        · have hne : (l[k].id != m[k].id) = false := by simp [hx]
          have E := Lib.hid hx
          clear hx
          by_cases hy : l[k].dist = m[k].dist
          · have hne2 : (l[k].dist != m[k].dist) = false := by simp [hy]
            have E2 := Lib.hid hy
            clear hy
            by_cases hv : l[k].vec = m[k].vec
            · have hd : decide (l[k].vec = m[k].vec) = true := by simp [hv]
              have V := Lib.hid hv
              clear hv
              have S := fun n => sameVecQ l[k].vec m[k].vec (.slice up1 l[k].vec.length uc1) (.slice up2 m[k].vec.length uc2) (wr.drewN n) (U1.out.below (Drawn.below ⟨n, rfl⟩)) (U2.out.below (Drawn.below ⟨n, rfl⟩))
              rw [hd] at S
              have SS := Lib.hid S
              clear S hd
              go_wp2_with fail
              go_quiet ((go_at_call 32; exact Calls.quiet_of (SS.out _)))
              go_wp2_with fail
              go_roundg (l.length - (k + 1))
              case measure => omega
              case rel => exact ⟨k + 1, rfl, by omega, by go_num, by rw [List.take_succ_eq_append_getElem hlt, List.take_succ_eq_append_getElem hlt', A.out.1, hz_ext E.out E2.out V.out], A.out.2.drewN _⟩
            · have hd : decide (l[k].vec = m[k].vec) = false := by simp [hv]
              have V := Lib.hid hv
              clear hv
              have S := fun n => sameVecQ l[k].vec m[k].vec (.slice up1 l[k].vec.length uc1) (.slice up2 m[k].vec.length uc2) (wr.drewN n) (U1.out.below (Drawn.below ⟨n, rfl⟩)) (U2.out.below (Drawn.below ⟨n, rfl⟩))
              rw [hd] at S
              have SS := Lib.hid S
              clear S hd
              go_wp2_with fail
              go_quiet ((go_at_call 32; exact Calls.quiet_of (SS.out _)))
              go_wp2_with fail
              go_ret
              exact ⟨ret_bool (by simp; intro e; subst e; exact V.out rfl), A.out.2.drewN _⟩
          · have hne2 : (l[k].dist != m[k].dist) = true := by simp [hy]
            have E2 := Lib.hid hy
            clear hy
            go_wp2_with fail
            go_quiet (fail)
            go_wp2_with fail
            go_ret
            exact ⟨ret_bool (by simp; intro e; subst e; exact E2.out rfl), A.out.2.drewN _⟩
        · have hne : (l[k].id != m[k].id) = true := by simp [hx]
          have E := Lib.hid hx
          clear hx
          go_wp2_with fail
          go_quiet (fail)
          go_wp2_with fail
          go_ret
          exact ⟨ret_bool (by simp; intro e; subst e; exact E.out rfl), A.out.2.drewN _⟩
      · go_wp2_with fail
        go_ret
        have h3 := H3.out
        have h4 := A.out.1
        rw [List.take_of_length_le (by omega), List.take_of_length_le (by omega)] at h4
        exact ⟨ret_bool (by simp [h4]), A.out.2⟩
  · have h4 : ((l.length : Int) != m.length) = true := by simp; omega
    go_enter Try.func12, Try.ntmps12
    go_wp2_with fail
    go_ret
    exact ⟨ret_bool (by simp; intro e; exact h3 (by rw [e])), Drawn.refl _⟩

end Go.Proofs.Ytjnkiloomdeljaa

namespace Go.Proofs.Ytjnkiloomdeljaa
open Go.RowKit

def exZ : List Hz := [⟨1, 5, []⟩, ⟨2, 3, []⟩, ⟨3, 4, []⟩]

theorem exZ_adds : addsZ 2 [] exZ = (3, [⟨2, 3, []⟩, ⟨3, 4, []⟩]) := by rfl

theorem nums_nil (w : World) : Nums w .i32 (.slice none 0 0) [] := Nums.mk (xs := []) (by simp) (by simp) (by simp) (by simp)

theorem exZ_hits (w : World) : HitsF (w.alloc (.cells #[.int .u64 1, .int .u64 5, .slice none 0 0, .int .u64 2, .int .u64 3, .slice none 0 0, .int .u64 3, .int .u64 4, .slice none 0 0] 43)) (fun k => k = w.heap.size) (.slice (some ⟨w.heap.size, 0, none⟩) 3 3) exZ := by
  refine ⟨_, 3, rfl, by decide, by decide, by simp, fun i hi => ⟨w.heap.size, 0, .slice none 0 0, rfl, rfl, ?_⟩⟩
  match i, hi with
  | 0, _ => exact ⟨by go_simp <;> rfl, by go_simp <;> rfl, by go_simp <;> rfl, nums_nil _, fun h => absurd h (by simp [exZ])⟩
  | 1, _ => exact ⟨by go_simp <;> rfl, by go_simp <;> rfl, by go_simp <;> rfl, nums_nil _, fun h => absurd h (by simp [exZ])⟩
  | 2, _ => exact ⟨by go_simp <;> rfl, by go_simp <;> rfl, by go_simp <;> rfl, nums_nil _, fun h => absurd h (by simp [exZ])⟩

end Go.Proofs.Ytjnkiloomdeljaa
