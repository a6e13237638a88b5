/-
  best's document: all that it has, in order; a new one. Lists that are put together in no room.
-/
import Derived.Test.YtfjhipaoljnfaaaRefD
namespace Go.Proofs.Ytfjhipaoljnfaaa
open Go.RowKit

theorem refAll (F : Nat → Prop) (c : Nat) (most : Int) (n : Nat) (L : List Hz) (w : World) (hL : RefL w F c most L) (gL : GoodL n L) (hn : L.length ≤ 1000000) :
    Calls Try.prog 16 #[.pointer (some ⟨c, 0, none⟩)] w (SortTo w F L) := by
  obtain ⟨v, G, r, ho, hp, -, hG⟩ := hL
  obtain ⟨c0, c1, -⟩ := ho.cells
  have hlen := hp.length_eq
  have S := Lib.hid (sort r L gL.sorted (gL.ids.perm hp) hp (by omega) v G w ho.hits)
  have GF := Lib.hid hG
  clear ho hp gL hG hlen
  go_enter Try.func16, Try.ntmps16
  go_wp2_with fail
  refine S.out.mono ?_
  rintro e w' ⟨v', rfl, hh, hb⟩
  have R := Lib.hid (And.intro (hh.mono (G := Plus F w w') fun k hk => by
    rcases hk with hk | hk
    · exact .inl (GF.out k hk)
    · exact .inr hk) hb)
  clear hh hb
  go_wp2_with fail
  go_ret
  exact ⟨v', rfl, R.out.1, R.out.2⟩

theorem refAll_nil (w : World) : Calls Try.prog 16 #[.pointer none] w fun e w' => e = .returned (.slice none 0 0) ∧ w = w' := by
  go_enter Try.func16, Try.ntmps16
  go_wp2_with fail
  go_ret
  exact ⟨rfl, rfl⟩

theorem refAdd_nil (x : Value) (i d : Int) (w : World) : Calls Try.prog 15 #[.pointer none, .agg #[.int .u64 i, .int .u64 d, x]] w fun e w' => e = .returned (.bool false) ∧ Below w.heap.size w w' := by
  go_enter Try.func15, Try.ntmps15
  go_wp2_with fail
  go_ret
  exact ⟨rfl, by go_grown⟩

theorem refL_new (w : World) (most : Int) : RefL (w.alloc (.cells #[.int .i64 most, .slice none 0 0] 41)) (fun k => k = w.heap.size) w.heap.size most [] :=
  ⟨_, fun _ => False, [], ⟨heap_alloc_new _ _, HitsF.nil _ _, id, fun k hk => hk.elim⟩, List.Perm.refl _, rfl, fun k hk => hk.elim⟩

theorem merge_zero (ls : List (List Hz)) (E : Nat → Prop) (v : Value) (w : World) (h : ListsF w E v ls) :
    Calls Try.prog 17 #[.int .i64 0, v] w fun e w' => ∃ q c, e = .returned (.slice q 0 c) ∧ Below w.heap.size w w' := by
  obtain ⟨p, cap, rfl, hcap, hbig, -, -⟩ := id h
  have hl9 : ls.length ≤ 9223372036854775807 := by omega
  have H := Lib.hid h
  clear h hcap hbig
  go_enter Try.func17, Try.ntmps17
  go_wp2_with fail
  refine (new_no 0 w (by omega)).mono ?_
  rintro e w1 ⟨rfl, rfl⟩
  go_wp2_with fail
  go_loopg [16] ls.length (fun q i wr => ∃ k : Nat, q = ls.length - k ∧ k ≤ ls.length ∧ i = .int .i64 k ∧ wr = w)
  case atStart => exact ⟨0, rfl, by omega, rfl, rfl⟩
  case round =>
    obtain ⟨k, rfl, hk, rfl, rfl⟩ := hrel
    by_cases hlt : k < ls.length
    · obtain ⟨b, off, q, qc, rfl, c0, -⟩ := H.out.elem hlt
      go_wp2_with fail
      refine (adds_nil _ _).mono ?_
      rintro e w4 ⟨rfl, rfl⟩
      go_wp2_with fail
      go_roundg (ls.length - (k + 1))
      case measure => omega
      case rel => exact ⟨k + 1, rfl, by omega, by go_num, rfl⟩
    · obtain rfl : k = ls.length := by omega
      go_wp2_with fail
      refine (hits_nil _).mono ?_
      rintro e w4 ⟨v4, rs4, rfl, ho, hh, hb4⟩
      obtain rfl : rs4 = [] := List.eq_nil_of_length_eq_zero hh.len
      have BB := Lib.hid (And.intro ho hb4)
      clear ho hh hb4
      go_wp2_with fail
      go_ret
      obtain ⟨-, ⟨e, -⟩ | ⟨g, cap, cur, e, -⟩⟩ := BB.out.1
      · exact ⟨_, _, congrArg Ending.returned e, BB.out.2⟩
      · exact ⟨_, _, congrArg Ending.returned e, BB.out.2⟩

end Go.Proofs.Ytfjhipaoljnfaaa
