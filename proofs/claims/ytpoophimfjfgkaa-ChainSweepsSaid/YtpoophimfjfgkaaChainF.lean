/-
  chain: a chain is made of versions.
-/
import Derived.Test.YtpoophimfjfgkaaChainE
namespace Go.Proofs.Ytpoophimfjfgkaa
open Go.RowKit

/-- one by one, up to the first that is refused -/
def putsZ (l0 : List (Int × List Int)) : List (Int × List Int) → Int × List (Int × List Int)
  | [] => (0, l0)
  | r :: m => if (putZ l0 r.1 r.2).1 = 0 then putsZ (putZ l0 r.1 r.2).2 m else ((putZ l0 r.1 r.2).1, l0)

/-- a chain that is new, or why there is none -/
def Made (w : World) (r : Int × List (Int × List Int)) (e : Ending) (w' : World) : Prop :=
  (r.1 = 0 ∧ ∃ c, e = .returned (.tuple #[.pointer (some ⟨c, 0, none⟩), .int .i64 0]) ∧ ChainAt w' w.heap.size (Plus (fun _ => False) w w') c r.2 ∧ Below w.heap.size w w') ∨
  (r.1 ≠ 0 ∧ e = .returned (.tuple #[.pointer none, .int .i64 r.1]) ∧ Below w.heap.size w w')

theorem putZ_length (l : List (Int × List Int)) (s : Int) (xs : List Int) : (putZ l s xs).2.length ≤ l.length + 1 := by
  unfold putZ
  split
  · simp
  · split
    · simp
    · split <;> simp

theorem plus_plus {F : Nat → Prop} {w wr w' : World} (h1 : w.heap.size ≤ wr.heap.size) (h2 : wr.heap.size ≤ w'.heap.size) {k : Nat} (h : Plus (Plus F w wr) wr w' k) : Plus F w w' k := by
  rcases h with (h | ⟨a, b⟩) | ⟨a, b⟩
  · exact .inl h
  · exact .inr ⟨a, by omega⟩
  · exact .inr ⟨by omega, b⟩

theorem chain_new {w : World} : ChainOwn (w.alloc (.cells #[.slice none 0 0] 61)) w.heap.size w.heap.size (.slice none 0 0) [] [] :=
  ⟨heap_alloc_new _ _, Nat.le_refl _, World.ownsRow_nil _ _ _ _, Held2.nil _ _ _⟩

theorem new (m : List (Int × List Int)) (hm : m.length ≤ 1000) (hx : ∀ r ∈ m, 0 ≤ r.1 ∧ r.2.length ≤ 1000000) (v : Value) (w : World) (h : Recs w v m) :
    Calls Try.prog 9 #[v] w (Made w (putsZ [] m)) := by
  obtain ⟨p, cap, rfl, hcap, hbig, -, -⟩ := id h
  have H := Lib.hid h
  have X := Lib.hid hx
  clear h hx hcap hbig
  go_enter Try.func9, Try.ntmps9
  go_wp2_with fail
  go_loopg [12] m.length (fun q i wr => ∃ (k : Nat) (lk : List (Int × List Int)), q = m.length - k ∧ k ≤ m.length ∧ i = .int .i64 k ∧ lk.length ≤ k ∧ putsZ [] m = putsZ lk (m.drop k) ∧ ChainAt wr w.heap.size (Plus (fun _ => False) w wr) w.heap.size lk ∧ Below w.heap.size w wr)
  case atStart => exact ⟨0, [], rfl, by omega, rfl, by simp, rfl, ⟨_, _, chain_new, ⟨.inr ⟨Nat.le_refl _, by simp⟩, by simp [Value.ownBlock], by simp⟩⟩, (Below.refl _ _).alloc (Nat.le_refl _) _⟩
  case round =>
    obtain ⟨k, lk, rfl, hk, rfl, hl, he, hc, hb⟩ := hrel
    have C := Lib.hid (And.intro he (And.intro hc hb))
    have hsz := hb.size
    by_cases hlt : k < m.length
    · obtain ⟨b, off, u, rfl, c0, c1, hu⟩ := (H.out.below hb).elem hlt
      obtain ⟨up, ucap, rfl, -, -, -, -⟩ := id hu.slice
      have U := Lib.hid hu
      clear he hc hb hu
      have hd : m.drop k = m[k] :: m.drop (k + 1) := List.drop_eq_getElem_cons hlt
      have D := Lib.hid hd
      clear hd
      have hb1 := (Below.refl wr.heap.size wr).alloc (Nat.le_refl _) (Obj.cells #[Value.int IntKind.u64 m[k].fst, Value.slice up m[k].snd.length ucap] 41)
      have P := put w.heap.size w.heap.size (Plus (fun _ => False) w wr) lk m[k].1 m[k].2 _ _ (C.out.2.1.below hb1) (by omega) (U.out.below hb1) (X.out _ (List.getElem_mem hlt)).2 (X.out _ (List.getElem_mem hlt)).1 (by simp; omega)
      rcases hp : putZ lk m[k].1 m[k].2 with ⟨pe, pl⟩
      rw [hp] at P
      have PP := Lib.hid P
      have hpl := putZ_length lk m[k].1 m[k].2
      rw [hp] at hpl
      have E1 := Lib.hid hp
      have B1 := Lib.hid hb1
      clear P hp hb1
      go_wp2_with fail
      refine PP.out.mono ?_
      rintro e w2 ⟨rfl, hc2, hm2⟩
      have hb2 := (C.out.2.2.trans (B1.out.mono hsz)).trans (hm2.below (by simp; omega) (by rintro j (hj | ⟨hj, -⟩); exact hj.elim; exact hj))
      have hsz2 := hm2.size
      have C2 := Lib.hid (And.intro hc2 hb2)
      clear hc2 hm2 hb2
      by_cases h0 : pe = 0
      · subst h0
        go_wp2_with fail
        go_roundg (m.length - (k + 1))
        case measure => omega
        case rel =>
          refine ⟨k + 1, pl, rfl, by omega, by go_num, by simpa using Nat.le_trans hpl (by simp; omega), ?_, C2.out.1.mono fun j hj => ?_, C2.out.2⟩
          · rw [C.out.1, D.out, putsZ, E1.out]; simp
          · rcases hj with hj | ⟨h1, h2⟩
            · rcases hj with hj | ⟨h1, h2⟩
              · exact hj.elim
              · exact .inr ⟨h1, by simp at hsz2; omega⟩
            · exact .inr ⟨by simp at h1; omega, h2⟩
      · have h0' : (pe != 0) = true := by simpa using h0
        have N := Lib.hid h0
        clear h0
        go_wp2_with fail
        go_ret2
        refine .inr ⟨?_, ?_, C2.out.2⟩
        · rw [C.out.1, D.out, putsZ, E1.out, if_neg N.out]; exact N.out
        · rw [C.out.1, D.out, putsZ, E1.out, if_neg N.out]; rfl
    · obtain rfl : m.length = k := by omega
      clear he hc hb
      go_wp2_with fail
      go_ret2
      refine .inl ⟨?_, _, rfl, ?_, C.out.2.2⟩
      · rw [C.out.1, List.drop_length]; rfl
      · rw [C.out.1, List.drop_length]; exact C.out.2.1

end Go.Proofs.Ytpoophimfjfgkaa
