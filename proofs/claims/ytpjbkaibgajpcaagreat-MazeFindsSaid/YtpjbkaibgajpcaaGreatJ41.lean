/-
  maze's document: New, Find.
-/
import Derived.Test.YtpjbkaibgajpcaaGreatJ39
namespace Go.Proofs.YtpjbkaibgajpcaaGreat
open Go.RowKit Go.ChangeMaps
set_option maxRecDepth 20000

theorem rNew (w : World) (dim : Int) :
    Calls Tryz.prog 35 #[.int .i64 dim] w fun e w' => ∃ x c, e = .returned (.pointer (some ⟨x, 0, none⟩)) ∧ RzAt w.heap.size w' x c dim (.slice none 0 0) (.slice none 0 0) (.slice none 0 0) [] emptyM ∧ Below w.heap.size w w' := by
  have hh := heapTwo w (.cells #[.slice none 0 0, .slice none 0 0] 96) (.cells #[.int .i64 dim, .pointer (some ⟨w.heap.size, 0, none⟩), .slice none 0 0] 50)
  obtain ⟨W2, hW2⟩ : ∃ W2, W2 = (w.alloc (.cells #[.slice none 0 0, .slice none 0 0] 96)).alloc (.cells #[.int .i64 dim, .pointer (some ⟨w.heap.size, 0, none⟩), .slice none 0 0] 50) := ⟨_, rfl⟩
  rw [← hW2] at hh
  have hb2 : Below w.heap.size w W2 := by rw [hW2]; exact ((Below.refl _ w).alloc (Nat.le_refl _) _).alloc (by simp) _
  have FIN := Lib.hid (show RzAt w.heap.size W2 (w.heap.size + 1) w.heap.size dim (.slice none 0 0) (.slice none 0 0) (.slice none 0 0) [] emptyM ∧ Below w.heap.size w W2 from
    ⟨⟨hh.2, ⟨hh.1, World.ownsRow_nil _ _ _ _, World.ownsRow_nil _ _ _ _, Nat.le_refl _⟩, World.ownsRow_nil _ _ _ _, Held3.nil _ _ _, by omega, hb2.size⟩, hb2⟩)
  have HW2 := Lib.hid hW2
  clear hh hb2 hW2
  go_enter Tryz.func35, Tryz.ntmps35
  go_wp2_with fail
  go_ret
  rw [← HW2.out]
  exact ⟨_, _, rfl, FIN.out.1, FIN.out.2⟩

theorem Rows3.setv {w : World} {G : Nat → Prop} {rs : List Hv} {l : List Hz} (h : Rows3 w G rs l) {k : Nat} (hk : k < rs.length) (hl : k < l.length) {u : Value} {xs : List Int} (hu : Nums w .i32 u xs) (hg : LiesIn G u xs.length) : Rows3 w G (rs.set k ⟨rs[k].id, rs[k].dist, u⟩) (l.set k ⟨l[k].id, l[k].dist, xs⟩) := by
  refine ⟨by simp [h.len], fun i h1 h2 => ?_⟩
  rw [List.length_set] at h1 h2
  rw [List.getElem_set, List.getElem_set]
  by_cases e : k = i
  · subst e
    obtain ⟨a, b, -⟩ := h.each k hk hl
    rw [if_pos rfl, if_pos rfl]
    exact ⟨a, b, hu, hg⟩
  · rw [if_neg e, if_neg e]
    exact h.each i h1 h2

theorem Rows3.typed {w w' : World} {rs : List Hv} {l : List Hz} (h : Rows3 w (OfType w 21) rs l) (ha : ∀ j, OfType w 21 j → w'.heap[j]? = w.heap[j]?) : Rows3 w' (OfType w' 21) rs l :=
  (h.agree ha).mono fun j hj => by
    obtain ⟨cs, fr, e⟩ := id hj
    exact ⟨cs, fr, (ha j hj).trans e⟩

def RFindTells (w : World) (R : List Hz × Nat × Int) (e : Ending) (w' : World) : Prop :=
  ∃ u F, e = .returned (.tuple #[u, .int .i64 R.2.1, .int .i64 R.2.2]) ∧ HitsF w' F u R.1 ∧ Below w.heap.size w w'

theorem RFindTells.none {w : World} {c : Int} : RFindTells w ([], 0, c) (.returned (.tuple #[.slice none 0 0, .int .i64 0, .int .i64 c])) w :=
  ⟨_, fun _ => False, rfl, HitsF.nil _ _, Below.refl _ _⟩

theorem entry_atR {L : List Hz} (h : 0 < L.length) : entryZ L = L[0].id := by
  cases L with
  | nil => simp at h
  | cons a l => rfl

end Go.Proofs.YtpjbkaibgajpcaaGreat
