/- maze: what is built anew has the nodes (plain). -/
import Derived.Test.YtpjbkaibgajpcaaGreatMzT
import Derived.Test.YtpjbkaibgajpcaaGreatMzP
namespace Go.Proofs.YtpjbkaibgajpcaaGreat
open Go.RowKit
set_option maxRecDepth 20000

theorem put_mem {dim : Int} {t : Mz} {k : Int} {v : List Int} (hv : rightZ dim v = true) (x : Int) : x ∈ (putM dim t k v).2.N ↔ x = k ∨ x ∈ t.N := by
  unfold putM
  rw [if_neg (by rw [hv]; simp)]
  split
  · rename_i h
    exact ⟨.inr, fun h1 => h1.elim (fun e => e ▸ h) id⟩
  · exact mem_putZ

theorem vec_right {dim : Int} {s : Mz} (ok : OkM dim s) {k : Int} (hk : k ∈ s.N) : rightZ dim (vecOf s.L k) = true := by
  obtain ⟨y, hy, rfl⟩ := List.mem_map.1 ((ok.same k).1 hk)
  rw [vec_of ok.once hy]
  exact (ok.vecs y hy).1

theorem reb_mem {dim : Int} {s : Mz} (ok : OkM dim s) (cl : List Int) : ∀ j, j ≤ cl.length → ∀ x, x ∈ (rebN dim s cl j).N ↔ x ∈ cl.take j ∧ x ∈ s.N := by
  intro j
  induction j with
  | zero => intro _ x; simp [rebN, emptyM]
  | succ j ih =>
    intro hj x
    have hi := ih (by omega)
    rw [rebN_step dim s cl j (by omega), List.take_succ_eq_append_getElem (by omega : j < cl.length), List.mem_append, List.mem_singleton]
    split
    · rename_i hk
      rw [put_mem (vec_right ok hk), hi]
      constructor
      · rintro (rfl | ⟨h1, h2⟩)
        · exact ⟨.inr rfl, hk⟩
        · exact ⟨.inl h1, h2⟩
      · rintro ⟨h1 | rfl, h2⟩
        · exact .inr ⟨h1, h2⟩
        · exact .inl rfl
    · rename_i hk
      rw [hi]
      constructor
      · rintro ⟨h1, h2⟩; exact ⟨.inl h1, h2⟩
      · rintro ⟨h1 | rfl, h2⟩
        · exact ⟨h1, h2⟩
        · exact absurd h2 hk

theorem reb_tree (dim : Int) (s : Mz) (cl : List Int) : ∀ j, TreeM (rebN dim s cl j) := by
  intro j
  induction j with
  | zero => exact TreeM.empty
  | succ j ih =>
    by_cases hj : j < cl.length
    · rw [rebN_step dim s cl j hj]
      split
      · exact ih.put (rebN_ok dim s cl j) _ _
      · exact ih
    · have : rebN dim s cl (j + 1) = rebN dim s cl j := by unfold rebN; rw [List.take_of_length_le (by omega), List.take_of_length_le (by omega)]
      rw [this]; exact ih

theorem reb_all {dim : Int} {s : Mz} (ok : OkM dim s) : (rebM dim s s.N).N = s.N := by
  refine sortedI_ext (N_sorted (rebN_ok dim s _ _)) (N_sorted ok) fun x => ?_
  unfold rebM
  rw [reb_mem ok _ _ (Nat.le_refl _), List.take_length, (uniq_of s.N).1]
  exact ⟨fun h => h.2, fun h => ⟨h, h⟩⟩

end Go.Proofs.YtpjbkaibgajpcaaGreat
