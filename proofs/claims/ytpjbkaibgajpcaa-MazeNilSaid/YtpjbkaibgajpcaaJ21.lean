/-
  walk: Run.
-/
import Derived.Test.YtpjbkaibgajpcaaJ20
import Derived.Test.YtpjbkaibgajpcaaJ08
namespace Go.Proofs.Ytpjbkaibgajpcaa
open Go.RowKit Go.ChangeMaps

theorem goW_count (far : Int → Option Int) (nr : Int → List Int) (most : Nat) : ∀ (f : Nat) (s : Ws), (goW far nr most f s).2 ≤ f := by
  intro f
  induction f with
  | zero => intro s; exact Nat.le_refl _
  | succ f ih =>
    intro s
    unfold goW
    cases s.T.getLast? with
    | none => exact Nat.zero_le _
    | some h =>
      simp only
      split
      · exact Nat.zero_le _
      · have := ih (lookW far most false ⟨s.L, s.S, s.T.dropLast⟩ (nr h.id))
        simp only
        omega

section
variable {w0 w w' : World} {sp : Value} {p ms c : Nat} {F : Nat → Prop} {kv : Value} {ks : List Int} {most : Nat} {tv : Value} {s : Ws}

/-- other keys -/
theorem WkAt.rekey (h : WkAt w0 w sp p ms c F kv ks most tv s) {kv' : Value} {ks' : List Int} (hk : Nums w .u64 kv' ks') (ha : ∀ k, kv'.ownBlock = some k → 0 < ks'.length → k < w.heap.size ∧ ¬ F k ∧ k ≠ p ∧ k ≠ ms ∧ tv.ownBlock ≠ some k) : WkAt w0 w sp p ms c F kv' ks' most tv s :=
  ⟨h.cell, h.seen, h.best, h.todo, h.fhi, h.fp, h.fms, h.ft, h.low, h.old, hk, ha⟩

theorem nums_none (w : World) : Nums w .u64 (.slice none 0 0) [] := Nums.mk (xs := []) (by simp) (by simp) (by simp) (by simp)

theorem WkAt.bare (h : WkAt w0 w sp p ms c F kv ks most tv s) : WkAt w0 w sp p ms c F (.slice none 0 0) [] most tv s := h.rekey (nums_none w) fun k _ h0 => absurd h0 (by simp)

/-- keys that a call has just made -/
theorem WkAt.newkeys (h : WkAt w0 w sp p ms c F kv ks most tv s) (hb : Below w.heap.size w w') {kv' : Value} {ks' : List Int} (ho : w'.ownsRow w.heap.size 22 1 kv' ks'.length (ks'.map (Value.int .u64))) : WkAt w0 w' sp p ms c F kv' ks' most tv s :=
  (h.below hb).rekey (Nums.of_own ho) fun k hk _ => by
    have h1 := ho.lt k hk
    have h2 := h.plt
    have h3 := h.seen.lt
    exact ⟨h1.2, fun hF => by have := (h.fhi k hF).2; omega, by omega, by omega, fun e => by have := (h.todo.lt k e).2; omega⟩

/-- the nearest is taken away -/
theorem WkAt.popped (h : WkAt w0 w sp p ms c F kv ks most tv s) {g t cap : Nat} (ht : s.T.length = t + 1) (hv : tv = .slice (some ⟨g, 0, none⟩) (t + 1) cap) : WkAt w0 (w.setCell ⟨p, 3, none⟩ (.slice (some ⟨g, 0, none⟩) t cap)) sp p ms c F kv ks most (.slice (some ⟨g, 0, none⟩) t cap) ⟨s.L, s.S, s.T.dropLast⟩ := by
  subst hv
  have hset := setBk h.cell 3 (.slice (some ⟨g, 0, none⟩) t cap)
  obtain ⟨e1, e2, e3⟩ := h.self
  have hrow := h.todo
  rw [ht] at hrow
  have hpre := own_prefix hrow (Nat.le_succ t)
  rw [flat3_take, ← List.map_take] at hpre
  have hd : s.T.dropLast = s.T.take t := by rw [List.dropLast_eq_take, ht]; rfl
  refine h.turn ((Mod.refl _ w).setCell (p := ⟨p, 3, none⟩) (.inl (.inr (.inl rfl))) _) (by simpa using hset) (h.seen.kept (setBk_other (Ne.symm e1))) (h.best.agree (fun j hj => setBk_other (by rintro rfl; exact h.fp hj)) (by simp [World.setCell])) ?_ (fun j hj => .inl hj) (.inl rfl)
  have hl : (s.T.dropLast).length = t := by simp [ht]
  simp only [hl]
  rw [hd]
  exact own_agree hpre fun j hj => setBk_other (by rintro rfl; exact e2 (by rw [← hj]; rfl))
end

end Go.Proofs.Ytpjbkaibgajpcaa
