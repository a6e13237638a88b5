/-
  walk's document: the nearest that is to be gone to; without it.
-/
import Derived.Test.YtjnkiloomdeljaaJ19
import Derived.Test.YtjnkiloomdeljaaJ23
import Derived.Test.YtjnkiloomdeljaaJ26
namespace Go.Proofs.Ytjnkiloomdeljaa
open Go.RowKit

/-- what a walk of the document tells -/
def RefTells (w0 : World) (L : List Hz) (n : Nat) (e : Ending) (w' : World) : Prop :=
  ∃ v F, e = .returned (.tuple #[v, .int .i64 n]) ∧ HitsF w' F v L ∧ Below w0.heap.size w0 w'

def lookR (far : Int → Option Int) (most : Nat) (all : Bool) (s : Ws) (ks : List Int) : Ws := ks.foldl (seeR far most all) s

theorem lookR_snoc (far : Int → Option Int) (most : Nat) (all : Bool) (s : Ws) (ks : List Int) (j : Nat) (hj : j < ks.length) : lookR far most all s (ks.take (j + 1)) = seeR far most all (lookR far most all s (ks.take j)) ks[j] := by
  unfold lookR
  rw [List.take_succ_eq_append_getElem hj, List.foldl_append]
  rfl

theorem Like.look (far : Int → Option Int) (most : Nat) (all : Bool) (ks : List Int) : ∀ {s t : Ws}, Like s t → Like (lookR far most all s ks) (lookW far most all t ks) := by
  induction ks with
  | nil => intro s t h; exact h
  | cons k ks ih => intro s t h; exact ih (h.see far most all k)

theorem Like.start : Like ⟨[], [], []⟩ ⟨[], [], []⟩ := ⟨rfl, rfl, List.Perm.refl _⟩

section
variable {K : List Int} {far : Int → Option Int} {most : Nat}

/-- the nearest of them is the last one -/
theorem Like.least {s t : Ws} (h : Like s t) (g : GoodW K far most t) {m : Nat} (hm : m < s.T.length) (hmin : ∀ i (hi : i < s.T.length), near s.T[i] s.T[m] = false) :
    t.T.getLast? = some s.T[m] ∧ (s.T.eraseIdx m).Perm t.T.dropLast := by
  have hlen := h.todo.length_eq
  have hne : t.T ≠ [] := by rintro e; rw [e, List.length_nil] at hlen; omega
  obtain ⟨D, y, hD⟩ : ∃ D y, t.T = D ++ [y] := ⟨t.T.dropLast, t.T.getLast hne, (List.dropLast_concat_getLast hne).symm⟩
  have hd := g.desc
  rw [hD, List.pairwise_append] at hd
  have hy : y ∈ s.T := h.todo.mem_iff.2 (by rw [hD]; simp)
  obtain ⟨i, hi, hiy⟩ := List.mem_iff_getElem.1 hy
  have hx : s.T[m] ∈ t.T := h.todo.mem_iff.1 (List.getElem_mem hm)
  have hxy : s.T[m] = y := by
    rw [hD, List.mem_append] at hx
    rcases hx with hx | hx
    · have h1 := hd.2.2 _ hx y (by simp)
      have h2 := hmin i hi
      rw [hiy, h1] at h2
      cases h2
    · simpa using hx
  refine ⟨by rw [hD, hxy]; simp, ?_⟩
  have h1 : (s.T[m] :: s.T.eraseIdx m).Perm s.T := by
    rw [List.eraseIdx_eq_take_drop_succ]
    refine List.perm_middle.symm.trans ?_
    rw [List.getElem_cons_drop, List.take_append_drop]
  have h2 := h1.trans h.todo
  rw [hD, hxy] at h2
  have h3 := (h2.trans (List.perm_append_singleton _ _)).cons_inv
  rw [hD, List.dropLast_concat]
  exact h3
end

section
variable {kv : Value} {ks : List Int} {w0 w w3 : World} {b c : Nat} {F : Nat → Prop} {most : Nat} {sv tv v : Value} {L : List Hz} {S : List Int} {T : List Hz}

/-- other keys -/
theorem RsAt.rekey (h : RsAt kv ks w0 w b c F most sv tv L S T) {kv' : Value} {ks' : List Int} (hk : Nums w .u64 kv' ks') (ha : ∀ k, kv'.ownBlock = some k → 0 < ks'.length → k < w.heap.size ∧ k ≠ b ∧ k ≠ c ∧ sv.ownBlock ≠ some k ∧ tv.ownBlock ≠ some k) : RsAt kv' ks' w0 w b c F most sv tv L S T :=
  ⟨h.cell, h.best, h.seen, h.todo, h.fhi, h.fb, h.fs, h.ft, h.low, h.old, hk, ha⟩

theorem RsAt.bare (h : RsAt kv ks w0 w b c F most sv tv L S T) : RsAt (.slice none 0 0) [] w0 w b c F most sv tv L S T := h.rekey (nums_none w) fun k _ h0 => absurd h0 (by simp)

/-- keys that a call has just made -/
theorem RsAt.newkeys (h : RsAt kv ks w0 w b c F most sv tv L S T) (hb : Below w.heap.size w w3) {kv' : Value} {ks' : List Int} (ho : w3.ownsRow w.heap.size 37 1 kv' ks'.length (ks'.map (Value.int .u64))) : RsAt kv' ks' w0 w3 b c F most sv tv L S T :=
  (h.below hb).rekey (Nums.of_own ho) fun k hk _ => by
    have h1 := ho.lt k hk
    have h2 := h.blt
    have h3 := h.fhi c h.fc
    exact ⟨h1.2, by omega, by omega, fun e => by have := (h.seen.lt k e).2; omega, fun e => by have := (h.todo.lt k e).2; omega⟩

/-- one is to be gone to no more -/
theorem RsAt.without (h : RsAt kv ks w0 w b c F most sv tv L S T) (hb : Below w.heap.size w w3) {T' : List Hz} (ho : w3.ownsRow w.heap.size 43 3 v T'.length (flat3 (T'.map bareV))) :
    RsAt kv ks w0 (w3.setCell ⟨b, 2, none⟩ v) b c F most sv v L S T' := by
  have hold := h.old.size
  have hcell := (hb.block b h.blt).trans h.cell
  obtain ⟨e1, e2, e3, e4, e5⟩ := h.self
  have hset := setBk hcell 2 v
  have hm : Mod (fun k => k = b ∨ k = c ∨ sv.ownBlock = some k ∨ tv.ownBlock = some k) w (w3.setCell ⟨b, 2, none⟩ v) := Mod.setCell (Mod.of_below hb) (p := ⟨b, 2, none⟩) (.inl (.inl rfl)) _
  refine h.turn hm (by simpa using hset) ?_ ?_ ?_ (fun k hk => .inl hk) (.inl rfl) (.inr fun k hk => ?_)
  · exact (h.best.below hb).agree (fun j hj => setBk_other (by rintro rfl; exact h.fb hj)) (by simp [World.setCell])
  · exact own_agree (own_below h.seen hb) fun j hj => setBk_other (by rintro rfl; exact e2 hj)
  · exact own_agree (own_mono ho hold) fun j hj => setBk_other (by rintro rfl; have := (ho.lt _ hj).1; have := h.blt; omega)
  · have := (ho.lt k hk).1
    exact ⟨this, fun hF => by have := h.fhi k hF; omega⟩
end

end Go.Proofs.Ytjnkiloomdeljaa
