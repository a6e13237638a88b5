/-
  best's law: BestPlays: both lists, side by side.
-/
import Derived.Test.YtfjhipaoljnfaaaFlip
import Derived.Test.YtfjhipaoljnfaaaBestP
namespace Go.Proofs.Ytfjhipaoljnfaaa
open Go.RowKit

/-- the program's list and the document's, of the same hits, apart -/
structure Both (w : World) (B0 Bw cl cx most : Nat) (FL FX : Nat → Prop) (L : List Hz) : Prop where
  la : ListAt w B0 FL cl most L
  rl : RefL w FX cx most L
  lh : ∀ k, FL k → k < w.heap.size ∧ ¬ FX k
  rh : ∀ k, FX k → k < w.heap.size
  lo : ∀ k, FL k ∨ FX k → Bw ≤ k
  b0 : B0 ≤ w.heap.size
  good : GoodL most L

theorem Both.cx {w : World} {B0 Bw cl cx most : Nat} {FL FX : Nat → Prop} {L : List Hz} (m : Both w B0 Bw cl cx most FL FX L) : FX cx := by
  obtain ⟨_, _, _, _, _, h, _⟩ := m.rl
  exact h

/-- the last alone -/
theorem HitsF.last {w : World} {F : Nat → Prop} {b off n c : Nat} {l : List Hz} (h : HitsF w F (.slice (some ⟨b, off, none⟩) l.length c) l) (hl : l.length = n + 1) (hk : n < l.length) : HitsF w F (.slice (some ⟨b, off + n * 3, none⟩) (l.length - n) (c - n)) [l[n]] := by
  obtain ⟨p', cap, hv, h1, h2, h3, h4⟩ := h
  obtain ⟨rfl, -, rfl⟩ := Value.slice.inj hv
  refine ⟨some ⟨b, off + n * 3, none⟩, c - n, by rw [show l.length - n = 1 by omega]; rfl, by simp only [List.length_singleton]; omega, by omega, by simp, fun i hi => ?_⟩
  obtain rfl : i = 0 := by simp at hi; omega
  obtain ⟨b', off', u, hp, r⟩ := h4 n hk
  obtain ⟨rfl, rfl⟩ : b = b' ∧ off = off' := by simpa using hp
  exact ⟨b, off + n * 3, u, rfl, by simpa using r⟩

theorem Both.below {w w' : World} {B0 Bw cl cx most : Nat} {FL FX : Nat → Prop} {L : List Hz} (m : Both w B0 Bw cl cx most FL FX L) (hb : Below w.heap.size w w') : Both w' B0 Bw cl cx most FL FX L := by
  have hs := hb.size
  exact ⟨m.la.below hb, m.rl.below hb, fun k hk => ⟨by have := (m.lh k hk).1; omega, (m.lh k hk).2⟩, fun k hk => by have := m.rh k hk; omega, m.lo, by have := m.b0; omega, m.good⟩

theorem Both.mod {w w' : World} {B0 Bw cl cx most : Nat} {FL FX P : Nat → Prop} {L : List Hz} (m : Both w B0 Bw cl cx most FL FX L) (hm : Mod P w w') (hp : ∀ k, FL k ∨ FX k → ¬ P k) : Both w' B0 Bw cl cx most FL FX L := by
  have hs := hm.size
  exact ⟨m.la.agree (Agree.of_mod hm (fun k hk => (m.lh k hk).1) fun k hk => hp k (.inl hk)) hs, m.rl.agree (Agree.of_mod hm (fun k hk => m.rh k hk) fun k hk => hp k (.inr hk)) hs, fun k hk => ⟨by have := (m.lh k hk).1; omega, (m.lh k hk).2⟩, fun k hk => by have := m.rh k hk; omega, m.lo, by have := m.b0; omega, m.good⟩

/-- the document has taken them, then the program has -/
theorem Both.added {w4 w5 w6 : World} {B0 Bw cl cx most : Nat} {FL FX : Nat → Prop} {L ms : List Hz} (m : Both w4 B0 Bw cl cx most FL FX L) (hm1 : 1 ≤ most) (hx : ∀ h ∈ ms, h.vec.length ≤ 1000000) (hB : Bw ≤ w4.heap.size)
    (hr : RefL w5 (fun k => FX k ∨ (w4.heap.size ≤ k ∧ k < w5.heap.size)) cx most (addsZ most L ms).2) (h45 : Mod (fun k => k = cx) w4 w5)
    (ha : ListAt w6 B0 (Plus FL w5 w6) cl most (addsZ most L ms).2) (h56 : Mod FL w5 w6) :
    Both w6 B0 Bw cl cx most (Plus FL w5 w6) (fun k => FX k ∨ (w4.heap.size ≤ k ∧ k < w5.heap.size)) (addsZ most L ms).2 := by
  have hs5 := h45.size
  have hs6 := h56.size
  have hd : ∀ k, (FX k ∨ (w4.heap.size ≤ k ∧ k < w5.heap.size)) → k < w5.heap.size ∧ ¬ FL k := by
    rintro k (h | h)
    · exact ⟨by have := m.rh k h; omega, fun hl => (m.lh k hl).2 h⟩
    · exact ⟨h.2, fun hl => by have := (m.lh k hl).1; omega⟩
  refine ⟨ha, hr.agree (Agree.of_mod h56 (fun k hk => (hd k hk).1) fun k hk => (hd k hk).2) hs6, ?_, fun k hk => by have := (hd k hk).1; omega, ?_, by have := m.b0; omega, addsZ_good hm1 m.good ms hx⟩
  · rintro k (h | ⟨h1, h2⟩)
    · exact ⟨by have := (m.lh k h).1; omega, fun hh => (hd k hh).2 h⟩
    · exact ⟨h2, fun hh => by have := (hd k hh).1; omega⟩
  · rintro k ((h | h) | (h | h))
    · exact m.lo k (.inl h)
    · omega
    · exact m.lo k (.inr h)
    · omega

/-- the document has taken one more -/
theorem play_next {w4 wr w' : World} {o : Obj} {cx : Nat} {most : Int} {FX : Nat → Prop} {p : Bool × List Hz} {e : Ending} (hm : Mod (fun k => k = cx) w4 wr) (hb : Below wr.heap.size wr (wr.alloc o)) (h : RefAdd (wr.alloc o) (fun k => FX k ∨ (w4.heap.size ≤ k ∧ k < wr.heap.size)) cx most p e w') :
    RefL w' (fun k => FX k ∨ (w4.heap.size ≤ k ∧ k < w'.heap.size)) cx most p.2 ∧ Mod (fun k => k = cx) w4 w' := by
  obtain ⟨-, h2, h3⟩ := h
  have hs := hm.size
  have hs2 := h3.size
  simp at hs2
  refine ⟨h2.mono fun k hk => ?_, (hm.andBelow hb).trans h3 fun k _ hk => hk⟩
  rcases hk with (hk | hk) | ⟨hk, hk2⟩
  · exact .inl hk
  · exact .inr ⟨hk.1, by omega⟩
  · simp at hk
    exact .inr ⟨by omega, hk2⟩

theorem hitsZ_idem (n : Nat) (l : List Hz) : hitsZ n (hitsZ n l) = hitsZ n l := by
  unfold hitsZ
  rw [← List.map_take, List.map_map, List.take_take, Nat.min_self]
  apply List.map_congr_left
  intro h _
  simp [List.take_take]

end Go.Proofs.Ytfjhipaoljnfaaa
