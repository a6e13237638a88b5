/- best's document: one is added. -/
import Derived.Test.YtpjbkaibgajpcaaGreatJ10
namespace Go.Proofs.YtpjbkaibgajpcaaGreat
open Go.RowKit
set_option maxRecDepth 20000

def RefL (w : World) (F : Nat → Prop) (c : Nat) (most : Int) (L : List Hz) : Prop := ∃ v G r, RefOwn w c most v G r ∧ L.Perm r ∧ F c ∧ ∀ k, G k → F k

theorem RefL.below {w w' : World} {c : Nat} {F : Nat → Prop} {most : Int} {l : List Hz} (h : RefL w F c most l) (hb : Below w.heap.size w w') : RefL w' F c most l :=
  let ⟨v, G, r, h, a, b, d⟩ := h; ⟨v, G, r, h.below hb, a, b, d⟩

theorem RefL.mono {w : World} {c : Nat} {F F' : Nat → Prop} {most : Int} {l : List Hz} (h : RefL w F c most l) (hs : ∀ k, F k → F' k) : RefL w F' c most l :=
  let ⟨v, G, r, h, a, b, d⟩ := h; ⟨v, G, r, h, a, hs _ b, fun k hk => hs _ (d k hk)⟩

theorem RefL.agree {w w' : World} {c : Nat} {F : Nat → Prop} {most : Int} {l : List Hz} (h : RefL w F c most l) (ha : Agree F w w') (hs : w.heap.size ≤ w'.heap.size) : RefL w' F c most l := by
  obtain ⟨v, G, r, h, a, b, d⟩ := h
  exact ⟨v, G, r, h.agree (ha c b) (fun k hk => ha k (d k hk)) hs, a, b, d⟩

def RefAdd (w : World) (F : Nat → Prop) (c : Nat) (most : Int) (p : Bool × List Hz) (e : Ending) (w' : World) : Prop :=
  e = .returned (.bool p.1) ∧ RefL w' (Plus F w w') c most p.2 ∧ Mod (fun k => k = c) w w'

structure MidR (w W : World) (F : Nat → Prop) (c : Nat) (most : Int) (v : Value) (G : Nat → Prop) (r : List Hz) (u : Value) (h : Hz) : Prop where
  ro : RefOwn W c most v G r
  mod : Mod (fun k => k = c) w W
  gF : ∀ k, G k → F k ∨ w.heap.size ≤ k
  fc : F c
  lt : c < w.heap.size
  uo : W.ownsRow w.heap.size 21 1 u h.vec.length (h.vec.map (Value.int .i32))

theorem MidR.below {w W W' : World} {F : Nat → Prop} {c : Nat} {most : Int} {v : Value} {G : Nat → Prop} {r : List Hz} {u : Value} {h : Hz} (m : MidR w W F c most v G r u h) (hb : Below W.heap.size W W') : MidR w W' F c most v G r u h :=
  ⟨m.ro.below hb, m.mod.andBelow hb, m.gF, m.fc, m.lt, own_below m.uo hb⟩

theorem Rows3.back {w w' : World} {G : Nat → Prop} {rs : List Hv} {l : List Hz} (h : Rows3 w' G rs l) (hb : Below w.heap.size w w') (hG : ∀ k, G k → k < w.heap.size) : Rows3 w G rs l :=
  h.agree fun k hk => (hb.block k (hG k hk)).symm

theorem MidR.start {w w4 : World} {F : Nat → Prop} {c : Nat} {most : Int} {v : Value} {G : Nat → Prop} {r : List Hz} {u : Value} {h : Hz} {B : Nat} (ro : RefOwn w c most v G r) (hF : F c ∧ ∀ k, G k → F k) (hb : Below w.heap.size w w4) (hB : w.heap.size < B)
    (uo : w4.ownsRow B 21 1 u h.vec.length (h.vec.map (Value.int .i32))) : MidR w (w4.setCell ⟨w.heap.size, 2, none⟩ u) F c most v G r u h := by
  have hlt := lt_block ro.obj
  have r4 := ro.below hb
  refine ⟨r4.agree (Below.heap_setCell _ _ _ _ (by simp only; omega)) (fun k hk => Below.heap_setCell _ _ _ _ (by have := ro.ghi k hk; simp only; omega)) (by simp [World.setCell]), (Mod.of_below hb).setCell (.inr (Nat.le_refl _)) _, fun k hk => .inl (hF.2 k hk), hF.1, hlt, ?_⟩
  exact own_mono (ownsRow_setCell_other uo (fun e => by have := (uo.lt _ e).1; simp only at this; omega) _) (Nat.le_of_lt hB)

theorem MidR.same {w W : World} {F : Nat → Prop} {c : Nat} {most : Int} {v : Value} {G : Nat → Prop} {r L : List Hz} {u : Value} {h : Hz} (m : MidR w W F c most v G r u h) (hp : L.Perm r) : RefAdd w F c most (false, L) (.returned (.bool false)) W :=
  ⟨rfl, ⟨v, G, r, m.ro, hp, .inl m.fc, fun k hk => by
    rcases m.gF k hk with h1 | h1
    · exact .inl h1
    · exact .inr ⟨h1, m.ro.ghi k hk⟩⟩, m.mod⟩

theorem MidR.put {w W W9 : World} {F : Nat → Prop} {c n : Nat} {most : Int} {v v9 : Value} {G : Nat → Prop} {r r2 L : List Hz} {rs2 : List Hv} {u : Value} {h : Hz} {B : Nat} (m : MidR w W F c most v G r u h) (hb : Below W.heap.size W W9) (hB : w.heap.size ≤ B)
    (ho : W9.ownsRow B 38 3 v9 n (flat3 rs2 ++ (#[.int .u64 h.id, .int .u64 h.dist, u] : Array Value).toList)) (hr : Rows3 W9 G rs2 r2) (hp : L.Perm (r2 ++ [h])) :
    RefAdd w F c most (true, L) (.returned (.bool true)) (W9.setCell ⟨c, 1, none⟩ v9) := by
  have m9 := m.below hb
  have hs := m9.mod.size
  have hlt := m9.lt
  have hn : n = (rs2 ++ [(⟨h.id, h.dist, u⟩ : Hv)]).length := by
    have := ho.1
    rw [← flat3_snoc, flat3_length] at this
    omega
  rw [← flat3_snoc] at ho
  have hrr : Rows3 W9 (fun k => G k ∨ (w.heap.size ≤ k ∧ k < W9.heap.size)) (rs2 ++ [⟨h.id, h.dist, u⟩]) (r2 ++ [h]) :=
    (hr.mono fun k hk => .inl hk).append (Rows3.single (Nums.of_own m9.uo) (fun _ b hb => Or.inr (m9.uo.lt b hb)))
  have hits := HitsF.of_own (F := fun k => G k ∨ (w.heap.size ≤ k ∧ k < W9.heap.size)) ho (fun b hb => .inr ⟨Nat.le_trans hB (ho.lt b hb).1, (ho.lt b hb).2⟩) hrr
  have hGc : ¬ (G c ∨ (w.heap.size ≤ c ∧ c < W9.heap.size)) := by
    rintro (h1 | h1)
    · exact m.ro.gc h1
    · omega
  refine ⟨rfl, ⟨v9, fun k => G k ∨ (w.heap.size ≤ k ∧ k < W9.heap.size), r2 ++ [h], ⟨?_, hits.agree fun k hk => Below.heap_setCell _ _ _ _ (by rintro rfl; exact hGc hk), hGc, fun k hk => ?_⟩, hp, .inl m.fc, fun k hk => ?_⟩, m9.mod.setCell (.inl rfl) _⟩
  · simp [World.setCell, Array.getElem?_modify, m9.ro.obj]
  · rw [show (W9.setCell ⟨c, 1, none⟩ v9).heap.size = W9.heap.size from by simp [World.setCell]]
    rcases hk with hk | hk
    · exact m9.ro.ghi k hk
    · exact hk.2
  · rw [Plus, show (W9.setCell ⟨c, 1, none⟩ v9).heap.size = W9.heap.size from by simp [World.setCell]]
    rcases hk with hk | hk
    · rcases m.gF k hk with h1 | h1
      · exact .inl h1
      · exact .inr ⟨h1, m9.ro.ghi k hk⟩
    · exact .inr hk

theorem MidR.set {w W W6 : World} {F : Nat → Prop} {c n : Nat} {most : Int} {v v6 : Value} {G : Nat → Prop} {r r2 : List Hz} {rs2 : List Hv} {u : Value} {h : Hz} {B : Nat} (m : MidR w W F c most v G r u h) (hb : Below W.heap.size W W6) (hB : w.heap.size ≤ B)
    (ho : W6.ownsRow B 38 3 v6 n (flat3 rs2)) (hr : Rows3 W6 G rs2 r2) :
    MidR w (W6.setCell ⟨c, 1, none⟩ v6) F c most v6 (fun k => G k ∨ (w.heap.size ≤ k ∧ k < W6.heap.size)) r2 u h := by
  have m6 := m.below hb
  have hlt := m6.lt
  have hits := HitsF.of_own (F := fun k => G k ∨ (w.heap.size ≤ k ∧ k < W6.heap.size)) ho (fun b hb => .inr ⟨Nat.le_trans hB (ho.lt b hb).1, (ho.lt b hb).2⟩) (hr.mono fun k hk => .inl hk)
  have hGc : ¬ (G c ∨ (w.heap.size ≤ c ∧ c < W6.heap.size)) := by
    rintro (h1 | h1)
    · exact m.ro.gc h1
    · omega
  have hsz : (W6.setCell ⟨c, 1, none⟩ v6).heap.size = W6.heap.size := by simp [World.setCell]
  refine ⟨⟨by simp [World.setCell, Array.getElem?_modify, m6.ro.obj], hits.agree fun k hk => Below.heap_setCell _ _ _ _ (by rintro rfl; exact hGc hk), hGc, fun k hk => ?_⟩, m6.mod.setCell (.inl rfl) _, fun k hk => ?_, m.fc, m.lt, ownsRow_setCell_other m6.uo (fun e => by have := (m6.uo.lt _ e).1; simp only at this; omega) _⟩
  · rw [hsz]
    rcases hk with hk | hk
    · exact m6.ro.ghi k hk
    · exact hk.2
  · rcases hk with hk | hk
    · exact m.gF k hk
    · exact .inr hk.1

theorem far_last {L r : List Hz} (hs : Sorted L) (hp : L.Perm r) {i : Nat} (hi : i < r.length) (hfar : ∀ j (hj : j < r.length), j ≠ i → near r[j] r[i] = true) (hl : L.length - 1 < L.length) : r[i] = L[L.length - 1] := by
  obtain ⟨j, hj, e⟩ := List.mem_iff_getElem.1 (hp.mem_iff.1 (List.getElem_mem hl))
  by_cases hji : j = i
  · subst hji; exact e
  · have h1 := hfar j hj hji
    obtain ⟨k, hk, e2⟩ := List.mem_iff_getElem.1 (hp.mem_iff.2 (List.getElem_mem hi))
    rw [e, ← e2] at h1
    by_cases hkl : k = L.length - 1
    · subst hkl; exact e2.symm
    · have h2 := List.pairwise_iff_getElem.1 hs k (L.length - 1) hk hl (by omega)
      rw [near_asymm h2] at h1; cases h1

theorem erase_cons {L : List Hz} {k : Nat} (hk : k < L.length) : (L[k] :: L.eraseIdx k).Perm L := by
  rw [List.eraseIdx_eq_take_drop_succ]
  refine List.perm_middle.symm.trans ?_
  rw [← List.drop_eq_getElem_cons hk, List.take_append_drop]

theorem perm_erase {L r : List Hz} (hp : L.Perm r) {k i : Nat} (hk : k < L.length) (hi : i < r.length) (e : L[k] = r[i]) : (L.eraseIdx k).Perm (r.eraseIdx i) := by
  have h1 := erase_cons hk
  have h2 := erase_cons hi
  rw [← e] at h2
  exact (h1.trans (hp.trans h2.symm)).cons_inv

theorem perm_ins {L r : List Hz} (hp : L.Perm r) (h : Hz) : (insZ L h).Perm (r ++ [h]) :=
  (insZ_perm L h).trans ((hp.cons h).trans (List.perm_append_singleton h r).symm)

end Go.Proofs.YtpjbkaibgajpcaaGreat
