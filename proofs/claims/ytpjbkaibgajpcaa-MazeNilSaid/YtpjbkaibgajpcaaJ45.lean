/-
  best's law: BestMerges: the hits of one list get their vectors, and go to the document's list.
  best's law: BestMerges, walked.
  maze: what Put turns.
-/
import Derived.Test.YtpjbkaibgajpcaaJ44
namespace Go.Proofs.Ytpjbkaibgajpcaa
open Go.RowKit

theorem own_cell {w : World} {base e size n g i : Nat} {v u : Value} {xs : List Value} (h : w.ownsRow base e size v n xs) (hg : v.ownBlock = some g) (hx : xs[i]? = some u) : w.cell? ⟨g, i, none⟩ = some u := by
  have := own_rangeAt h hg i [u] (fun j z hj => by
    have : j = 0 := by
      have := (List.getElem?_eq_some_iff.1 hj).1
      simp at this; omega
    subst this
    simp at hj; subst hj; exact hx) 0 u rfl
  simpa using this

end Go.Proofs.Ytpjbkaibgajpcaa

namespace Go.Proofs.Ytpjbkaibgajpcaa
open Go.RowKit

theorem HitsF.front {w : World} {F : Nat → Prop} {p : Option Addr} {n c : Nat} {l : List Hz} (h : HitsF w F (.slice p n c) l) {k : Nat} (hk : k ≤ l.length) : HitsF w F (.slice p k c) (l.take k) := by
  obtain ⟨p', cap, hv, h1, h2, h3, h4⟩ := h
  obtain ⟨rfl, rfl, rfl⟩ := Value.slice.inj hv
  have hl : (l.take k).length = k := by rw [List.length_take]; omega
  refine ⟨p, c, by rw [hl], by omega, h2, h3, fun i hi => ?_⟩
  obtain ⟨b, off, u, r⟩ := h4 i (by omega)
  exact ⟨b, off, u, by simpa [List.getElem_take] using r⟩

end Go.Proofs.Ytpjbkaibgajpcaa

namespace Go.Proofs.Ytpjbkaibgajpcaa
open Go.RowKit Go.ChangeMaps

/-- hits without vectors, of a row of its own -/
def HitsT (w : World) (v : Value) (l : List Hz) : Prop := HitsF w (fun j => OfType w 45 j) v l

theorem held_bare {w : World} {B E : Nat} {rs : List Hv} {L : List Hz} (hh : Held3 w B E rs L) (hb : ∀ y ∈ L, y.vec = []) (G : Nat → Prop) : Rows3 w G rs L :=
  ⟨hh.len, fun i h1 h2 => by
    have := hh.own i h1 h2
    exact ⟨this.1.1, this.1.2, Nums.of_own this.2, fun h0 => by rw [hb _ (List.getElem_mem h2)] at h0; simp at h0⟩⟩

theorem RunTells.typed {w0 w' : World} {L : List Hz} {n : Nat} {e : Ending} (h : RunTells w0 L n e w') (hb : ∀ y ∈ L, y.vec = []) : ∃ v, e = .returned (.tuple #[v, .int .i64 n]) ∧ HitsT w' v L ∧ Below w0.heap.size w0 w' := by
  obtain ⟨v, rs, rfl, ho, hh, hbl⟩ := h
  exact ⟨v, rfl, HitsF.of_own ho (fun b hb => own_type ho hb) (held_bare hh hb _), hbl⟩

theorem OfType.mturn {w w' : World} {B T j : Nat} (h : OfType w T j) (hm : Mod (MTurn w B) w w') (hT : T ≠ 51) : w'.heap[j]? = w.heap[j]? ∧ OfType w' T j := by
  obtain ⟨cs, fr, e⟩ := h
  have := MTurn.box hm e hT
  exact ⟨this.trans e.symm, cs, fr, this⟩

theorem HitsT.mturn {w w' : World} {B : Nat} {v : Value} {l : List Hz} (h : HitsT w v l) (hm : Mod (MTurn w B) w w') : HitsT w' v l :=
  (HitsF.agree h fun j hj => (hj.mturn hm (by decide)).1).mono fun j hj => (hj.mturn hm (by decide)).2

theorem HitsT.below {w w' : World} {v : Value} {l : List Hz} (h : HitsT w v l) (hb : Below w.heap.size w w') : HitsT w' v l :=
  (HitsF.below h hb).mono fun j ⟨cs, fr, e⟩ => ⟨cs, fr, (hb.block j (lt_block e)).trans e⟩

theorem HitsT.nil (w : World) : HitsT w (.slice none 0 0) [] := HitsF.nil _ _

theorem Nums.mturn {w w' : World} {B : Nat} {v : Value} {xs : List Int} (h : Nums w .i32 v xs) (ht : LiesIn (OfType w 21) v xs.length) (hm : Mod (MTurn w B) w w') : Nums w' .i32 v xs ∧ LiesIn (OfType w' 21) v xs.length :=
  ⟨h.agree ht fun j hj => (hj.mturn hm (by decide)).1, ht.mono fun j hj => (hj.mturn hm (by decide)).2⟩

section
variable {B : Nat} {w w' : World} {z p m mv : Nat} {Q Q' : Gr} {dim en : Int} {VL : List (Int × Value)} {s : Mz}

/-- the entry is written -/
theorem MzAt.enter (h : MzAt B w z p m mv Q dim en VL s) (k : Int) : MzAt B (w.setCell ⟨z, 3, none⟩ (.int .u64 k)) z p m mv Q dim k VL s ∧ Mod (MTurn w B) w (w.setCell ⟨z, 3, none⟩ (.int .u64 k)) := by
  have hset := setBk h.cell 3 (.int .u64 k)
  have hm : Mod (fun j => j = z) w (w.setCell ⟨z, 3, none⟩ (.int .u64 k)) := (Mod.refl (fun j => j = z) w).setCell (p := ⟨z, 3, none⟩) (.inl rfl) _
  have hne : ∀ j, (∀ T cs fr, w.heap[j]? = some (.cells cs T fr) → T ≠ 51) → j < w.heap.size → (w.setCell ⟨z, 3, none⟩ (.int .u64 k)).heap[j]? = w.heap[j]? := fun j hj _ => setBk_other (by rintro rfl; exact hj _ _ _ h.cell rfl)
  have hmap : ∀ j, IsMap w j → (w.setCell ⟨z, 3, none⟩ (.int .u64 k)).heap[j]? = w.heap[j]? := fun j hj => by
    obtain ⟨es, c, h1⟩ := id hj
    exact hne j (fun T cs fr e => by rw [h1] at e; cases e) (lt_block h1)
  refine ⟨⟨by simpa using hset, ⟨⟨(hne p (fun T cs fr e => by rw [h.gp.g.cell] at e; cases e; decide) (lt_block h.gp.g.cell)).trans h.gp.g.cell, h.gp.g.outer.kept (hmap m h.gp.g.outer.isMap), fun q hq => (h.gp.g.inner q hq).kept (hmap _ (h.gp.g.inner q hq).isMap), h.gp.g.apart⟩, h.gp.rel, h.gp.low, Nat.le_trans h.gp.big hm.size⟩, h.vecs.kept (hmap mv h.vecs.isMap), h.apart, fun y hy => ?_, h.missing, h.low⟩, hm.mono fun j _ e => ⟨e ▸ h.low.1, .inr (e ▸ ⟨_, _, h.cell⟩)⟩⟩
  obtain ⟨v, h1, h2⟩ := h.vals y hy
  exact ⟨v, h1, own_agree h2 fun j hj => hne j (fun T cs fr e => by have := OfType.ne (own_type h2 hj) ⟨_, _, e⟩; rw [← this]; decide) (h2.lt j hj).2⟩

/-- one node more, without edges -/
theorem MzAt.add (h : MzAt B w z p m mv Q dim en VL s) {k : Int} (hk : k ∉ s.N) :
    Calls Try.prog 24 #[.pointer (some ⟨p, 0, none⟩), .int .u64 k] w fun e w1 => e = .returned (.int .i64 0) ∧ (∃ Q', MzAt B w1 z p m mv Q' dim en VL ⟨putZ s.N k, s.E, s.L⟩) ∧ Mod (MTurn w B) w w1 := by
  refine (gAdd w p m Q k h.gp.g).mono ?_
  rintro e w1 (⟨hh, -⟩ | ⟨hh, rfl, hg, hm⟩)
  · exact absurd ((h.gp.rel.keys k).1 (hasB_iff.1 hh)) hk
  have hmm : IsMap w m := h.gp.g.outer.isMap
  have no : ∀ T j, OfType w T j → j ≠ m := fun T j ht e => (e ▸ hmm).no ht
  refine ⟨rfl, ⟨_, ⟨(hm.block z (lt_block h.cell) (no _ z ⟨_, _, h.cell⟩)).trans h.cell, ⟨hg, h.gp.rel.add hk _, ⟨h.gp.low.1, h.gp.low.2.1, fun q hq => ?_⟩, Nat.le_trans h.gp.big hm.size⟩, h.vecs.kept (hm.block mv h.vecs.lt h.apart.1), ⟨h.apart.1, fun hf => ?_⟩, fun y hy => ?_, h.missing, h.low⟩⟩, hm.mono fun j _ e => ⟨e ▸ h.gp.low.2.1, .inl (e ▸ hmm)⟩⟩
  · rcases List.mem_append.1 hq with hq | hq
    · exact h.gp.low.2.2 q hq
    · rw [List.mem_singleton.1 hq]; exact h.gp.big
  · obtain ⟨q, hq, e⟩ := hf
    rcases List.mem_append.1 hq with hq | hq
    · exact h.apart.2 ⟨q, hq, e⟩
    · rw [List.mem_singleton.1 hq] at e
      have := h.vecs.lt
      simp only at e
      omega
  · obtain ⟨v, h1, h2⟩ := h.vals y hy
    exact ⟨v, h1, own_agree h2 fun j hj => hm.block j (h2.lt j hj).2 (no _ j (own_type h2 hj))⟩

/-- a node's vector is laid -/
theorem MzAt.lay (h : MzAt B w z p m mv Q dim en VL s) {k : Int} {u : Value} {xs : List Int} (hk : k ∉ s.L.map (fun y : Hz => y.id)) (hu : w.ownsRow B 21 1 u xs.length (xs.map (Value.int .i32))) :
    ∃ w', (Instr.mapUpdate 49 (.map (some mv)) (.int .u64 k) u).run Try.prog w = .ok () w' ∧ MzAt B w' z p m mv Q dim en (putK VL k u) ⟨s.N, s.E, s.L ++ [⟨k, 0, xs⟩]⟩ ∧ Mod (MTurn w B) w w' := by
  obtain ⟨w', hr, hmp, hg, hsz⟩ := run_put (P := Try.prog) (int_keyOf Try.underlying22) Try.underlying49 h.vecs k u
  have hm : Mod (fun j => j = mv) w w' := (Mod.refl _ w).grown hg (fun j hj => .inl (by cases hj; rfl))
  have hmm : IsMap w mv := h.vecs.isMap
  have no : ∀ T j, OfType w T j → j ≠ mv := fun T j ht e => (e ▸ hmm).no ht
  have own : ∀ {u : Value} {xs : List Int}, w.ownsRow B 21 1 u xs.length (xs.map (Value.int .i32)) → w'.ownsRow B 21 1 u xs.length (xs.map (Value.int .i32)) := fun h2 => own_agree h2 fun j hj => hm.block j (h2.lt j hj).2 (no _ j (own_type h2 hj))
  refine ⟨w', hr, ⟨(hm.block z (lt_block h.cell) (no _ z ⟨_, _, h.cell⟩)).trans h.cell, ⟨⟨(hm.block p (lt_block h.gp.g.cell) (no _ p ⟨_, _, h.gp.g.cell⟩)).trans h.gp.g.cell, h.gp.g.outer.kept (hm.block m h.gp.g.outer.lt (Ne.symm h.apart.1)), fun q hq => (h.gp.g.inner q hq).kept (hm.block _ (h.gp.g.inner q hq).lt fun e => h.apart.2 ⟨q, hq, e.symm⟩), h.gp.g.apart⟩, h.gp.rel, h.gp.low, Nat.le_trans h.gp.big hm.size⟩, hmp, h.apart, fun y hy => ?_, fun x hx => ?_, h.low⟩, hm.mono fun j _ e => ⟨e ▸ h.low.2, .inl (e ▸ hmm)⟩⟩
  · rw [getK_put]
    rcases List.mem_append.1 hy with hy | hy
    · obtain ⟨v, h1, h2⟩ := h.vals y hy
      rw [if_neg (fun e : y.id = k => hk (e ▸ List.mem_map_of_mem (f := fun y : Hz => y.id) hy))]
      exact ⟨v, h1, own h2⟩
    · obtain rfl : y = ⟨k, 0, xs⟩ := by simpa using hy
      rw [if_pos rfl]
      exact ⟨u, rfl, own hu⟩
  · simp only [List.map_append, List.mem_append, List.map_cons, List.map_nil, List.mem_singleton, not_or] at hx
    rw [getK_put, if_neg hx.2]
    exact h.missing x hx.1
end

theorem mPut_nil (w : World) (k : Int) (v : Value) :
    Calls Try.prog 10 #[.pointer none, .int .u64 k, v] w fun e w' => e = .returned (.int .i64 6) ∧ w' = w := by
  go_enter Try.func10, Try.ntmps10
  go_wp2_with fail
  go_ret
  exact ⟨rfl, rfl⟩

end Go.Proofs.Ytpjbkaibgajpcaa
