/-
  best: a list in memory; what is put where.
-/
import Derived.Test.YtpjbkaibgajpcaaJ05
namespace Go.Proofs.Ytpjbkaibgajpcaa
open Go.RowKit

theorem near_trans {a b c : Hz} (h : near a b = true) (g : near b c = true) : near a c = true := by
  simp only [near, nearB, Bool.or_eq_true, Bool.and_eq_true, decide_eq_true_eq] at *
  omega

theorem near_irrefl (a : Hz) : near a a = false := by
  simp [near, nearB]

theorem near_total {a b : Hz} (h : a.id ≠ b.id) : near a b = true ∨ near b a = true := by
  simp only [near, nearB, Bool.or_eq_true, Bool.and_eq_true, decide_eq_true_eq]
  omega

theorem near_asymm {a b : Hz} (h : near a b = true) : near b a = false := by
  cases hb : near b a
  · rfl
  · have := near_trans h hb
    rw [near_irrefl] at this; cases this

/-- the nearer goes ahead -/
def Sorted (l : List Hz) : Prop := l.Pairwise fun a b => near a b = true

/-- how many go ahead of it -/
def rankZ (l : List Hz) (h : Hz) : Nat := (l.takeWhile fun x => near x h).length

theorem rankZ_le (l : List Hz) (h : Hz) : rankZ l h ≤ l.length := (List.takeWhile_sublist _).length_le

theorem rankZ_below {l : List Hz} {h : Hz} {k : Nat} (hk : k < l.length) (hr : k < rankZ l h) : near l[k] h = true := by
  unfold rankZ at hr
  induction l generalizing k with
  | nil => simp at hk
  | cons a l ih =>
    simp only [List.takeWhile_cons] at hr
    split at hr
    · rename_i ha
      cases k with
      | zero => exact ha
      | succ k => exact ih (by simpa using hk) (by simpa using hr)
    · simp at hr

theorem rankZ_above {l : List Hz} (hs : Sorted l) {h : Hz} {k : Nat} (hk : k < l.length) (hr : rankZ l h ≤ k) : near l[k] h = false := by
  unfold rankZ at hr
  induction l generalizing k with
  | nil => simp at hk
  | cons a l ih =>
    have hs' := List.pairwise_cons.1 hs
    simp only [List.takeWhile_cons] at hr
    split at hr
    · cases k with
      | zero => simp at hr
      | succ k => exact ih hs'.2 (by simpa using hk) (by simpa using hr)
    · rename_i ha
      cases k with
      | zero => simpa using ha
      | succ k =>
        have hk' : k < l.length := by simpa using hk
        simp only [List.getElem_cons_succ]
        cases hn : near l[k] h
        · rfl
        · exact absurd (near_trans (hs'.1 _ (List.getElem_mem hk')) hn) (by simpa using ha)

/-- it is put where it belongs -/
def insZ (l : List Hz) (h : Hz) : List Hz := l.take (rankZ l h) ++ h :: l.drop (rankZ l h)

/-- a list's own, in memory: its cell c, its slice v, the vectors read from G -/
structure ListOwn (w : World) (B c : Nat) (most : Int) (v : Value) (rs : List Hv) (G : Nat → Prop) (l : List Hz) : Prop where
  obj : w.heap[c]? = some (.cells #[.int .i64 most, v] 97 (0, 0))
  ge : B ≤ c
  row : w.ownsRow B 45 3 v rs.length (flat3 rs)
  rows : Rows3 w G rs l
  gc : ¬ G c
  gv : ∀ b, v.ownBlock = some b → ¬ G b
  glo : ∀ k, G k → B ≤ k
  ghi : ∀ k, G k → k < w.heap.size

def ListAt (w : World) (B : Nat) (F : Nat → Prop) (c : Nat) (most : Int) (l : List Hz) : Prop :=
  ∃ v rs G, ListOwn w B c most v rs G l ∧ F c ∧ (∀ b, v.ownBlock = some b → F b) ∧ ∀ k, G k → F k

/-- F and what is new in w' -/
def Plus (F : Nat → Prop) (w w' : World) (k : Nat) : Prop := F k ∨ (w.heap.size ≤ k ∧ k < w'.heap.size)

theorem ListOwn.below {w w' : World} {B c : Nat} {most : Int} {v : Value} {rs : List Hv} {G : Nat → Prop} {l : List Hz} (h : ListOwn w B c most v rs G l) (hb : Below w.heap.size w w') : ListOwn w' B c most v rs G l :=
  ⟨by rw [hb.block _ (lt_block h.obj)]; exact h.obj, h.ge, own_below h.row hb, h.rows.below hb, h.gc, h.gv, h.glo, fun k hk => by have := h.ghi k hk; have := hb.size; omega⟩

theorem ListAt.below {w w' : World} {B c : Nat} {F : Nat → Prop} {most : Int} {l : List Hz} (h : ListAt w B F c most l) (hb : Below w.heap.size w w') : ListAt w' B F c most l :=
  let ⟨v, rs, G, h, a, b, d⟩ := h; ⟨v, rs, G, h.below hb, a, b, d⟩

theorem ListAt.mono {w : World} {B c : Nat} {F F' : Nat → Prop} {most : Int} {l : List Hz} (h : ListAt w B F c most l) (hs : ∀ k, F k → F' k) : ListAt w B F' c most l :=
  let ⟨v, rs, G, h, a, b, d⟩ := h; ⟨v, rs, G, h, hs _ a, fun k hk => hs _ (b k hk), fun k hk => hs _ (d k hk)⟩

theorem ListAt.agree {w w' : World} {B c : Nat} {F : Nat → Prop} {most : Int} {l : List Hz} (h : ListAt w B F c most l) (ha : Agree F w w') (hs : w.heap.size ≤ w'.heap.size) : ListAt w' B F c most l := by
  obtain ⟨v, rs, G, h, a, b, d⟩ := h
  refine ⟨v, rs, G, ⟨by rw [ha c a]; exact h.obj, h.ge, ?_, h.rows.agree fun k hk => ha k (d k hk), h.gc, h.gv, h.glo, fun k hk => by have := h.ghi k hk; omega⟩, a, b, d⟩
  obtain ⟨h0, h | ⟨g, cap, cur, rfl, hb, hh, r⟩⟩ := h.row
  · exact ⟨h0, .inl h⟩
  · exact ⟨h0, .inr ⟨g, cap, cur, rfl, hb, by rw [ha g (b g rfl)]; exact hh, r⟩⟩

theorem ListOwn.cells {w : World} {B c : Nat} {most : Int} {v : Value} {rs : List Hv} {G : Nat → Prop} {l : List Hz} (h : ListOwn w B c most v rs G l) : w.cell? ⟨c, 0, none⟩ = some (.int .i64 most) ∧ w.cell? ⟨c, 1, none⟩ = some v ∧ w.frozen? ⟨c, 1, none⟩ = false :=
  ⟨by simp [World.cell?, h.obj], by simp [World.cell?, h.obj], by simp [World.frozen?, h.obj]⟩

theorem ListOwn.hits {w : World} {B c : Nat} {most : Int} {v : Value} {rs : List Hv} {G : Nat → Prop} {l : List Hz} (h : ListOwn w B c most v rs G l) : HitsF w (fun k => v.ownBlock = some k ∨ G k) v l :=
  HitsF.of_own h.row (fun b hb => .inl hb) (h.rows.mono fun k hk => .inr hk)

/-- two owned rows of unlike element types lie apart; a row and a block of another type -/
theorem own_not {w : World} {base e size n c t : Nat} {v : Value} {xs : List Value} {cur : Array Value} {fr : Nat × Nat} (h : w.ownsRow base e size v n xs) (hc : w.heap[c]? = some (.cells cur t fr)) (hne : e ≠ t) : v.ownBlock ≠ some c := by
  rcases h.2 with ⟨rfl, _⟩ | ⟨g, cap, cur', rfl, _, hh, _⟩
  · simp [Value.ownBlock]
  · simp only [Value.ownBlock, ne_eq, Option.some.injEq]
    rintro rfl
    rw [hc] at hh
    simp only [Option.some.injEq, Obj.cells.injEq] at hh
    exact hne hh.2.1.symm

/-- the slice is another one now -/
theorem ListOwn.put {w0 w1 : World} {B c : Nat} {most : Int} {v v' : Value} {rs rs' : List Hv} {G G' : Nat → Prop} {l l' : List Hz} (h : ListOwn w0 B c most v rs G l) (hm : Mod (fun k => v.ownBlock = some k) w0 w1)
    (ho : w1.ownsRow B 45 3 v' rs'.length (flat3 rs')) (hr : Rows3 w1 G' rs' l') (hc : ¬ G' c) (hv : ∀ b, v'.ownBlock = some b → ¬ G' b) (hlo : ∀ k, G' k → B ≤ k) (hhi : ∀ k, G' k → k < w1.heap.size) :
    ListOwn (w1.setCell ⟨c, 1, none⟩ v') B c most v' rs' G' l' := by
  have hvc := own_not h.row h.obj (by decide)
  have hc1 : w1.heap[c]? = some (.cells #[.int .i64 most, v] 97 (0, 0)) := by rw [hm.block c (lt_block h.obj) hvc]; exact h.obj
  have hv'c := own_not ho hc1 (by decide)
  refine ⟨by simp [World.setCell, Array.getElem?_modify, hc1], h.ge, ownsRow_setCell_other ho hv'c _, hr.agree fun k hk => ?_, hc, hv, hlo, fun k hk => by simpa [World.setCell] using hhi k hk⟩
  exact Below.heap_setCell _ _ _ _ (by rintro rfl; exact hc hk)

theorem len (B c : Nat) (most : Int) (v : Value) (rs : List Hv) (G : Nat → Prop) (l : List Hz) (w : World) (h : ListOwn w B c most v rs G l) :
    Calls Try.prog 81 #[.pointer (some ⟨c, 0, none⟩)] w fun e w' => e = .returned (.int .i64 l.length) ∧ w = w' := by
  obtain ⟨p, cap, rfl, -, -, -, -⟩ := h.hits
  obtain ⟨c0, c1, -⟩ := h.cells
  clear h
  go_enter Try.func81, Try.ntmps81
  go_wp2_with fail
  go_ret
  exact ⟨rfl, rfl⟩

theorem new_yes (most : Int) (w : World) (h1 : 1 ≤ most) (h2 : most ≤ 256) :
    Calls Try.prog 36 #[.int .i64 most] w fun e w' => ∃ c, e = .returned (.tuple #[.pointer (some ⟨c, 0, none⟩), .int .i64 0]) ∧ ListAt w' w.heap.size (Plus (fun _ => False) w w') c most [] ∧ Below w.heap.size w w' := by
  go_enter Try.func36, Try.ntmps36
  go_wp2_with fail
  go_ret2
  refine ⟨_, rfl, ⟨.slice none 0 0, [], fun _ => False, ⟨heap_alloc_new _ _, Nat.le_refl _, World.ownsRow_nil _ _ _ _, Rows3.nil _ _, fun h => h, fun _ _ h => h, fun _ h => h.elim, fun _ h => h.elim⟩, .inr ⟨Nat.le_refl _, by simp⟩, by simp [Value.ownBlock], fun _ h => h.elim⟩, (Below.refl _ _).alloc (Nat.le_refl _) _⟩

end Go.Proofs.Ytpjbkaibgajpcaa
