/-
  Slices of hits: an ID, a distance and a vector each.
  An argument that is a slice of hits.
-/
import Derived.Test.YtfmlhdikagogcaaDoorJ01
import Derived.Deep.Strs
namespace Go.Proofs.YtfmlhdikagogcaaDoor
open Go.RowKit
set_option maxRecDepth 20000

/-- a hit -/
structure Hz where
  id : Int
  dist : Int
  vec : List Int
deriving DecidableEq

/-- a hit whose vector is a value -/
structure Hv where
  id : Int
  dist : Int
  vec : Value

def Hv.cells (h : Hv) : List Value := [.int .u64 h.id, .int .u64 h.dist, h.vec]

def flat3 : List Hv → List Value
  | [] => []
  | r :: rs => .int .u64 r.id :: .int .u64 r.dist :: r.vec :: flat3 rs

theorem flat3_length (rs : List Hv) : (flat3 rs).length = rs.length * 3 := by
  induction rs with
  | nil => rfl
  | cons r rs ih => simp [flat3, ih]; omega

theorem flat3_append (rs ss : List Hv) : flat3 (rs ++ ss) = flat3 rs ++ flat3 ss := by
  induction rs with
  | nil => rfl
  | cons r rs ih => simp [flat3, ih]

theorem flat3_get (rs : List Hv) (i : Nat) (hi : i < rs.length) : (flat3 rs)[i * 3]? = some (.int .u64 rs[i].id) ∧ (flat3 rs)[i * 3 + 1]? = some (.int .u64 rs[i].dist) ∧ (flat3 rs)[i * 3 + 1 + 1]? = some rs[i].vec := by
  induction rs generalizing i with
  | nil => simp at hi
  | cons r rs ih =>
    cases i with
    | zero => simp [flat3]
    | succ i =>
      have := ih i (by simpa using hi)
      have e1 : (i + 1) * 3 = i * 3 + 1 + 1 + 1 := by omega
      rw [e1]
      simp only [flat3, List.getElem?_cons_succ, List.getElem_cons_succ]
      exact this

theorem flat3_drop (rs : List Hv) (n : Nat) : (flat3 rs).drop (n * 3) = flat3 (rs.drop n) := by
  induction n generalizing rs with
  | zero => simp
  | succ n ih =>
    cases rs with
    | nil => simp [flat3]
    | cons r rs =>
      rw [show (n + 1) * 3 = n * 3 + 1 + 1 + 1 by omega]
      simp [flat3, ih]

theorem flat3_take (rs : List Hv) (n : Nat) : (flat3 rs).take (n * 3) = flat3 (rs.take n) := by
  induction n generalizing rs with
  | zero => simp [flat3]
  | succ n ih =>
    cases rs with
    | nil => simp [flat3]
    | cons r rs =>
      rw [show (n + 1) * 3 = n * 3 + 1 + 1 + 1 by omega]
      simp [flat3, ih]

theorem flat3_one {rs : List Hv} (h : ∀ r ∈ rs, r.vec.oneCell' = true) : ∀ u ∈ flat3 rs, u.oneCell' = true := by
  induction rs with
  | nil => simp [flat3]
  | cons r rs ih =>
    intro u hu
    simp only [flat3, List.mem_cons] at hu
    rcases hu with rfl | rfl | rfl | hu
    · rfl
    · rfl
    · exact h r (by simp)
    · exact ih (fun r hr => h r (by simp [hr])) u hu

theorem flat3_snoc (rs : List Hv) (x d : Int) (u : Value) : flat3 (rs ++ [⟨x, d, u⟩]) = flat3 rs ++ (#[.int .u64 x, .int .u64 d, u] : Array Value).toList := by
  rw [flat3_append]; rfl

/-- the vectors of hits are read from G -/
structure Rows3 (w : World) (G : Nat → Prop) (rs : List Hv) (l : List Hz) : Prop where
  len : rs.length = l.length
  each : ∀ i (h1 : i < rs.length) (h2 : i < l.length), rs[i].id = l[i].id ∧ rs[i].dist = l[i].dist ∧ Nums w .i32 rs[i].vec l[i].vec ∧ LiesIn G rs[i].vec l[i].vec.length

theorem Rows3.nil (w : World) (G : Nat → Prop) : Rows3 w G [] [] := ⟨rfl, fun i h => absurd h (by simp)⟩

theorem Rows3.one {w : World} {G : Nat → Prop} {rs : List Hv} {l : List Hz} (h : Rows3 w G rs l) : ∀ r ∈ rs, r.vec.oneCell' = true := by
  intro r hr
  obtain ⟨i, hi, rfl⟩ := List.mem_iff_getElem.1 hr
  obtain ⟨p, c, hq, _⟩ := (h.each i hi (by rw [← h.len]; exact hi)).2.2.1.slice
  rw [hq]; rfl

theorem Rows3.agree {w w' : World} {G : Nat → Prop} {rs : List Hv} {l : List Hz} (h : Rows3 w G rs l) (ha : Agree G w w') : Rows3 w' G rs l :=
  ⟨h.len, fun i h1 h2 => by obtain ⟨a, b, c, d⟩ := h.each i h1 h2; exact ⟨a, b, c.agree d ha, d⟩⟩

theorem Rows3.below {w w' : World} {G : Nat → Prop} {rs : List Hv} {l : List Hz} (h : Rows3 w G rs l) (hb : Below w.heap.size w w') : Rows3 w' G rs l :=
  ⟨h.len, fun i h1 h2 => by obtain ⟨a, b, c, d⟩ := h.each i h1 h2; exact ⟨a, b, c.below hb, d⟩⟩

theorem Rows3.mono {w : World} {G G' : Nat → Prop} {rs : List Hv} {l : List Hz} (h : Rows3 w G rs l) (hs : ∀ k, G k → G' k) : Rows3 w G' rs l :=
  ⟨h.len, fun i h1 h2 => by obtain ⟨a, b, c, d⟩ := h.each i h1 h2; exact ⟨a, b, c, d.mono hs⟩⟩

theorem Rows3.append {w : World} {G : Nat → Prop} {rs ss : List Hv} {l m : List Hz} (h : Rows3 w G rs l) (g : Rows3 w G ss m) : Rows3 w G (rs ++ ss) (l ++ m) := by
  have e1 := h.len
  have e2 := g.len
  refine ⟨by simp [e1, e2], fun i h1 h2 => ?_⟩
  simp only [List.length_append] at h1 h2
  rcases Nat.lt_or_ge i rs.length with hi | hi
  · rw [List.getElem_append_left hi, List.getElem_append_left (by omega)]
    exact h.each i hi _
  · rw [List.getElem_append_right hi, List.getElem_append_right (by omega)]
    simp only [e1]
    exact g.each _ _ _

theorem Rows3.single {w : World} {G : Nat → Prop} {h : Hz} {u : Value} (hn : Nums w .i32 u h.vec) (hl : LiesIn G u h.vec.length) : Rows3 w G [⟨h.id, h.dist, u⟩] [h] := by
  refine ⟨rfl, fun i h1 h2 => ?_⟩
  obtain rfl : i = 0 := by simp at h1; exact h1
  exact ⟨rfl, rfl, hn, hl⟩

theorem Rows3.take {w : World} {G : Nat → Prop} {rs : List Hv} {l : List Hz} (h : Rows3 w G rs l) (k : Nat) : Rows3 w G (rs.take k) (l.take k) := by
  refine ⟨by simp [h.len], fun i h1 h2 => ?_⟩
  rw [List.getElem_take, List.getElem_take]
  exact h.each i _ _

theorem Rows3.drop {w : World} {G : Nat → Prop} {rs : List Hv} {l : List Hz} (h : Rows3 w G rs l) (k : Nat) : Rows3 w G (rs.drop k) (l.drop k) := by
  refine ⟨by simp [h.len], fun i h1 h2 => ?_⟩
  rw [List.getElem_drop, List.getElem_drop]
  exact h.each _ _ _

/-- a slice of hits, and all that they reach, lies in F -/
def HitsF (w : World) (F : Nat → Prop) (v : Value) (l : List Hz) : Prop :=
  ∃ p cap, v = .slice p l.length cap ∧ l.length ≤ cap ∧ cap ≤ 9223372036854775807 ∧ (p = none → cap = 0) ∧
    ∀ i (hi : i < l.length), ∃ b off u, p = some ⟨b, off, none⟩ ∧ F b ∧ w.cell? ⟨b, off + i * 3, none⟩ = some (.int .u64 l[i].id) ∧ w.cell? ⟨b, off + i * 3 + 1, none⟩ = some (.int .u64 l[i].dist) ∧ w.cell? ⟨b, off + i * 3 + 1 + 1, none⟩ = some u ∧
      Nums w .i32 u l[i].vec ∧ LiesIn F u l[i].vec.length

theorem HitsF.nil (w : World) (F : Nat → Prop) : HitsF w F (.slice none 0 0) [] := ⟨none, 0, rfl, by simp, by simp, by simp, fun i hi => absurd hi (by simp)⟩

theorem HitsF.agree {w w' : World} {F : Nat → Prop} {v : Value} {l : List Hz} (h : HitsF w F v l) (ha : Agree F w w') : HitsF w' F v l := by
  obtain ⟨p, cap, hv, h1, h2, h3, h4⟩ := h
  refine ⟨p, cap, hv, h1, h2, h3, fun i hi => ?_⟩
  obtain ⟨b, off, u, hp, hf, c0, c1, c2, hn, hl⟩ := h4 i hi
  exact ⟨b, off, u, hp, hf, by rw [ha.cell hf]; exact c0, by rw [ha.cell hf]; exact c1, by rw [ha.cell hf]; exact c2, hn.agree hl ha, hl⟩

theorem HitsF.below {w w' : World} {F : Nat → Prop} {v : Value} {l : List Hz} (h : HitsF w F v l) (hb : Below w.heap.size w w') : HitsF w' F v l := by
  obtain ⟨p, cap, hv, h1, h2, h3, h4⟩ := h
  refine ⟨p, cap, hv, h1, h2, h3, fun i hi => ?_⟩
  obtain ⟨b, off, u, hp, hf, c0, c1, c2, hn, hl⟩ := h4 i hi
  exact ⟨b, off, u, hp, hf, below_cells hb c0, below_cells hb c1, below_cells hb c2, hn.below hb, hl⟩

theorem HitsF.mono {w : World} {F G : Nat → Prop} {v : Value} {l : List Hz} (h : HitsF w F v l) (hs : ∀ k, F k → G k) : HitsF w G v l := by
  obtain ⟨p, cap, hv, h1, h2, h3, h4⟩ := h
  refine ⟨p, cap, hv, h1, h2, h3, fun i hi => ?_⟩
  obtain ⟨b, off, u, hp, hf, c0, c1, c2, hn, hl⟩ := h4 i hi
  exact ⟨b, off, u, hp, hs _ hf, c0, c1, c2, hn, hl.mono hs⟩

/-- what is read, as a row: with the elements' cells -/
theorem HitsF.rows {w : World} {F : Nat → Prop} {p : Option Addr} {m c : Nat} {l : List Hz} (h : HitsF w F (.slice p m c) l) : ∃ rs, Rows3 w F rs l ∧ SrcAt w p rs.length c 3 (flat3 rs) ∧
    ∀ k (hk : k < l.length), ∃ (b off : Nat) (up : Option Addr) (uc : Nat) (hk' : k < rs.length), p = some ⟨b, off, none⟩ ∧ F b ∧ rs[k] = ⟨l[k].id, l[k].dist, .slice up l[k].vec.length uc⟩ ∧ w.cell? ⟨b, off + k * 3, none⟩ = some (.int .u64 l[k].id) ∧
      w.cell? ⟨b, off + k * 3 + 1, none⟩ = some (.int .u64 l[k].dist) ∧ w.cell? ⟨b, off + k * 3 + 1 + 1, none⟩ = some (.slice up l[k].vec.length uc) ∧ Nums w .i32 (.slice up l[k].vec.length uc) l[k].vec ∧ LiesIn F (.slice up l[k].vec.length uc) l[k].vec.length := by
  obtain ⟨p', cap, hv, h1, h2, h3, h4⟩ := h
  obtain ⟨rfl, rfl, rfl⟩ := Value.slice.inj hv
  have each : ∀ i, i < l.length → ∃ r : Hv, ∃ (hi : i < l.length) (b off : Nat), p = some ⟨b, off, none⟩ ∧ F b ∧ w.cell? ⟨b, off + i * 3, none⟩ = some (.int .u64 r.id) ∧ w.cell? ⟨b, off + i * 3 + 1, none⟩ = some (.int .u64 r.dist) ∧ w.cell? ⟨b, off + i * 3 + 1 + 1, none⟩ = some r.vec ∧
      r.id = l[i].id ∧ r.dist = l[i].dist ∧ Nums w .i32 r.vec l[i].vec ∧ LiesIn F r.vec l[i].vec.length := by
    intro i hi
    obtain ⟨b, off, u, hp, hf, c0, c1, c2, hn, hl⟩ := h4 i hi
    exact ⟨⟨l[i].id, l[i].dist, u⟩, hi, b, off, hp, hf, c0, c1, c2, rfl, rfl, hn, hl⟩
  obtain ⟨rs, hlen, hr⟩ := exists_list2 l.length each
  refine ⟨rs, ⟨hlen, fun i i1 i2 => ?_⟩, ⟨flat3_length rs, fun hp => ?_, fun a ha j u hj => ?_⟩, fun k hk => ?_⟩
  · obtain ⟨_, b, off, hp, _, c0, c1, c2, e, e', hn, hl⟩ := hr i i1
    exact ⟨e, e', hn, hl⟩
  · have := h3 hp; exact ⟨by omega, this⟩
  · have hjl : j < (flat3 rs).length := (List.getElem?_eq_some_iff.1 hj).1
    rw [flat3_length] at hjl
    obtain ⟨_, b, off, hp, _, c0, c1, c2, e, e', hn, hl⟩ := hr (j / 3) (by omega)
    rw [ha] at hp
    obtain rfl := Option.some.inj hp
    have hf := flat3_get rs (j / 3) (by omega)
    rw [Addr.add_lit]
    have hm : j % 3 = 0 ∨ j % 3 = 1 ∨ j % 3 = 2 := by omega
    rcases hm with hm | hm | hm
    · have e1 : j / 3 * 3 = j := by omega
      rw [e1] at hf c0
      rw [hf.1] at hj
      obtain rfl := Option.some.inj hj
      exact c0
    · have e1 : j / 3 * 3 + 1 = j := by omega
      rw [e1] at hf
      rw [Nat.add_assoc, e1] at c1
      rw [hf.2.1] at hj
      obtain rfl := Option.some.inj hj
      exact c1
    · have e1 : j / 3 * 3 + 1 + 1 = j := by omega
      rw [e1] at hf
      rw [Nat.add_assoc, Nat.add_assoc, show j / 3 * 3 + (1 + 1) = j by omega] at c2
      rw [hf.2.2] at hj
      obtain rfl := Option.some.inj hj
      exact c2
  · obtain ⟨_, b, off, hp, hf, c0, c1, c2, e, e', hn, hl⟩ := hr k (by omega)
    obtain ⟨up, uc, hu, _⟩ := hn.slice
    refine ⟨b, off, up, uc, by omega, hp, hf, ?_, by rw [← e]; exact c0, by rw [← e']; exact c1, by rw [← hu]; exact c2, by rw [← hu]; exact hn, by rw [← hu]; exact hl⟩
    have : rs[k] = ⟨rs[k].id, rs[k].dist, rs[k].vec⟩ := rfl
    rw [this, e, e', hu]

theorem HitsF.of_own {w : World} {F : Nat → Prop} {B e n : Nat} {v : Value} {rs : List Hv} {l : List Hz} (ho : w.ownsRow B e 3 v n (flat3 rs)) (hv : ∀ b, v.ownBlock = some b → F b) (hr : Rows3 w F rs l) : HitsF w F v l := by
  have hlen := hr.len
  obtain ⟨h1, h2⟩ := ho
  rw [flat3_length] at h1
  have hn : n = l.length := by omega
  subst hn
  rcases h2 with ⟨h2, h3⟩ | ⟨g, cap, cur, hvv, hb, hg, hn, hc, hs, ht⟩
  · have : l = [] := List.eq_nil_of_length_eq_zero h3
    subst this
    rw [h2]; exact HitsF.nil _ _
  · refine ⟨_, cap, hvv, hn, by simpa [maxLen] using hc, by simp, fun i hi => ?_⟩
    have hir : i < rs.length := by rw [hlen]; exact hi
    have hf := flat3_get rs i hir
    have ha := hr.each i hir hi
    have hcell : ∀ j u, (flat3 rs)[j]? = some u → w.cell? ⟨g, j, none⟩ = some u := by
      intro j u hj
      rw [← ht, List.getElem?_take] at hj
      split at hj
      · simp only [World.cell?, hg]; simpa using hj
      · cases hj
    refine ⟨g, 0, rs[i].vec, rfl, hv g (by rw [hvv]; rfl), ?_, ?_, ?_, ha.2.2.1, ha.2.2.2⟩
    · rw [Nat.zero_add, ← ha.1]; exact hcell _ _ hf.1
    · rw [Nat.zero_add, ← ha.2.1]; exact hcell _ _ hf.2.1
    · rw [Nat.zero_add]; exact hcell _ _ hf.2.2

end Go.Proofs.YtfmlhdikagogcaaDoor

namespace Go.Proofs.YtfmlhdikagogcaaDoor
open Go.ChangeShapes Go.WideShapes Go.ChangeAt Go.RowKit Go.Deep
set_option maxRecDepth 20000

def Hz.Fits (h : Hz) : Prop := 0 ≤ h.id ∧ h.id ≤ 18446744073709551615 ∧ 0 ≤ h.dist ∧ h.dist ≤ 18446744073709551615 ∧ ∀ x ∈ h.vec, -2147483648 ≤ x ∧ x ≤ 2147483647

section
variable {H : Type} {enc : TypeId × Value → H} {W : World}

theorem cells_three {a : Addr} {cs : List Value} (h : W.cells? 0 a 3 = some cs) : ∃ c0 c1 c2, cs = [c0, c1, c2] ∧ W.cell? (a.add 0) = some c0 ∧ W.cell? (a.add 1) = some c1 ∧ W.cell? (a.add 2) = some c2 := by
  unfold World.cells? at h
  simp only [Nat.zero_le, if_true, List.range_succ, List.range_zero, List.nil_append, List.cons_append, List.mapM_cons, List.mapM_nil] at h
  cases h0 : W.cell? (a.add 0) with
  | none => rw [h0] at h; simp at h
  | some c0 =>
    cases h1 : W.cell? (a.add 1) with
    | none => rw [h0, h1] at h; simp at h
    | some c1 =>
      cases h2 : W.cell? (a.add 2) with
      | none => rw [h0, h1, h2] at h; simp at h
      | some c2 =>
        rw [h0, h1, h2] at h
        simp at h
        exact ⟨c0, c1, c2, h.symm, rfl, rfl, rfl⟩

theorem hits_of_trod {t e e0 e1 e2 e4 : TypeId} {f0 f1 f2 : Field} {fuel : Nat} {cs : List Value} {x : DataW H × List MemPlace}
    (ht : Tryd.prog.underlying t = some (.slice e)) (he : Tryd.prog.underlying e = some (.struct #[f0, f1, f2])) (hce : Tryd.prog.cellsOf e = 3)
    (h0 : f0.type = e0 ∧ f0.offset = 0) (hu0 : Tryd.prog.underlying e0 = some (.int .u64)) (hc0 : Tryd.prog.cellsOf e0 = 1)
    (h1 : f1.type = e1 ∧ f1.offset = 1) (hu1 : Tryd.prog.underlying e1 = some (.int .u64)) (hc1 : Tryd.prog.cellsOf e1 = 1)
    (h2 : f2.type = e2 ∧ f2.offset = 2) (hu2 : Tryd.prog.underlying e2 = some (.slice e4)) (hc2 : Tryd.prog.cellsOf e2 = 1) (hu4 : Tryd.prog.underlying e4 = some (.int .i32)) (hc4 : Tryd.prog.cellsOf e4 = 1)
    (hf : DataW.trod enc Tryd.prog W 0 (fun _ => true) true fuel t cs = some x) :
    ∃ v l, cs = [v] ∧ HitsF W (fun _ => True) v l ∧ ∀ r ∈ l, r.Fits := by
  rcases open_slice ht hf with ⟨hcs, _⟩ | ⟨a, len, cap, m, n, D, Pl, hcs, _, hl, hm, hmm, _, hel⟩
  · exact ⟨_, [], hcs, ⟨none, 0, rfl, by simp, by simp, by simp, fun i hi => absurd hi (by simp)⟩, by simp⟩
  · simp only [if_true] at hmm
    subst hmm
    rw [hce] at hel
    have each : ∀ i, i < len → ∃ r : Hz, ∃ u, W.cell? (a.add (i * 3)) = some (.int .u64 r.id) ∧ W.cell? (a.add (i * 3 + 1)) = some (.int .u64 r.dist) ∧ W.cell? (a.add (i * 3 + 2)) = some u ∧ Nums W .i32 u r.vec ∧ r.Fits := by
      intro i hi
      obtain ⟨cs', hcs', htr⟩ := hel i (by omega)
      obtain ⟨c0, c1, c2, rfl, g0, g1, g2⟩ := cells_three hcs'
      obtain ⟨y0, y1, y2, n', _, _, t0, t1, t2⟩ := trod_struct3 he htr
      rw [h0.1, h0.2, hc0] at t0
      rw [h1.1, h1.2, hc1] at t1
      rw [h2.1, h2.2, hc2] at t2
      obtain ⟨z0, q0, _, w0⟩ := DataW.trod_int hu0 t0
      obtain ⟨z1, q1, _, w1⟩ := DataW.trod_int hu1 t1
      obtain ⟨u, xs, q2, hn, wx⟩ := nums_of_trod hu2 hu4 hc4 t2
      simp at q0 q1 q2
      subst q0 q1 q2
      rw [add_add] at g0 g1 g2
      simp [Lit.wf, IntKind.min, IntKind.max, IntKind.signed, IntKind.bits] at w0 w1 wx
      exact ⟨⟨z0, z1, xs⟩, c2, by simpa using g0, g1, g2, hn, w0.1, w0.2, w1.1, w1.2, wx⟩
    obtain ⟨l, hll, hp⟩ := exists_list len each
    refine ⟨_, l, hcs, ⟨some a, m, by rw [hll], by omega, by simpa [maxLen] using hm, by simp, fun i hi => ?_⟩, fun r hr => ?_⟩
    · obtain ⟨u, g0, g1, g2, hn, _⟩ := hp i hi
      have h00 := (hp 0 (by omega)).choose_spec.1
      obtain ⟨b, off, spot⟩ := a
      obtain rfl : spot = none := by
        simpa [Addr.add] using World.cell?_spot h00
      rw [Addr.add_lit] at g0 g1 g2
      exact ⟨b, off, u, rfl, trivial, g0, by rw [Nat.add_assoc]; exact g1, by rw [Nat.add_assoc, Nat.add_assoc]; exact g2, hn, fun _ _ _ => trivial⟩
    · obtain ⟨i, hi, rfl⟩ := List.mem_iff_getElem.1 hr
      exact (hp i hi).choose_spec.2.2.2.2

/-- an argument that is a slice of hits -/
theorem open_hits {base : Nat} {v : Value} {d : DataW H} {ps : List MemPlace}
    (hok : Value.okWide Tryd.prog W .any base 35 v) (h : DataW.Trod enc Tryd.prog W 0 (fun _ => true) true 35 v d ps) :
    ∃ l, HitsF W (fun _ => True) v l ∧ ∀ r ∈ l, r.Fits := by
  obtain ⟨a0, len, cap, rfl⟩ := okWide_slice Tryd.underlying35 hok
  obtain ⟨fuel, hf⟩ := h
  obtain ⟨v, l, hcs, hr⟩ := hits_of_trod Tryd.underlying35 Tryd.underlying40 (by kernel_rfl) ⟨rfl, rfl⟩ Tryd.underlying29 (by kernel_rfl) ⟨rfl, rfl⟩ Tryd.underlying29 (by kernel_rfl) ⟨rfl, rfl⟩ Tryd.underlying32 (by kernel_rfl) Tryd.underlying21 (by kernel_rfl) hf
  simp [Value.cells] at hcs
  subst hcs
  exact ⟨l, hr⟩

end

end Go.Proofs.YtfmlhdikagogcaaDoor
