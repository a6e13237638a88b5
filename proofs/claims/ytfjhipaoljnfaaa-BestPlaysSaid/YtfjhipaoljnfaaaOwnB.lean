/-
  Appends to a row of the call's own, as run equations: of a slice that is read, of an element that lies in a block of its own.
-/
import Derived.Test.YtfjhipaoljnfaaaRecs
import Derived.Laws.OwnMore
import Derived.Maps.AppendAt
namespace Go.Proofs.Ytfjhipaoljnfaaa
open Go.RowKit

/-- the cells of a slice that is read -/
structure SrcAt (w : World) (p : Option Addr) (m c size : Nat) (news : List Value) : Prop where
  len : news.length = m * size
  nil : p = none → m = 0 ∧ c = 0
  cells : ∀ a, p = some a → ∀ j u, news[j]? = some u → w.cell? (a.add j) = some u

theorem SrcAt.agree {w w' : World} {p : Option Addr} {m c size : Nat} {news : List Value} (h : SrcAt w p m c size news) (hk : ∀ (a : Addr) (u : Value), w.cell? a = some u → w'.cell? a = some u) : SrcAt w' p m c size news :=
  ⟨h.len, h.nil, fun a ha j u hj => hk _ _ (h.cells a ha j u hj)⟩

theorem SrcAt.below {w w' : World} {p : Option Addr} {m c size : Nat} {news : List Value} (h : SrcAt w p m c size news) (hb : Below w.heap.size w w') : SrcAt w' p m c size news :=
  h.agree fun _ _ => below_cells hb

theorem SrcAt.of_own {w : World} {base e size n m c : Nat} {p : Option Addr} {xs : List Value} (h : w.ownsRow base e size (.slice p m c) n xs) : SrcAt w p n c size xs := by
  obtain ⟨h1, ⟨h2, h3⟩ | ⟨g, cap, cur, hv, hb, hg, hn, hc, hs, ht⟩⟩ := h
  · obtain ⟨rfl, rfl, rfl⟩ := Value.slice.inj h2
    exact ⟨h1, fun _ => ⟨h3, rfl⟩, fun a ha => by cases ha⟩
  · obtain ⟨rfl, rfl, rfl⟩ := Value.slice.inj hv
    refine ⟨h1, (by simp), fun a ha j u hj => ?_⟩
    obtain rfl := Option.some.inj ha
    rw [← ht, List.getElem?_take] at hj
    split at hj
    · rw [Addr.add_lit, Nat.zero_add]
      simp only [World.cell?, hg]; simpa using hj
    · cases hj

theorem SrcAt.of_nums {w : World} {k : IntKind} {p : Option Addr} {m c : Nat} {xs : List Int} (h : Nums w k (.slice p m c) xs) : SrcAt w p xs.length c 1 (xs.map (Value.int k)) := by
  obtain ⟨p', cap, hv, h1, h2, h3, h4⟩ := h.slice
  obtain ⟨rfl, rfl, rfl⟩ := Value.slice.inj hv
  refine ⟨by simp, fun hp => ?_, fun a ha j u hj => ?_⟩
  · have := h3 hp; exact ⟨by omega, this⟩
  · rw [List.getElem?_map, Option.map_eq_some_iff] at hj
    obtain ⟨x, hx, rfl⟩ := hj
    obtain ⟨hj', rfl⟩ := List.getElem?_eq_some_iff.1 hx
    obtain ⟨b, off, hp, hc⟩ := h4 j hj'
    rw [ha] at hp
    obtain rfl := Option.some.inj hp
    rw [Addr.add_lit]
    exact hc

section
variable {P : Program}

theorem run_app {t e size bytes : Nat} {z : Value} (R : RowTy P t e size bytes z) {w : World} {base : Nat} {v : Value} {n : Nat} {xs : List Value} (hown : w.ownsRow base e size v n xs) (hbase : base ≤ w.heap.size)
    {p : Option Addr} {m c : Nat} {news : List Value} (hs : SrcAt w p m c size news) (h1 : ∀ u ∈ news, u.oneCell' = true) (h63 : n + m ≤ maxLen) (hbytes : (n + m) * bytes ≤ 140737488355328) :
    ∃ q k c' w', (∀ ty, (Builtin.append_ #[t, t] ty #[v, .slice p m c]).run P w = .ok (.slice q k c') w') ∧ w'.ownsRow base e size (.slice q k c') (n + m) (xs ++ news) ∧ w.grownBy w' v.ownBlock ∧
      ((Value.slice q k c').ownBlock = v.ownBlock ∨ (Value.slice q k c').ownBlock = some w.heap.size) := by
  obtain ⟨i, hi, hz, hsz, hb⟩ := info_parts R.info
  cases p with
  | none =>
    obtain ⟨rfl, rfl⟩ := hs.nil rfl
    have hn : news = [] := List.eq_nil_of_length_eq_zero (by rw [hs.len]; simp)
    subst hn
    obtain ⟨q, k, c', rfl⟩ := own_form hown
    exact ⟨q, k, c', w, fun ty => run_append_owned_none w base t ty e i size R.ty hi _ n xs hown, by simpa using hown, World.grownBy.refl w _, .inl rfl⟩
  | some a =>
    obtain ⟨v', w', hr, h2, h3, _, h5⟩ := run_append_own_at (P := P) w base t 0 e i z size bytes R.ty hi hz hsz hb R.zs R.pos v n xs hown a m c news hs.len (hs.cells a rfl) h1 h63 hbytes hbase
    obtain ⟨q, k, c', rfl⟩ := own_form h2
    exact ⟨q, k, c', w', fun ty => hr, h2, h3, h5⟩

/-- the element's cells lie in block g0 -/
theorem run_push_at {t e size bytes : Nat} {z : Value} (R : RowTy P t e size bytes z) {w : World} {base : Nat} {v : Value} {n : Nat} {xs : List Value} (hown : w.ownsRow base e size v n xs) (hbase : base ≤ w.heap.size)
    {g0 : Nat} {cs : Array Value} {te : TypeId} {fr : Nat × Nat} (hg : w.heap[g0]? = some (.cells cs te fr)) (hcs : cs.size = size) (h1 : ∀ u ∈ cs.toList, u.oneCell' = true) (h63 : n + 1 ≤ maxLen) (hbytes : (n + 1) * bytes ≤ 140737488355328) :
    ∃ g cap w', (∀ ty, (Builtin.append_ #[t, t] ty #[v, .slice (some ⟨g0, 0, none⟩) 1 1]).run P w = .ok (.slice (some ⟨g, 0, none⟩) (n + 1) cap) w') ∧
      w'.ownsRow base e size (.slice (some ⟨g, 0, none⟩) (n + 1) cap) (n + 1) (xs ++ cs.toList) ∧ w.grownBy w' v.ownBlock ∧ (v.ownBlock = some g ∨ g = w.heap.size) ∧ g < w'.heap.size := by
  obtain ⟨i, hi, hz, hs, hb⟩ := info_parts R.info
  obtain ⟨g, cap, w', hr, h2, h3, h4, h5⟩ := run_append_lies (P := P) w t 0 base e i z size bytes R.ty hi hz hs hb R.zs R.pos v n xs hown ⟨g0, 0, none⟩ 1 1 cs.toList (by simp [hcs])
    (World.news_of_block (cs := cs) (t := te) (fr := fr) hg) h1 (by omega) h63 hbytes hbase w.heap.size rfl
  exact ⟨g, cap, w', fun ty => hr, h2, h3, h4, h5⟩

end

theorem own_empty (w : World) (base e size : Nat) (hb : base ≤ w.heap.size) : (w.alloc (.cells #[] e)).ownsRow base e size (.slice (some ⟨w.heap.size, 0, none⟩) 0 0) 0 [] :=
  ⟨by simp, .inr ⟨_, _, #[], rfl, hb, heap_alloc_new _ _, Nat.le_refl _, by simp [maxLen], by simp, by simp⟩⟩

theorem exists_list2 {α : Type} (n : Nat) {p : Nat → α → Prop} (h : ∀ i, i < n → ∃ x, p i x) : ∃ l : List α, l.length = n ∧ ∀ i (hi : i < l.length), p i l[i] := by
  induction n with
  | zero => exact ⟨[], rfl, fun i hi => absurd hi (by simp)⟩
  | succ n ih =>
    obtain ⟨l, hl, hp⟩ := ih fun i hi => h i (by omega)
    obtain ⟨x, hx⟩ := h n (by omega)
    refine ⟨l ++ [x], by simp [hl], fun i hi => ?_⟩
    simp only [List.length_append, List.length_cons, List.length_nil] at hi
    rcases Nat.lt_or_ge i l.length with h1 | h1
    · rw [List.getElem_append_left h1]; exact hp i h1
    · have e : i = n := by omega
      subst e
      rw [List.getElem_append_right (by omega)]
      simp [hl, hx]

end Go.Proofs.Ytfjhipaoljnfaaa
