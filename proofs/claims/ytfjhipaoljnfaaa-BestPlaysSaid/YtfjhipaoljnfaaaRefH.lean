/-
  best's law: BestMerges: the hits of one list get their vectors, and go to the document's list.
-/
import Derived.Test.YtfjhipaoljnfaaaRefG
namespace Go.Proofs.Ytfjhipaoljnfaaa
open Go.RowKit

def Inn (wo w : World) (v : Value) (k : Nat) : Prop := (wo.heap.size ≤ k ∧ k < w.heap.size) ∧ v.ownBlock ≠ some k

structure InnerS (wo w : World) (c : Nat) (v : Value) (rs : List Hv) (FX : Nat → Prop) (prev l : List Hz) (i j : Nat) : Prop where
  ow : w.ownsRow wo.heap.size 35 3 v l.length (flat3 rs)
  rw : Rows3 w (Inn wo w v) rs (mixZ l i)
  rl : RefL w (fun k => FX k ∨ Inn wo w v k) c 1048576 (addsZ 1048576 [] (prev ++ (l.take j).map detZ)).2
  md : Mod (fun k => k = c) wo w
  fx : ∀ k, FX k → k < wo.heap.size
  fc : c < wo.heap.size

theorem InnerS.start {wo w : World} {c : Nat} {v : Value} {rs : List Hv} {FX : Nat → Prop} {prev l : List Hz} (ho : w.ownsRow wo.heap.size 35 3 v rs.length (flat3 rs)) (hh : Held3 w wo.heap.size 21 rs l) (hb : Below wo.heap.size wo w)
    (hr : RefL wo FX c 1048576 (addsZ 1048576 [] prev).2) (hF : ∀ k, FX k → k < wo.heap.size) (hc : c < wo.heap.size) : InnerS wo w c v rs FX prev l 0 0 := by
  refine ⟨by rw [← hh.len]; exact ho, ?_, ?_, Mod.of_below hb, hF, hc⟩
  · rw [mixZ_zero]
    refine ⟨hh.len, fun i h1 h2 => ?_⟩
    obtain ⟨⟨a, b⟩, c⟩ := hh.own i h1 h2
    refine ⟨a, b, Nums.of_own c, fun _ k hk => ⟨c.lt k hk, fun e => ?_⟩⟩
    rcases own_apart c ho (by decide) with h | h
    · rw [h] at hk; cases hk
    · exact h (by rw [hk, e])
  · simp only [List.take_zero, List.map_nil, List.append_nil]
    exact (hr.below hb).mono fun _ => .inl

theorem InnerS.below {wo w w' : World} {c : Nat} {v : Value} {rs : List Hv} {FX : Nat → Prop} {prev l : List Hz} {i j : Nat} (m : InnerS wo w c v rs FX prev l i j) (hb : Below w.heap.size w w') : InnerS wo w' c v rs FX prev l i j := by
  have hs := hb.size
  have inn : ∀ k, Inn wo w v k → Inn wo w' v k := fun k hk => ⟨⟨hk.1.1, by have := hk.1.2; omega⟩, hk.2⟩
  exact ⟨own_below m.ow hb, (m.rw.below hb).mono inn, (m.rl.below hb).mono fun k hk => hk.imp_right (inn k), m.md.andBelow hb, m.fx, m.fc⟩

theorem InnerS.write {wo w : World} {c g cap : Nat} {rs : List Hv} {FX : Nat → Prop} {prev l : List Hz} {j : Nat} (m : InnerS wo w c (.slice (some ⟨g, 0, none⟩) l.length cap) rs FX prev l j j) (hj : j < l.length) :
    InnerS wo ((w.alloc (.cells #[.int .i32 (l[j].id % 7), .int .i32 (l[j].dist % 7)] 21)).setCell ⟨g, j * 3 + 1 + 1, none⟩ (.slice (some ⟨w.heap.size, 0, none⟩) 2 2)) c (.slice (some ⟨g, 0, none⟩) l.length cap) (rs.set j ⟨l[j].id, l[j].dist, .slice (some ⟨w.heap.size, 0, none⟩) 2 2⟩) FX prev l (j + 1) j := by
  have hml := mixZ_length l j
  have hlen := m.rw.len
  have hjr : j < rs.length := by omega
  obtain ⟨e1, e2, -⟩ := m.rw.each j hjr (by omega)
  rw [mixZ_at l j hj] at e1 e2
  have hgw := m.ow.lt g rfl
  have M := m.below ((Below.refl w.heap.size w).alloc (Nat.le_refl _) (.cells #[.int .i32 (l[j].id % 7), .int .i32 (l[j].dist % 7)] 21))
  have hsz : ((w.alloc (.cells #[.int .i32 (l[j].id % 7), .int .i32 (l[j].dist % 7)] 21)).setCell ⟨g, j * 3 + 1 + 1, none⟩ (.slice (some ⟨w.heap.size, 0, none⟩) 2 2)).heap.size = w.heap.size + 1 := by simp [World.setCell]
  have hsz1 : (w.alloc (.cells #[.int .i32 (l[j].id % 7), .int .i32 (l[j].dist % 7)] 21)).heap.size = w.heap.size + 1 := by simp
  have keep : ∀ k, k ≠ g → ((w.alloc (.cells #[.int .i32 (l[j].id % 7), .int .i32 (l[j].dist % 7)] 21)).setCell ⟨g, j * 3 + 1 + 1, none⟩ (.slice (some ⟨w.heap.size, 0, none⟩) 2 2)).heap[k]? = (w.alloc (.cells #[.int .i32 (l[j].id % 7), .int .i32 (l[j].dist % 7)] 21)).heap[k]? := fun k hk => Below.heap_setCell _ _ _ _ (fun e => hk (by rw [e]))
  have innE : ∀ k, Inn wo (w.alloc (.cells #[.int .i32 (l[j].id % 7), .int .i32 (l[j].dist % 7)] 21)) (.slice (some ⟨g, 0, none⟩) l.length cap) k → k ≠ g := fun k hk e => hk.2 (by rw [e]; rfl)
  refine ⟨?_, ?_, ?_, ?_, m.fx, m.fc⟩
  · have := own_setCell M.ow rfl (o := j * 3 + 1 + 1) (by omega) (.slice (some ⟨w.heap.size, 0, none⟩) 2 2)
    rw [flat3_setv rs j hjr, e1, e2] at this
    exact this
  · rw [mixZ_set l j hj]
    have := rows_set (w := w.alloc (.cells #[.int .i32 (l[j].id % 7), .int .i32 (l[j].dist % 7)] 21)) (w5 := (w.alloc (.cells #[.int .i32 (l[j].id % 7), .int .i32 (l[j].dist % 7)] 21)).setCell ⟨g, j * 3 + 1 + 1, none⟩ (.slice (some ⟨w.heap.size, 0, none⟩) 2 2)) (G5 := Inn wo ((w.alloc (.cells #[.int .i32 (l[j].id % 7), .int .i32 (l[j].dist % 7)] 21)).setCell ⟨g, j * 3 + 1 + 1, none⟩ (.slice (some ⟨w.heap.size, 0, none⟩) 2 2)) (.slice (some ⟨g, 0, none⟩) l.length cap)) (k := j) (g := w.heap.size) (x := l[j].id % 7) (y := l[j].dist % 7) M.rw (by omega) hjr (fun k hk => ⟨⟨hk.1.1, by rw [hsz]; have := hk.1.2; omega⟩, hk.2⟩) (fun k hk => keep k (innE k hk)) (by rw [keep _ (by omega)]; exact heap_alloc_new _ _) ⟨⟨by omega, by rw [hsz]; omega⟩, by simp only [Value.ownBlock, ne_eq, Option.some.injEq]; omega⟩
    rw [e1, e2, mixZ_at l j hj] at this
    exact this
  · refine (M.rl.agree (fun k hk => keep k ?_) (by rw [hsz, hsz1]; exact Nat.le_refl _)).mono fun k hk => hk.imp_right fun hk => ⟨⟨hk.1.1, by rw [hsz]; have := hk.1.2; omega⟩, hk.2⟩
    rcases hk with hk | hk
    · have := m.fx k hk; omega
    · exact innE k hk
  · exact M.md.setCell (.inr hgw.1) _

theorem InnerS.added {wo w w' : World} {c : Nat} {v : Value} {rs : List Hv} {FX : Nat → Prop} {prev l : List Hz} {i j : Nat} (m : InnerS wo w c v rs FX prev l i j) (hj : j < l.length) {b : Bool} {e : Ending}
    (h : RefAdd w (fun k => FX k ∨ Inn wo w v k) c 1048576 (b, (addsZ 1048576 [] (prev ++ (l.take (j + 1)).map detZ)).2) e w') : InnerS wo w' c v rs FX prev l i (j + 1) := by
  obtain ⟨-, h2, h3⟩ := h
  have hs := h3.size
  have hc := m.fc
  have inn : ∀ k, Inn wo w v k → Inn wo w' v k := fun k hk => ⟨⟨hk.1.1, by have := hk.1.2; omega⟩, hk.2⟩
  refine ⟨?_, ?_, h2.mono fun k hk => ?_, m.md.trans h3 fun k _ hk => hk, m.fx, hc⟩
  · obtain ⟨h0, h1 | ⟨g, cap, cur, rfl, hb, hh, r⟩⟩ := m.ow
    · exact ⟨h0, .inl h1⟩
    · exact ⟨h0, .inr ⟨g, cap, cur, rfl, hb, by rw [h3.block g (lt_block hh) (by omega)]; exact hh, r⟩⟩
  · exact (m.rw.agree fun k hk => h3.block k hk.1.2 (by have := hk.1.1; omega)).mono inn
  · rcases hk with (hk | hk) | hk
    · exact .inl hk
    · exact .inr (inn k hk)
    · refine .inr ⟨⟨by have := m.md.size; omega, hk.2⟩, fun e => ?_⟩
      have := (m.ow.lt k e).2
      omega

theorem InnerS.fhi {wo w : World} {c : Nat} {v : Value} {rs : List Hv} {FX : Nat → Prop} {prev l : List Hz} {i j : Nat} (m : InnerS wo w c v rs FX prev l i j) : ∀ k, (FX k ∨ Inn wo w v k) → k < w.heap.size := by
  rintro k (h | h)
  · exact Nat.lt_of_lt_of_le (m.fx k h) m.md.size
  · exact h.1.2

theorem InnerS.good {wo w : World} {c : Nat} {v : Value} {rs : List Hv} {FX : Nat → Prop} {prev l : List Hz} {i j : Nat} (_ : InnerS wo w c v rs FX prev l i j) (hv : ∀ h ∈ prev, h.vec.length ≤ 1000000) (hl : prev.length + l.length ≤ 1000000) :
    GoodL 1048576 (addsZ 1048576 [] (prev ++ (l.take j).map detZ)).2 ∧ (addsZ 1048576 [] (prev ++ (l.take j).map detZ)).2.length ≤ 1000000 := by
  refine ⟨addsZ_good (by omega) (GoodL.nil _) _ fun h hh => ?_, ?_⟩
  · rcases List.mem_append.1 hh with h1 | h1
    · exact hv h h1
    · exact det_vec h h1
  · have := adds_len 1048576 (prev ++ (l.take j).map detZ)
    rw [List.length_append, List.length_map, List.length_take] at this
    omega

theorem mixZ_done (l : List Hz) (j : Nat) (hj : j < l.length) : (mixZ l (j + 1))[j]'(by rw [mixZ_length]; exact hj) = detZ l[j] := by simp [mixZ]

theorem own_cell {w : World} {base e size n g i : Nat} {v u : Value} {xs : List Value} (h : w.ownsRow base e size v n xs) (hg : v.ownBlock = some g) (hx : xs[i]? = some u) : w.cell? ⟨g, i, none⟩ = some u := by
  have := own_rangeAt h hg i [u] (fun j z hj => by
    have : j = 0 := by
      have := (List.getElem?_eq_some_iff.1 hj).1
      simp at this; omega
    subst this
    simp at hj; subst hj; exact hx) 0 u rfl
  simpa using this

theorem own_slice {w : World} {base e size n : Nat} {v : Value} {xs : List Value} (h : w.ownsRow base e size v n xs) : ∃ q c, v = .slice q n c := by
  rcases h.2 with ⟨rfl, rfl⟩ | ⟨g, cap, cur, hv, _⟩
  · exact ⟨_, _, rfl⟩
  · exact ⟨_, _, hv⟩

theorem wrap7 {x : Int} (h : 0 ≤ x) : IntKind.i32.wrap (x.tmod 7) = x % 7 := by
  rw [Int.tmod_eq_emod_of_nonneg h]
  simp only [IntKind.wrap, IntKind.signed, IntKind.bits]
  simp
  omega

theorem det_snoc (prev l : List Hz) (j : Nat) (hj : j < l.length) : (addsZ 1048576 [] (prev ++ (l.take (j + 1)).map detZ)).2 = (addZ 1048576 (addsZ 1048576 [] (prev ++ (l.take j).map detZ)).2 (detZ l[j])).2 := by
  rw [take_snoc l j hj, List.map_append, ← List.append_assoc]
  simp only [List.map_cons, List.map_nil]
  rw [addsZ_snoc]

end Go.Proofs.Ytfjhipaoljnfaaa
