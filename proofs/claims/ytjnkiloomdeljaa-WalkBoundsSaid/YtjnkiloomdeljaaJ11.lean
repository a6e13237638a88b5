/-
  A row of the call's own that is cut from in front: to read it, to cut it, one element more at its end.
  walk: what the best and the todo list become.
  The document's Hits: the first n, each vector cut.
-/
import Derived.Test.YtjnkiloomdeljaaJ01
import Derived.Test.YtjnkiloomdeljaaJ02
import Derived.Deep.AppendSrc
import Derived.Test.YtjnkiloomdeljaaJ10
namespace Go.Proofs.Ytjnkiloomdeljaa
open Go.RowKit

/-- the slice's elements are xs; they lie in block g, the call's own, from off on -/
structure Queue (w : World) (B e g off cap : Nat) (xs : List Value) : Prop where
  own : B ≤ g
  blk : ∃ cur, w.heap[g]? = some (.cells cur e (0, 0)) ∧ off + cap ≤ cur.size ∧ ∀ j u, xs[j]? = some u → cur[off + j]? = some u
  le : xs.length ≤ cap
  max : cap ≤ maxLen

theorem Queue.lt {w : World} {B e g off cap : Nat} {xs : List Value} (h : Queue w B e g off cap xs) : g < w.heap.size := by
  obtain ⟨cur, h1, -⟩ := h.blk
  exact lt_block h1

theorem Queue.kept {w w' : World} {B e g off cap : Nat} {xs : List Value} (h : Queue w B e g off cap xs) (hb : w'.heap[g]? = w.heap[g]?) : Queue w' B e g off cap xs := by
  obtain ⟨cur, h1, h2⟩ := h.blk
  exact ⟨h.own, ⟨cur, hb.trans h1, h2⟩, h.le, h.max⟩

theorem Queue.cell {w : World} {B e g off cap : Nat} {xs : List Value} (h : Queue w B e g off cap xs) {j : Nat} {u : Value} (hj : xs[j]? = some u) : w.cell? ⟨g, off + j, none⟩ = some u := by
  obtain ⟨cur, h1, h2, h3⟩ := h.blk
  simp only [World.cell?, h1]
  exact h3 j u hj

theorem Queue.one {w : World} {B e g : Nat} {u : Value} (hB : B ≤ g) (h : w.heap[g]? = some (.cells #[u] e (0, 0))) : Queue w B e g 0 1 [u] :=
  ⟨hB, ⟨_, h, by simp, fun j v hj => by cases j with | zero => simpa using hj | succ j => simp at hj⟩, by simp, by simp [maxLen]⟩

theorem Queue.tail {w : World} {B e g off cap : Nat} {x : Value} {xs : List Value} (h : Queue w B e g off cap (x :: xs)) : Queue w B e g (off + 1) (cap - 1) xs := by
  obtain ⟨cur, h1, h2, h3⟩ := h.blk
  have hl := h.le
  have hm := h.max
  simp only [List.length_cons] at hl
  refine ⟨h.own, ⟨cur, h1, by omega, fun j u hj => ?_⟩, by omega, by omega⟩
  have := h3 (j + 1) u (by simpa using hj)
  rwa [show off + (j + 1) = off + 1 + j by omega] at this

theorem Queue.none {w : World} {B e g off cap : Nat} {xs : List Value} (h : Queue w B e g off cap xs) : Queue w B e g off 0 [] := by
  obtain ⟨cur, h1, h2, h3⟩ := h.blk
  exact ⟨h.own, ⟨cur, h1, by omega, fun j u hj => by simp at hj⟩, by simp, by simp⟩

theorem own_agree {w w' : World} {B e s n : Nat} {v : Value} {xs : List Value} (h : w.ownsRow B e s v n xs) (ha : ∀ k, v.ownBlock = some k → w'.heap[k]? = w.heap[k]?) : w'.ownsRow B e s v n xs := by
  obtain ⟨h1, ⟨h2, h3⟩ | ⟨g, cap, cur, hv, hb, hg, hn, hc, hs, ht⟩⟩ := h
  · exact ⟨h1, .inl ⟨h2, h3⟩⟩
  · exact ⟨h1, .inr ⟨g, cap, cur, hv, hb, by rw [ha g (by rw [hv]; rfl)]; exact hg, hn, hc, hs, ht⟩⟩

theorem own_len {w : World} {B e size n m cap : Nat} {p : Option Addr} {xs : List Value} (h : w.ownsRow B e size (.slice p m cap) n xs) : m = n := by
  rcases h.2 with ⟨he, h0⟩ | ⟨g, c, cur, he, -⟩
  · cases he; exact h0.symm
  · cases he; rfl

theorem own_short {w : World} {B e s n : Nat} {v : Value} {xs : List Value} (h : w.ownsRow B e s v n xs) : n ≤ 9223372036854775807 := by
  rcases h.2 with ⟨-, h0⟩ | ⟨g, c, cur, -, -, -, h1, h2, -⟩
  · omega
  · simp only [maxLen] at h2; omega

section
variable {P : Program}

theorem run_queue {t e bytes : Nat} {z : Value} (R : RowTy P t e 1 bytes z) {w : World} {B g off cap : Nat} {xs : List Value} (hq : Queue w B e g off cap xs)
    {g0 : Nat} {u : Value} {te : TypeId} {fr : Nat × Nat} (hg : w.heap[g0]? = some (.cells #[u] te fr)) (h1 : u.oneCell' = true) (h63 : xs.length + 1 ≤ 1000000) (hby : bytes ≤ 1000) (hBw : B ≤ w.heap.size) :
    ∃ g' off' cap' w', (∀ ty, (Builtin.append_ #[t, t] ty #[.slice (some ⟨g, off, none⟩) xs.length cap, .slice (some ⟨g0, 0, none⟩) 1 1]).run P w = .ok (.slice (some ⟨g', off', none⟩) (xs.length + 1) cap') w') ∧
      Queue w' B e g' off' cap' (xs ++ [u]) ∧ w.grownBy w' (some g) ∧ (g' = g ∨ g' = w.heap.size) := by
  obtain ⟨i, hi, hz, hs, hb⟩ := info_parts R.info
  obtain ⟨cur, c1, c2, c3⟩ := hq.blk
  have hle := hq.le
  have hmax := hq.max
  have hsrc : Src P i.size t (.slice (some ⟨g0, 0, none⟩) 1 1) 1 [u] w := Src.ofSlice w R.ty ⟨g0, 0, none⟩ 1 1 [u] (by simp [hs]) (by
    have := World.news_of_block (cs := #[u]) (t := te) (fr := fr) hg
    simpa using this) (by simpa using h1)
  by_cases hroom : xs.length + 1 ≤ cap
  · have hr := fun ty => run_append_room_src (P := P) w t t ty e i R.ty hi g off xs.length cap (.slice (some ⟨g0, 0, none⟩) 1 1) 1 [u] hsrc hroom
      (fun j hj => by
        simp only [List.length_cons, List.length_nil] at hj
        obtain rfl : j = 0 := by omega
        simp only [World.cell?, c1, hs]
        rw [Array.getElem?_eq_getElem (by omega)]; rfl)
      (fun j hj => by simp [World.frozen?, c1])
    refine ⟨g, off, cap, _, hr, ⟨hq.own, ⟨cur.setIfInBounds (off + xs.length * i.size) u, ?_, by simpa using c2, fun j v hj => ?_⟩, by simpa using hroom, hmax⟩, grownBy_setCells g [u] _ w, .inl rfl⟩
    · simp [World.setCells, World.setCell, Array.getElem?_modify, c1]
    · rw [hs, Nat.mul_one, Array.getElem?_setIfInBounds]
      rcases Nat.lt_or_ge j xs.length with hj1 | hj1
      · rw [if_neg (by omega)]
        rw [List.getElem?_append_left hj1] at hj
        exact c3 j v hj
      · have hj2 : j < (xs ++ [u]).length := (List.getElem?_eq_some_iff.1 hj).1
        simp only [List.length_append, List.length_cons, List.length_nil] at hj2
        obtain rfl : j = xs.length := by omega
        rw [if_pos rfl, if_pos (by omega)]
        rw [List.getElem?_append_right (by omega)] at hj
        simpa using hj
  · have hcells : ∀ j v, xs[j]? = some v → w.cell? ((⟨g, off, none⟩ : Addr).add j) = some v := fun j v hj => by rw [Addr.add_lit]; exact hq.cell hj
    have hold : (Builtin.firstCells i.size xs.length (.slice (some ⟨g, off, none⟩) xs.length cap)).run P w.drew = .ok xs.toArray w.drew :=
      run_firstCells_some w.drew i.size xs.length _ _ _ xs (by simp [hs]) (by simpa using hcells)
    have hfit : Builtin.nextslicecap (xs.length + 1) cap * i.bytes ≤ 281474976710656 := growslice_fits (by omega) (by
      rw [hb]
      calc (xs.length + 1) * bytes ≤ 1000000 * 1000 := Nat.mul_le_mul h63 hby
        _ ≤ _ := by omega)
    have hr := fun ty => run_append_grow_src (P := P) w t t ty e i z R.ty hi hz (some ⟨g, off, none⟩) xs.length cap xs hold (.slice (some ⟨g0, 0, none⟩) 1 1) 1 [u] hsrc (by omega) (by omega) hfit
    have hge := grownCap_ge w (xs.length + 1) cap e
    have hcm : grownCap w (xs.length + 1) cap e ≤ maxLen := grownCap_le_maxLen w (xs.length + 1) cap e (by simp [maxLen]; omega)
    refine ⟨w.heap.size, 0, _, _, hr, ⟨hBw, ⟨_, heap_alloc_new w.drew _, ?_, fun j v hj => ?_⟩, by simpa using hge, hcm⟩, ⟨rfl, rfl, rfl, by simp, fun k hk _ => heap_alloc_old w.drew _ hk⟩, .inr rfl⟩
    · have hzs := R.zs
      simp only [Array.size_append, List.size_toArray, List.length_append, List.length_cons, List.length_nil, size_zeroCells, hzs]
      omega
    · rw [Nat.zero_add]
      have hj2 : j < (xs ++ [u]).length := (List.getElem?_eq_some_iff.1 hj).1
      rw [Array.getElem?_append_left (by simpa using hj2)]
      simpa using hj
end

end Go.Proofs.Ytjnkiloomdeljaa

namespace Go.Proofs.Ytjnkiloomdeljaa
open Go.RowKit Go.ChangeMaps

theorem bare_rows {w : World} {G : Nat → Prop} : ∀ {T : List Hz}, (∀ h ∈ T, h.vec = []) → Rows3 w G (T.map bareV) T := by
  intro T hT
  refine ⟨by simp, fun i h1 h2 => ?_⟩
  simp only [List.getElem_map, bareV]
  have e := hT _ (List.getElem_mem h2)
  rw [e]
  exact ⟨trivial, trivial, Nums.mk (xs := []) (by simp) (by simp) (by simp) (by simp), fun h => absurd h (by simp)⟩

theorem bare_insD (T : List Hz) (h : Hz) : (insD T h).map bareV = (T.map bareV).take (rankD T h) ++ bareV h :: (T.map bareV).drop (rankD T h) := by
  simp [insD, List.map_take, List.map_drop]

theorem setBk_other {w : World} {b k : Nat} {j : Nat} {v : Value} (h : k ≠ b) : (w.setCell ⟨b, j, none⟩ v).heap[k]? = w.heap[k]? := by
  simp [World.setCell, Array.getElem?_modify, Ne.symm h]

section
variable {w0 w : World} {sp : Value} {p ms c : Nat} {F : Nat → Prop} {kv : Value} {ks : List Int} {most : Nat} {tv : Value} {s : Ws}

theorem WkAt.hits (h : WkAt w0 w sp p ms c F kv ks most tv s) (hb : ∀ x ∈ s.T, x.vec = []) : HitsF w (fun k => tv.ownBlock = some k) tv s.T :=
  HitsF.of_own h.todo (fun b hb => hb) (bare_rows hb)

/-- one more among the best -/
theorem WkAt.added (h : WkAt w0 w sp p ms c F kv ks most tv s) (hm : 1 ≤ most ∧ most ≤ 1000) (g : GoodL most s.L) (k d : Int) (W1 : World) (hW1 : W1 = w.alloc (.cells #[.int .u64 k, .int .u64 d, .slice none 0 0] 43)) :
    Calls Try.prog 44 #[.pointer (some ⟨c, 0, none⟩), .slice (some ⟨w.heap.size, 0, none⟩) 1 1] W1 fun e w' => ∃ (z : Int) (F' : Nat → Prop), e = .returned (.int .i64 z) ∧ WkAt w0 w' sp p ms c F' kv ks most tv ⟨(addZ most s.L (hitK k d)).2, s.S, s.T⟩ ∧ Mod F w w' := by
  have hb1 : Below w.heap.size w W1 := by rw [hW1]; exact (Below.refl _ w).alloc (Nat.le_refl _) _
  have h1 := h.below hb1
  have hs1 : W1.heap.size = w.heap.size + 1 := by rw [hW1]; simp
  have hv : HitsF W1 (fun j => j = w.heap.size) (.slice (some ⟨w.heap.size, 0, none⟩) 1 1) [hitK k d] := by
    have hh : W1.heap[w.heap.size]? = some (.cells #[.int .u64 k, .int .u64 d, .slice none 0 0] 43 (0, 0)) := by rw [hW1]; exact heap_alloc_new _ _
    refine ⟨some ⟨w.heap.size, 0, none⟩, 1, rfl, by simp, by simp, by simp, fun i hi => ?_⟩
    obtain rfl : i = 0 := by simpa using hi
    refine ⟨w.heap.size, 0, .slice none 0 0, rfl, rfl, ?_, ?_, ?_, Nums.mk (xs := []) (by simp) (by simp) (by simp) (by simp), fun hn => absurd hn (by simp [hitK])⟩
    · exact cellsB hh 0
    · exact cellsB hh 1
    · exact cellsB hh 2
  refine (adds w0.heap.size c F (fun j => j = w.heap.size) most s.L [hitK k d] _ W1 hm.1 (by omega) h1.best (fun j hj => (h1.fhi j hj).2) (Nat.le_trans h1.old.size (Nat.le_refl _)) g hv (fun j hj => ⟨by omega, fun hF => by have := (h.fhi j hF).2; omega⟩) (by simp [hitK]) (by simp)).mono ?_
  rintro e w' ⟨rfl, hl, hmod⟩
  have hA : (addsZ most s.L [hitK k d]).2 = (addZ most s.L (hitK k d)).2 := by simp [addsZ]
  rw [hA] at hl
  have hsz := hmod.size
  have hmw : Mod F w w' := (Mod.of_below (F := F) hb1).trans hmod fun j _ e => e
  refine ⟨_, Plus F W1 w', rfl, h.turn (hmw.mono fun j _ e => .inl e) ((hmw.block p h.plt h.fp).trans h.cell) (h.seen.kept (hmw.block ms h.seen.lt h.fms)) hl (own_agree h.todo fun j hj => hmw.block j (h.todo.lt j hj).2 (h.ft j hj)) (fun j hj => ?_) (.inl rfl), hmw⟩
  rcases hj with hj | hj
  · exact .inl hj
  · exact .inr ⟨by omega, hj.2⟩

/-- one more to be gone to -/
theorem WkAt.inserted (h : WkAt w0 w sp p ms c F kv ks most tv s) (k d : Int) (hT : s.T.length ≤ 100000) (W1 : World) (hW1 : W1 = w.alloc (.cells #[.int .u64 k, .int .u64 d, .slice none 0 0] 43)) :
    Calls Try.prog 47 #[tv, .int .i64 (rankD s.T (hitK k d)), .slice (some ⟨w.heap.size, 0, none⟩) 1 1] W1 fun e w' => ∃ (q : Option Addr) (n c' : Nat), e = .returned (.slice q n c') ∧
      WkAt w0 (w'.setCell ⟨p, 3, none⟩ (.slice q n c')) sp p ms c F kv ks most (.slice q n c') ⟨s.L, s.S, insD s.T (hitK k d)⟩ ∧ (∀ i (hi : i < 3), w'.cell? ⟨p, i, none⟩ = w.cell? ⟨p, i, none⟩) ∧ w'.cell? ⟨p, 3, none⟩ = some tv ∧ w'.frozen? ⟨p, 3, none⟩ = false ∧ ∀ j, j < w.heap.size → tv.ownBlock ≠ some j → w'.heap[j]? = w.heap[j]? := by
  have hb1 : Below w.heap.size w W1 := by rw [hW1]; exact (Below.refl _ w).alloc (Nat.le_refl _) _
  have h1 := h.below hb1
  have hs1 : W1.heap.size = w.heap.size + 1 := by rw [hW1]; simp
  have hh : W1.heap[w.heap.size]? = some (.cells #[.int .u64 k, .int .u64 d, .slice none 0 0] 43 (0, 0)) := by rw [hW1]; exact heap_alloc_new _ _
  obtain ⟨tp, tn, tc, rfl⟩ := own_form h.todo
  obtain rfl : tn = s.T.length := own_len h.todo
  refine (insert w0.heap.size tp s.T.length tc (rankD s.T (hitK k d)) (s.T.map bareV) (bareV (hitK k d)) w.heap.size W1 h1.todo (by simp) (rankD_le _ _) h1.old.size (by omega) (by rfl) (fun x hx => by obtain ⟨y, -, rfl⟩ := List.mem_map.1 hx; rfl) hh (fun e => by have := (h.todo.lt _ e).2; omega)).mono ?_
  rintro e w' ⟨q, n, c', rfl, ho, hmod, hown⟩
  rw [← bare_insD] at ho
  obtain rfl : n = s.T.length + 1 := own_len ho
  have hsz := hmod.size
  obtain ⟨e1, e2, e3⟩ := h1.self
  have hmw : Mod (WkF p ms F (.slice tp s.T.length tc)) w w' := (Mod.of_below hb1).trans (hmod.mono fun j _ e => .inr (.inr (.inr e))) fun j _ e => e
  have hcell : w'.heap[p]? = some (.cells #[sp, .pointer (some ⟨c, 0, none⟩), .map (some ms), .slice tp s.T.length tc] 74 (0, 0)) := (hmod.block p h1.plt e2).trans h1.cell
  have hset := setBk hcell 3 (.slice q (s.T.length + 1) c')
  have hkF : ∀ j, j < W1.heap.size → F j → w'.heap[j]? = W1.heap[j]? := fun j hj hF => hmod.block j hj fun e => h1.ft j e hF
  have hpt : (Value.slice q (s.T.length + 1) c').ownBlock ≠ some p := by
    rcases hown with e | e
    · rw [e]; exact e2
    · intro e4
      have := e p e4
      have := h1.plt
      omega
  refine ⟨q, s.T.length + 1, c', rfl, h.turn (hmw.setCell (p := ⟨p, 3, none⟩) (.inl (.inr (.inl rfl))) _) (by simpa using hset) ?_ ?_ ?_ (fun j hj => .inl hj) ?_, fun i hi => ?_, cellsB hcell 3, ?_, fun j hj hne => (hmod.block j (by omega) hne).trans (hb1.block j hj)⟩
  · exact (h1.seen.kept (hmod.block ms h1.seen.lt e3)).kept (setBk_other (Ne.symm e1))
  · exact (h1.best.agree (fun j hj => hkF j (h1.fhi j hj).2 hj) hmod.size).agree (fun j hj => setBk_other (by rintro rfl; exact h.fp hj)) (by simp [World.setCell])
  · rw [insD_length]
    exact own_agree ho fun j hj => setBk_other (by rintro rfl; exact hpt hj)
  · rcases hown with e | e
    · exact .inl e
    · exact .inr fun b hb => ⟨by have := e b hb; omega, fun hF => by have h5 := e b hb; have h6 := (h1.fhi b hF).2; omega⟩
  · rw [cellsB hcell i, cellsB h.cell i]
  · simp [World.frozen?, hcell]
end

end Go.Proofs.Ytjnkiloomdeljaa

namespace Go.Proofs.Ytjnkiloomdeljaa
open Go.RowKit

/-- the first n of them, each vector cut at 8 -/
def hitsZ (n : Nat) (l : List Hz) : List Hz := (l.take n).map fun h => ⟨h.id, h.dist, h.vec.take 8⟩

theorem hitsZ_snoc (n : Nat) (l : List Hz) (k : Nat) (hk : k < l.length) (hn : k < n) : hitsZ n (l.take (k + 1)) = hitsZ n (l.take k) ++ [⟨l[k].id, l[k].dist, l[k].vec.take 8⟩] := by
  unfold hitsZ
  have h1 : (l.take (k + 1)).take n = l.take (k + 1) := List.take_of_length_le (by simp; omega)
  have h2 : (l.take k).take n = l.take k := List.take_of_length_le (by simp; omega)
  rw [h1, h2, List.take_succ_eq_append_getElem hk, List.map_append]
  rfl

theorem hitsZ_same (n : Nat) (l : List Hz) (k : Nat) (hn : n ≤ k) : hitsZ n (l.take (k + 1)) = hitsZ n (l.take k) := by
  unfold hitsZ
  rw [List.take_take, List.take_take]
  congr 2
  omega

theorem hitsZ_length (n : Nat) (l : List Hz) : (hitsZ n l).length = min n l.length := by simp [hitsZ]

theorem hitsZ_vec {n : Nat} {l : List Hz} {h : Hz} (hh : h ∈ hitsZ n l) : h.vec.length ≤ 8 := by
  unfold hitsZ at hh
  obtain ⟨x, -, rfl⟩ := List.mem_map.1 hh
  simp only [List.length_take]; omega

end Go.Proofs.Ytjnkiloomdeljaa
