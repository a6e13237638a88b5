/-
  A row of the call's own that is cut from in front: to read it, to cut it, one element more at its end.
  graph: to go through all that can be come to: what is kept on the way.
  graph: Soft: of the near ones those whose edges aren't needed.
-/
import Derived.Test.YtdbeekdnehojnaaJ23
import Derived.Deep.AppendSrc
import Derived.Test.YtdbeekdnehojnaaJ22
import Derived.Lib.OwnBridge
import Derived.Shelf.SlicesE.DeleteFunc
namespace Go.Proofs.Ytdbeekdnehojnaa
open Go.RowKit

/-- the slice's elements are xs; they lie in block g, the call's own, from off on -/
structure Queue (w : World) (B e g off cap : Nat) (xs : List Value) : Prop where
  own : B ≤ g
  blk : ∃ cur, w.heap[g]? = some (.cells cur e (0, 0)) ∧ off + cap ≤ cur.size ∧ ∀ j u, xs[j]? = some u → cur[off + j]? = some u
  le : xs.length ≤ cap
  max : cap ≤ maxLen

theorem Queue.lt {w : World} {B e g off cap : Nat} {xs : List Value} (h : Queue w B e g off cap xs) : g < w.heap.size := by
  obtain ⟨cur, h1, -⟩ := h.blk
  exact lt_block h1

theorem Queue.kept {w w' : World} {B e g off cap : Nat} {xs : List Value} (h : Queue w B e g off cap xs) (hb : w'.heap[g]? = w.heap[g]?) : Queue w' B e g off cap xs := by
  obtain ⟨cur, h1, h2⟩ := h.blk
  exact ⟨h.own, ⟨cur, hb.trans h1, h2⟩, h.le, h.max⟩

theorem Queue.cell {w : World} {B e g off cap : Nat} {xs : List Value} (h : Queue w B e g off cap xs) {j : Nat} {u : Value} (hj : xs[j]? = some u) : w.cell? ⟨g, off + j, none⟩ = some u := by
  obtain ⟨cur, h1, h2, h3⟩ := h.blk
  simp only [World.cell?, h1]
  exact h3 j u hj

theorem Queue.one {w : World} {B e g : Nat} {u : Value} (hB : B ≤ g) (h : w.heap[g]? = some (.cells #[u] e (0, 0))) : Queue w B e g 0 1 [u] :=
  ⟨hB, ⟨_, h, by simp, fun j v hj => by cases j with | zero => simpa using hj | succ j => simp at hj⟩, by simp, by simp [maxLen]⟩

theorem Queue.tail {w : World} {B e g off cap : Nat} {x : Value} {xs : List Value} (h : Queue w B e g off cap (x :: xs)) : Queue w B e g (off + 1) (cap - 1) xs := by
  obtain ⟨cur, h1, h2, h3⟩ := h.blk
  have hl := h.le
  have hm := h.max
  simp only [List.length_cons] at hl
  refine ⟨h.own, ⟨cur, h1, by omega, fun j u hj => ?_⟩, by omega, by omega⟩
  have := h3 (j + 1) u (by simpa using hj)
  rwa [show off + (j + 1) = off + 1 + j by omega] at this

theorem Queue.none {w : World} {B e g off cap : Nat} {xs : List Value} (h : Queue w B e g off cap xs) : Queue w B e g off 0 [] := by
  obtain ⟨cur, h1, h2, h3⟩ := h.blk
  exact ⟨h.own, ⟨cur, h1, by omega, fun j u hj => by simp at hj⟩, by simp, by simp⟩

theorem own_agree {w w' : World} {B e s n : Nat} {v : Value} {xs : List Value} (h : w.ownsRow B e s v n xs) (ha : ∀ k, v.ownBlock = some k → w'.heap[k]? = w.heap[k]?) : w'.ownsRow B e s v n xs := by
  obtain ⟨h1, ⟨h2, h3⟩ | ⟨g, cap, cur, hv, hb, hg, hn, hc, hs, ht⟩⟩ := h
  · exact ⟨h1, .inl ⟨h2, h3⟩⟩
  · exact ⟨h1, .inr ⟨g, cap, cur, hv, hb, by rw [ha g (by rw [hv]; rfl)]; exact hg, hn, hc, hs, ht⟩⟩

theorem own_len {w : World} {B e size n m cap : Nat} {p : Option Addr} {xs : List Value} (h : w.ownsRow B e size (.slice p m cap) n xs) : m = n := by
  rcases h.2 with ⟨he, h0⟩ | ⟨g, c, cur, he, -⟩
  · cases he; exact h0.symm
  · cases he; rfl

theorem own_short {w : World} {B e s n : Nat} {v : Value} {xs : List Value} (h : w.ownsRow B e s v n xs) : n ≤ 9223372036854775807 := by
  rcases h.2 with ⟨-, h0⟩ | ⟨g, c, cur, -, -, -, h1, h2, -⟩
  · omega
  · simp only [maxLen] at h2; omega

section
variable {P : Program}

theorem run_queue {t e bytes : Nat} {z : Value} (R : RowTy P t e 1 bytes z) {w : World} {B g off cap : Nat} {xs : List Value} (hq : Queue w B e g off cap xs)
    {g0 : Nat} {u : Value} {te : TypeId} {fr : Nat × Nat} (hg : w.heap[g0]? = some (.cells #[u] te fr)) (h1 : u.oneCell' = true) (h63 : xs.length + 1 ≤ 1000000) (hby : bytes ≤ 1000) (hBw : B ≤ w.heap.size) :
    ∃ g' off' cap' w', (∀ ty, (Builtin.append_ #[t, t] ty #[.slice (some ⟨g, off, none⟩) xs.length cap, .slice (some ⟨g0, 0, none⟩) 1 1]).run P w = .ok (.slice (some ⟨g', off', none⟩) (xs.length + 1) cap') w') ∧
      Queue w' B e g' off' cap' (xs ++ [u]) ∧ w.grownBy w' (some g) ∧ (g' = g ∨ g' = w.heap.size) := by
  obtain ⟨i, hi, hz, hs, hb⟩ := info_parts R.info
  obtain ⟨cur, c1, c2, c3⟩ := hq.blk
  have hle := hq.le
  have hmax := hq.max
  have hsrc : Src P i.size t (.slice (some ⟨g0, 0, none⟩) 1 1) 1 [u] w := Src.ofSlice w R.ty ⟨g0, 0, none⟩ 1 1 [u] (by simp [hs]) (by
    have := World.news_of_block (cs := #[u]) (t := te) (fr := fr) hg
    simpa using this) (by simpa using h1)
  by_cases hroom : xs.length + 1 ≤ cap
  · have hr := fun ty => run_append_room_src (P := P) w t t ty e i R.ty hi g off xs.length cap (.slice (some ⟨g0, 0, none⟩) 1 1) 1 [u] hsrc hroom
      (fun j hj => by
        simp only [List.length_cons, List.length_nil] at hj
        obtain rfl : j = 0 := by omega
        simp only [World.cell?, c1, hs]
        rw [Array.getElem?_eq_getElem (by omega)]; rfl)
      (fun j hj => by simp [World.frozen?, c1])
    refine ⟨g, off, cap, _, hr, ⟨hq.own, ⟨cur.setIfInBounds (off + xs.length * i.size) u, ?_, by simpa using c2, fun j v hj => ?_⟩, by simpa using hroom, hmax⟩, grownBy_setCells g [u] _ w, .inl rfl⟩
    · simp [World.setCells, World.setCell, Array.getElem?_modify, c1]
    · rw [hs, Nat.mul_one, Array.getElem?_setIfInBounds]
      rcases Nat.lt_or_ge j xs.length with hj1 | hj1
      · rw [if_neg (by omega)]
        rw [List.getElem?_append_left hj1] at hj
        exact c3 j v hj
      · have hj2 : j < (xs ++ [u]).length := (List.getElem?_eq_some_iff.1 hj).1
        simp only [List.length_append, List.length_cons, List.length_nil] at hj2
        obtain rfl : j = xs.length := by omega
        rw [if_pos rfl, if_pos (by omega)]
        rw [List.getElem?_append_right (by omega)] at hj
        simpa using hj
  · have hcells : ∀ j v, xs[j]? = some v → w.cell? ((⟨g, off, none⟩ : Addr).add j) = some v := fun j v hj => by rw [Addr.add_lit]; exact hq.cell hj
    have hold : (Builtin.firstCells i.size xs.length (.slice (some ⟨g, off, none⟩) xs.length cap)).run P w.drew = .ok xs.toArray w.drew :=
      run_firstCells_some w.drew i.size xs.length _ _ _ xs (by simp [hs]) (by simpa using hcells)
    have hfit : Builtin.nextslicecap (xs.length + 1) cap * i.bytes ≤ 281474976710656 := growslice_fits (by omega) (by
      rw [hb]
      calc (xs.length + 1) * bytes ≤ 1000000 * 1000 := Nat.mul_le_mul h63 hby
        _ ≤ _ := by omega)
    have hr := fun ty => run_append_grow_src (P := P) w t t ty e i z R.ty hi hz (some ⟨g, off, none⟩) xs.length cap xs hold (.slice (some ⟨g0, 0, none⟩) 1 1) 1 [u] hsrc (by omega) (by omega) hfit
    have hge := grownCap_ge w (xs.length + 1) cap e
    have hcm : grownCap w (xs.length + 1) cap e ≤ maxLen := grownCap_le_maxLen w (xs.length + 1) cap e (by simp [maxLen]; omega)
    refine ⟨w.heap.size, 0, _, _, hr, ⟨hBw, ⟨_, heap_alloc_new w.drew _, ?_, fun j v hj => ?_⟩, by simpa using hge, hcm⟩, ⟨rfl, rfl, rfl, by simp, fun k hk _ => heap_alloc_old w.drew _ hk⟩, .inr rfl⟩
    · have hzs := R.zs
      simp only [Array.size_append, List.size_toArray, List.length_append, List.length_cons, List.length_nil, size_zeroCells, hzs]
      omega
    · rw [Nat.zero_add]
      have hj2 : j < (xs ++ [u]).length := (List.getElem?_eq_some_iff.1 hj).1
      rw [Array.getElem?_append_left (by simpa using hj2)]
      simpa using hj
end

end Go.Proofs.Ytdbeekdnehojnaa

namespace Go.Proofs.Ytdbeekdnehojnaa
open Go.RowKit Go.ChangeMaps

/-- a way -/
inductive Way (R : Int → Int → Prop) (a : Int) : Int → Prop
  | here : Way R a a
  | step {b c : Int} : Way R a b → R b c → Way R a c

/-- from each node edges lead to nodes -/
def ShutQ (Q : Gr) : Prop := ∀ q ∈ Q, ∀ x ∈ q.2.2, x.1 ∈ Q.map (·.1)

/-- L: what the search has found, in the order in which it was found; it has gone on from the first i -/
structure Found (Q : Gr) (k : Int) (L : List Int) (i : Nat) : Prop where
  nodup : L.Nodup
  start : k ∈ L
  le : i ≤ L.length
  done : ∀ j (hj : j < L.length), j < i → ∀ y ∈ nearZ Q L[j], y ∈ L
  way : ∀ x ∈ L, Way (fun a b => b ∈ nearZ Q a) k x
  node : ∀ x ∈ L, x ∈ Q.map (·.1)

theorem mem_sortZ {l : List Int} {x : Int} : x ∈ sortZ l ↔ x ∈ l := (List.mergeSort_perm l _).mem_iff

theorem nodup_sortZ {l : List Int} : (sortZ l).Nodup ↔ l.Nodup := (List.mergeSort_perm l _).nodup_iff

theorem near_node {Q : Gr} (h : ShutQ Q) {a x : Int} (hx : x ∈ nearZ Q a) : x ∈ Q.map (·.1) := by
  unfold nearZ at hx
  cases hf : Q.find? fun q => decide (q.1 = a) with
  | none => rw [hf] at hx; simp at hx
  | some q =>
    rw [hf] at hx
    simp only [Option.map_some, Option.getD_some] at hx
    rw [mem_sortZ, List.mem_map] at hx
    obtain ⟨e, he, rfl⟩ := hx
    exact h q (List.mem_of_find?_eq_some hf) e he

theorem mem_addAll {l xs : List Int} {x : Int} : x ∈ addAll l xs ↔ x ∈ l ∨ x ∈ xs := by
  induction xs generalizing l with
  | nil => simp [addAll]
  | cons y xs ih =>
    show x ∈ addAll (if y ∈ l then l else l ++ [y]) xs ↔ _
    rw [ih]
    split
    · next h =>
      rw [List.mem_cons]
      constructor
      · rintro (h1 | h1)
        · exact .inl h1
        · exact .inr (.inr h1)
      · rintro (h1 | rfl | h1)
        · exact .inl h1
        · exact .inl h
        · exact .inr h1
    · rw [List.mem_append, List.mem_singleton, List.mem_cons, or_assoc]

theorem nodup_addAll {l xs : List Int} (h : l.Nodup) : (addAll l xs).Nodup := by
  induction xs generalizing l with
  | nil => exact h
  | cons y xs ih =>
    show (addAll (if y ∈ l then l else l ++ [y]) xs).Nodup
    refine ih ?_
    split
    · exact h
    · next hy =>
      rw [List.nodup_append]
      exact ⟨h, by simp, fun a ha b hb => by rw [List.mem_singleton] at hb; rintro rfl; exact hy (hb ▸ ha)⟩

theorem addAll_more (l xs : List Int) : ∃ t, addAll l xs = l ++ t := by
  induction xs generalizing l with
  | nil => exact ⟨[], by simp [addAll]⟩
  | cons y xs ih =>
    show ∃ t, addAll (if y ∈ l then l else l ++ [y]) xs = l ++ t
    split
    · exact ih l
    · obtain ⟨t, ht⟩ := ih (l ++ [y])
      exact ⟨y :: t, by rw [ht, List.append_assoc]; rfl⟩

theorem Found.first {Q : Gr} {k : Int} (h : hasB Q k = true) : Found Q k [k] 0 := by
  refine ⟨by simp, by simp, by simp, fun j _ h => absurd h (Nat.not_lt_zero _), fun x hx => ?_, fun x hx => ?_⟩
  · rw [List.mem_singleton] at hx; subst hx; exact .here
  · rw [List.mem_singleton] at hx; subst hx; rw [hasB_mem] at h; simpa using h

theorem Found.next {Q : Gr} {k : Int} {L : List Int} {i : Nat} (h : Found Q k L i) (hs : ShutQ Q) (hi : i < L.length) : Found Q k (addAll L (nearZ Q L[i])) (i + 1) := by
  obtain ⟨t, ht⟩ := addAll_more L (nearZ Q L[i])
  refine ⟨nodup_addAll h.nodup, mem_addAll.2 (.inl h.start), by rw [ht, List.length_append]; omega, fun j hj hji y hy => ?_, fun x hx => ?_, fun x hx => ?_⟩
  · have hjl : j < L.length := by omega
    have e : (addAll L (nearZ Q L[i]))[j] = L[j] := by
      have : (addAll L (nearZ Q L[i]))[j]? = L[j]? := by rw [ht, List.getElem?_append_left hjl]
      rw [List.getElem?_eq_getElem hj, List.getElem?_eq_getElem hjl] at this
      exact Option.some.inj this
    rw [e] at hy
    rw [mem_addAll]
    rcases Nat.lt_or_ge j i with h1 | h1
    · exact .inl (h.done j hjl h1 y hy)
    · obtain rfl : j = i := by omega
      exact .inr hy
  · rcases mem_addAll.1 hx with h1 | h1
    · exact h.way x h1
    · exact .step (h.way _ (List.getElem_mem hi)) h1
  · rcases mem_addAll.1 hx with h1 | h1
    · exact h.node x h1
    · exact near_node hs h1

theorem nodup_le : ∀ {l K : List Int}, l.Nodup → (∀ x ∈ l, x ∈ K) → l.length ≤ K.length
  | [], _, _, _ => Nat.zero_le _
  | a :: l, K, hn, hs => by
    rw [List.nodup_cons] at hn
    have ha : a ∈ K := hs a (List.mem_cons_self ..)
    have := nodup_le (l := l) (K := K.erase a) hn.2 fun x hx => (List.mem_erase_of_ne (by rintro rfl; exact hn.1 hx)).2 (hs x (List.mem_cons_of_mem _ hx))
    rw [List.length_erase_of_mem ha] at this
    have := List.length_pos_of_mem ha
    simp only [List.length_cons]
    omega

theorem Found.len {Q : Gr} {k : Int} {L : List Int} {i : Nat} (h : Found Q k L i) : L.length ≤ Q.length := by
  have := nodup_le h.nodup h.node
  simpa using this

theorem Found.part {Q : Gr} {k : Int} {L : List Int} {i : Nat} (h : Found Q k L i) (hs : ShutQ Q) (hi : i < L.length) (j : Nat) : (addAll L ((nearZ Q L[i]).take j)).length ≤ Q.length := by
  have := nodup_le (l := addAll L ((nearZ Q L[i]).take j)) (K := Q.map (·.1)) (nodup_addAll h.nodup) (fun x hx => by
    rcases mem_addAll.1 hx with h1 | h1
    · exact h.node x h1
    · exact near_node hs (List.mem_of_mem_take h1))
  simpa using this

/-- all that can be come to, and no other -/
theorem Found.all {Q : Gr} {k : Int} {L : List Int} (h : Found Q k L L.length) (x : Int) : x ∈ L ↔ Way (fun a b => b ∈ nearZ Q a) k x := by
  refine ⟨h.way x, fun hw => ?_⟩
  induction hw with
  | here => exact h.start
  | step _ hr ih =>
    obtain ⟨j, hj, rfl⟩ := List.mem_iff_getElem.1 ih
    exact h.done j hj hj _ hr

/-- what has been seen -/
def seenL (L : List Int) : List (Int × Value) := L.map fun x => (x, .bool true)

theorem getK_seen (L : List Int) (x : Int) : getK (seenL L) x = if x ∈ L then some (.bool true) else none := by
  induction L with
  | nil => simp [getK, seenL]
  | cons y L ih =>
    unfold getK seenL at *
    by_cases h : y = x
    · subst h; simp
    · have h2 : ¬ x = y := fun e => h e.symm
      simp only [List.map_cons, List.find?_cons, h, decide_false, List.mem_cons, h2, false_or]
      exact ih

theorem seen_new {L : List Int} {x : Int} (h : x ∉ L) : putK (seenL L) x (.bool true) = seenL (L ++ [x]) := by
  rw [putK_new]
  · simp [seenL]
  · rw [List.findIdx?_eq_none_iff]
    intro e he
    simp only [seenL, List.mem_map] at he
    obtain ⟨y, hy, rfl⟩ := he
    simp only [decide_eq_false_iff_not]
    rintro rfl
    exact h hy

theorem rowU : RowTy Try.prog 27 31 1 8 (.int .u64 0) := ⟨Try.underlying27, by kernel_rfl, rfl, by decide⟩

/-- the search's own: what has been seen (map sm), what is to do (from i on) -/
structure SearchI (B p m sm g off cap : Nat) (Q : Gr) (L : List Int) (i : Nat) (w : World) : Prop where
  gr : GrAt w p m Q
  seen : MapAt w (Value.int .u64) sm (seenL L)
  q : Queue w B 31 g off cap ((L.drop i).map (Value.int .u64))
  low : B ≤ sm
  big : B ≤ w.heap.size
  graph : p < B ∧ m < B ∧ ∀ q ∈ Q, q.2.1 < B

theorem SearchI.ne {B p m sm g off cap : Nat} {Q : Gr} {L : List Int} {i : Nat} {w : World} (h : SearchI B p m sm g off cap Q L i w) : g ≠ sm := by
  obtain ⟨cur, h1, -⟩ := h.q.blk
  obtain ⟨es, c, hi⟩ := h.seen
  rintro rfl
  rw [hi.obj] at h1
  cases h1

theorem own_not_map {w : World} {B e s n b : Nat} {v : Value} {xs : List Value} {α : Type} {mk : α → Value} {L : List (α × Value)} (h : w.ownsRow B e s v n xs) (hm : MapAt w mk b L) : v.ownBlock ≠ some b := by
  intro he
  obtain ⟨es, c, hi⟩ := hm
  rcases h.2 with ⟨hv, -⟩ | ⟨g, cap, cur, hv, -, hg, -⟩
  · rw [hv] at he; cases he
  · rw [hv] at he
    obtain rfl : g = b := by simpa [Value.ownBlock] using he
    rw [hi.obj] at hg
    cases hg

/-- the blocks below B, the map, the queue are as they were -/
theorem SearchI.kept {B p m sm g off cap : Nat} {Q : Gr} {L : List Int} {i : Nat} {w w' : World} (h : SearchI B p m sm g off cap Q L i w) (hb : Below w.heap.size w w') : SearchI B p m sm g off cap Q L i w' :=
  ⟨h.gr.kept fun k hk => hb.block k hk, h.seen.kept (hb.block _ h.seen.lt), h.q.kept (hb.block _ h.q.lt), h.low, Nat.le_trans h.big hb.size, h.graph⟩

theorem GrAt.low {w w' : World} {p m B : Nat} {Q : Gr} (h : GrAt w p m Q) (hl : p < B ∧ m < B ∧ ∀ q ∈ Q, q.2.1 < B) (hk : ∀ k, k < B → w'.heap[k]? = w.heap[k]?) : GrAt w' p m Q :=
  ⟨(hk p hl.1).trans h.cell, h.outer.kept (hk m hl.2.1), fun q hq => (h.inner q hq).kept (hk _ (hl.2.2 q hq)), h.apart⟩

/-- one more is seen, and to do -/
theorem SearchI.more {B p m sm g off cap : Nat} {Q : Gr} {L : List Int} {i n : Nat} {w : World} (h : SearchI B p m sm g off cap Q L i w) {x : Int} (hx : x ∉ L) (hi : i ≤ L.length) (hl : L.length ≤ 900000) (hn : n = L.length - i) :
    ∃ w5 g' off' cap' w7, (Instr.mapUpdate 45 (.map (some sm)) (.int .u64 x) (.bool true)).run Try.prog w = .ok () w5 ∧
      (∀ ty, (Builtin.append_ #[27, 27] ty #[.slice (some ⟨g, off, none⟩) n cap, .slice (some ⟨w5.heap.size, 0, none⟩) 1 1]).run Try.prog (w5.alloc (.cells #[.int .u64 x] 31)) = .ok (.slice (some ⟨g', off', none⟩) (n + 1) cap') w7) ∧
      SearchI B p m sm g' off' cap' Q (L ++ [x]) i w7 ∧ Below B w w7 ∧ w.heap.size ≤ w7.heap.size ∧ (∀ b, b < w.heap.size → b ≠ g → b ≠ sm → w7.heap[b]? = w.heap[b]?) ∧ (g' = g ∨ w.heap.size ≤ g') := by
  obtain ⟨w5, h5, hm5, hg5, hs5⟩ := run_put KO64 Try.underlying45 h.seen x (.bool true)
  rw [seen_new hx] at hm5
  have hne := h.ne
  have hq5 : Queue w5 B 31 g off cap ((L.drop i).map (Value.int .u64)) := h.q.kept (hg5.block _ h.q.lt (fun e => hne (by cases e; rfl)))
  have hq6 : Queue (w5.alloc (.cells #[.int .u64 x] 31)) B 31 g off cap ((L.drop i).map (Value.int .u64)) := hq5.kept (heap_alloc_old _ _ hq5.lt)
  have hB := h.big
  obtain ⟨g', off', cap', w7, h7, hq7, hg7, hgg⟩ := run_queue (bytes := 8) rowU hq6 (heap_alloc_new w5 (.cells #[.int .u64 x] 31)) rfl (by simp; omega) (by omega) (by simp; omega)
  have hlen : ((L.drop i).map (Value.int .u64)).length = n := by simp [hn]
  rw [hlen] at h7
  have hold : ∀ b, b < w.heap.size → b ≠ g → b ≠ sm → w7.heap[b]? = w.heap[b]? := fun b hb h1 h2 =>
    (hg7.block b (by simp; omega) (fun e => h1 (by cases e; rfl))).trans ((heap_alloc_old w5 _ (by omega)).trans (hg5.block b hb (fun e => h2 (by cases e; rfl))))
  have hsz : w.heap.size ≤ w7.heap.size := by have := hg7.size; rw [World.size_alloc] at this; omega
  have hgB := h.q.own
  have hsB := h.low
  have hbel : Below B w w7 := ⟨hg7.os.trans hg5.os, hg7.tape.trans hg5.tape, hg7.output.trans hg5.output, hsz, fun k hk => by
    rcases Nat.lt_or_ge k w.heap.size with h1 | h1
    · exact hold k h1 (by omega) (by omega)
    · omega⟩
  refine ⟨w5, g', off', cap', w7, h5, h7, ⟨h.gr.low h.graph fun k hk => hbel.block k hk, ?_, ?_, h.low, Nat.le_trans hB hsz, h.graph⟩, hbel, hsz, hold, ?_⟩
  · refine hm5.kept ((hg7.block sm (by simp; have := h.seen.lt; omega) (fun e => hne (by cases e; rfl))).trans (heap_alloc_old w5 _ (by have := h.seen.lt; omega)))
  · rw [List.drop_append_of_le_length hi, List.map_append]
    exact hq7
  · rcases hgg with h1 | h1
    · exact .inl h1
    · right; rw [h1, World.size_alloc]; omega

end Go.Proofs.Ytdbeekdnehojnaa

namespace Go.Proofs.Ytdbeekdnehojnaa
open Go.RowKit Go.ChangeMaps Go.Shelf Go.Sort Go.Lib

def delRen : Go.Shelf.Ren := ⟨fun x => if x = 6 then 45 else 38, fun x => match x with | 0 => 0 | 3 => 3 | 4 => 4 | 22 => 27 | 23 => 31 | _ => 52, fun x => x⟩

theorem layDel : SlLaysH.n10 Try.prog delRen where
  mixed := by kernel_rfl
  f6 := ⟨ "slices.IndexFunc[[]uint64,uint64]", by decide, Try.func45.trans (congrArg some (by kernel_rfl))⟩
  f10 := ⟨ "slices.DeleteFunc[[]uint64,uint64]", by decide, Try.func38.trans (congrArg some (by kernel_rfl))⟩
  t0 := Try.underlying0
  a0 := Try.isAgg0
  z0 := Try.sizeOf0
  v0 := Try.zeroValue0
  t3 := Try.underlying3
  a3 := Try.isAgg3
  z3 := Try.sizeOf3
  v3 := Try.zeroValue3
  t4 := Try.underlying4
  a4 := Try.isAgg4
  z4 := Try.sizeOf4
  v4 := Try.zeroValue4
  t22 := Try.underlying27
  a22 := Try.isAgg27
  z22 := Try.sizeOf27
  v22 := Try.zeroValue27
  a23 := Try.isAgg31
  z23 := Try.sizeOf31
  t25 := Try.underlying52
  a25 := Try.isAgg52
  z25 := Try.sizeOf52
  v25 := Try.zeroValue52

/-- is the edge from q to x needed? -/
def needB (E : List (Int × Bool)) (x : Int) : Bool := (edgeO E x).getD false

/-- what the closure reads -/
structure SoftS (Bg Bk p m : Nat) (q : Int × Nat × List (Int × Bool)) (x : Int) (w : World) : Prop where
  g : w.cell? ⟨Bg, 0, none⟩ = some (.pointer (some ⟨p, 0, none⟩))
  k : w.cell? ⟨Bk, 0, none⟩ = some (.int .u64 q.1)
  c : w.cell? ⟨p, 0, none⟩ = some (.map (some m))
  l : (Instr.lookup 55 (.map (some m)) (.int .u64 q.1) false).run Try.prog w = .ok (.map (some q.2.1)) w
  e : (Instr.lookup 45 (.map (some q.2.1)) (.int .u64 x) false).run Try.prog w = .ok (.bool (needB q.2.2 x)) w

set_option maxHeartbeats 2000000 in
theorem soft1 (Bg Bk p m : Nat) (q : Int × Nat × List (Int × Bool)) (x : Int) (w : World) (h : SoftS Bg Bk p m q x w.drew) :
    FnGives Try.prog 39 #[.pointer (some ⟨Bg, 0, none⟩), .pointer (some ⟨Bk, 0, none⟩)] #[.int .u64 x] (.bool (needB q.2.2 x)) w := by
  show Calls Try.prog 39 #[.int .u64 x, .pointer (some ⟨Bg, 0, none⟩), .pointer (some ⟨Bk, 0, none⟩)] w _
  obtain ⟨W, hW⟩ : ∃ W, W = w.drew := ⟨_, rfl⟩
  rw [← hW] at h
  have HW := Lib.hid hW
  obtain ⟨h1, h2, h3, h4, h5⟩ := h
  clear hW
  go_enter Try.func39, Try.ntmps39
  go_wp2_with fail
  refine region_go (fun w' => w'.cell? ⟨Bg, 0, none⟩ = some (.pointer (some ⟨p, 0, none⟩)) ∧ w'.cell? ⟨Bk, 0, none⟩ = some (.int .u64 q.1) ∧ w'.cell? ⟨p, 0, none⟩ = some (.map (some m)) ∧ (Instr.lookup 55 (.map (some m)) (.int .u64 q.1) false).run Try.prog w' = .ok (.map (some q.2.1)) w' ∧ (Instr.lookup 45 (.map (some q.2.1)) (.int .u64 x) false).run Try.prog w' = .ok (.bool (needB q.2.2 x)) w') (by kernel_rfl) ?hS0 (fun hH => ?_)
  case hS0 =>
    rw [← HW.out]; exact ⟨h1, h2, h3, h4, h5⟩
  rw [← HW.out] at hH ⊢
  refine kY 0 hH ?_
  repeat simp only [Act.put, uA1, uB1, uC1]
  refine kY 1 hH ?_
  repeat simp only [Act.put, uA1, uB1, uC1]
  refine kY 2 hH ?_
  repeat simp only [Act.put, uA1, uB1, uC1]
  refine kY 3 hH ?_
  repeat simp only [Act.put, uA1, uB1, uC1]
  refine kY 4 hH ?_
  repeat simp only [Act.put, uA1, uB1, uC1]
  refine kY 5 hH ?_
  repeat simp only [Act.put, uA1, uB1, uC1]
  refine kY 6 hH ?_
  repeat simp only [Act.put, uA1, uB1, uC1]
  refine kY 7 hH ?_
  repeat simp only [Act.put, uA1, uB1, uC1]
  refine kY 8 hH ?_
  repeat simp only [Act.put, uA1, uB1, uC1]
  refine wpAnyH_done (by decide +kernel) ?_ _
  go_wp2
  go_ret
  exact ⟨rfl, 1, HW.out⟩

/-- where the closure reads nothing has turned -/
theorem SoftS.of {Bg Bk p m : Nat} {Q : Gr} {q : Int × Nat × List (Int × Bool)} {w : World} (hG : GrAt w p m Q) (hq : q ∈ Q) (h1 : w.cell? ⟨Bg, 0, none⟩ = some (.pointer (some ⟨p, 0, none⟩))) (h2 : w.cell? ⟨Bk, 0, none⟩ = some (.int .u64 q.1)) (x : Int) : SoftS Bg Bk p m q x w := by
  refine ⟨h1, h2, hG.get, hG.look hq, ?_⟩
  have := hG.edge hq x false
  simpa [needB] using this

theorem del_nil (w : World) (lb : Array Value) (g : Nat) :
    Calls Try.prog 38 #[.slice none 0 0, .func (.func g) #[] lb] w fun e w' => e = .returned (.slice none 0 0) ∧ w' = w := by
  have c1 : Calls Try.prog 45 #[.slice none 0 0, .func (.func g) #[] lb] w fun e w' => e = .returned (.int .i64 (-1)) ∧ w' = w := by
    go_enter Try.func45, Try.ntmps45
    go_wp2_with fail
    refine wp_loop_once ?_
    go_wp2
    go_ret
    exact ⟨rfl, rfl⟩
  go_enter Try.func38, Try.ntmps38
  go_wp2_with (go_at_call 45; refine c1.mono ?_; rintro e w' ⟨rfl, rfl⟩)
  go_ret
  exact ⟨rfl, rfl⟩

end Go.Proofs.Ytdbeekdnehojnaa
