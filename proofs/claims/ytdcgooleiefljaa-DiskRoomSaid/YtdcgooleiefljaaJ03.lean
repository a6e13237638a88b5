/-
  A row of the call's own that is cut from in front: to read it, to cut it, one element more at its end.
  A map in memory as a list of pairs, in the order in which the keys came: what each operation on it does.
-/
import Derived.Test.YtdcgooleiefljaaJ02
import Derived.Deep.AppendSrc
import Derived.Test.YtdcgooleiefljaaJ01
import Derived.ChangeMaps5
import Derived.Maps.Own
namespace Go.Proofs.Ytdcgooleiefljaa
open Go.RowKit

/-- the slice's elements are xs; they lie in block g, the call's own, from off on -/
structure Queue (w : World) (B e g off cap : Nat) (xs : List Value) : Prop where
  own : B ≤ g
  blk : ∃ cur, w.heap[g]? = some (.cells cur e (0, 0)) ∧ off + cap ≤ cur.size ∧ ∀ j u, xs[j]? = some u → cur[off + j]? = some u
  le : xs.length ≤ cap
  max : cap ≤ maxLen

theorem Queue.lt {w : World} {B e g off cap : Nat} {xs : List Value} (h : Queue w B e g off cap xs) : g < w.heap.size := by
  obtain ⟨cur, h1, -⟩ := h.blk
  exact lt_block h1

theorem Queue.kept {w w' : World} {B e g off cap : Nat} {xs : List Value} (h : Queue w B e g off cap xs) (hb : w'.heap[g]? = w.heap[g]?) : Queue w' B e g off cap xs := by
  obtain ⟨cur, h1, h2⟩ := h.blk
  exact ⟨h.own, ⟨cur, hb.trans h1, h2⟩, h.le, h.max⟩

theorem Queue.cell {w : World} {B e g off cap : Nat} {xs : List Value} (h : Queue w B e g off cap xs) {j : Nat} {u : Value} (hj : xs[j]? = some u) : w.cell? ⟨g, off + j, none⟩ = some u := by
  obtain ⟨cur, h1, h2, h3⟩ := h.blk
  simp only [World.cell?, h1]
  exact h3 j u hj

theorem Queue.one {w : World} {B e g : Nat} {u : Value} (hB : B ≤ g) (h : w.heap[g]? = some (.cells #[u] e (0, 0))) : Queue w B e g 0 1 [u] :=
  ⟨hB, ⟨_, h, by simp, fun j v hj => by cases j with | zero => simpa using hj | succ j => simp at hj⟩, by simp, by simp [maxLen]⟩

theorem Queue.tail {w : World} {B e g off cap : Nat} {x : Value} {xs : List Value} (h : Queue w B e g off cap (x :: xs)) : Queue w B e g (off + 1) (cap - 1) xs := by
  obtain ⟨cur, h1, h2, h3⟩ := h.blk
  have hl := h.le
  have hm := h.max
  simp only [List.length_cons] at hl
  refine ⟨h.own, ⟨cur, h1, by omega, fun j u hj => ?_⟩, by omega, by omega⟩
  have := h3 (j + 1) u (by simpa using hj)
  rwa [show off + (j + 1) = off + 1 + j by omega] at this

theorem Queue.none {w : World} {B e g off cap : Nat} {xs : List Value} (h : Queue w B e g off cap xs) : Queue w B e g off 0 [] := by
  obtain ⟨cur, h1, h2, h3⟩ := h.blk
  exact ⟨h.own, ⟨cur, h1, by omega, fun j u hj => by simp at hj⟩, by simp, by simp⟩

theorem own_agree {w w' : World} {B e s n : Nat} {v : Value} {xs : List Value} (h : w.ownsRow B e s v n xs) (ha : ∀ k, v.ownBlock = some k → w'.heap[k]? = w.heap[k]?) : w'.ownsRow B e s v n xs := by
  obtain ⟨h1, ⟨h2, h3⟩ | ⟨g, cap, cur, hv, hb, hg, hn, hc, hs, ht⟩⟩ := h
  · exact ⟨h1, .inl ⟨h2, h3⟩⟩
  · exact ⟨h1, .inr ⟨g, cap, cur, hv, hb, by rw [ha g (by rw [hv]; rfl)]; exact hg, hn, hc, hs, ht⟩⟩

theorem own_len {w : World} {B e size n m cap : Nat} {p : Option Addr} {xs : List Value} (h : w.ownsRow B e size (.slice p m cap) n xs) : m = n := by
  rcases h.2 with ⟨he, h0⟩ | ⟨g, c, cur, he, -⟩
  · cases he; exact h0.symm
  · cases he; rfl

theorem own_short {w : World} {B e s n : Nat} {v : Value} {xs : List Value} (h : w.ownsRow B e s v n xs) : n ≤ 9223372036854775807 := by
  rcases h.2 with ⟨-, h0⟩ | ⟨g, c, cur, -, -, -, h1, h2, -⟩
  · omega
  · simp only [maxLen] at h2; omega

section
variable {P : Program}

theorem run_queue {t e bytes : Nat} {z : Value} (R : RowTy P t e 1 bytes z) {w : World} {B g off cap : Nat} {xs : List Value} (hq : Queue w B e g off cap xs)
    {g0 : Nat} {u : Value} {te : TypeId} {fr : Nat × Nat} (hg : w.heap[g0]? = some (.cells #[u] te fr)) (h1 : u.oneCell' = true) (h63 : xs.length + 1 ≤ 1000000) (hby : bytes ≤ 1000) (hBw : B ≤ w.heap.size) :
    ∃ g' off' cap' w', (∀ ty, (Builtin.append_ #[t, t] ty #[.slice (some ⟨g, off, none⟩) xs.length cap, .slice (some ⟨g0, 0, none⟩) 1 1]).run P w = .ok (.slice (some ⟨g', off', none⟩) (xs.length + 1) cap') w') ∧
      Queue w' B e g' off' cap' (xs ++ [u]) ∧ w.grownBy w' (some g) ∧ (g' = g ∨ g' = w.heap.size) := by
  obtain ⟨i, hi, hz, hs, hb⟩ := info_parts R.info
  obtain ⟨cur, c1, c2, c3⟩ := hq.blk
  have hle := hq.le
  have hmax := hq.max
  have hsrc : Src P i.size t (.slice (some ⟨g0, 0, none⟩) 1 1) 1 [u] w := Src.ofSlice w R.ty ⟨g0, 0, none⟩ 1 1 [u] (by simp [hs]) (by
    have := World.news_of_block (cs := #[u]) (t := te) (fr := fr) hg
    simpa using this) (by simpa using h1)
  by_cases hroom : xs.length + 1 ≤ cap
  · have hr := fun ty => run_append_room_src (P := P) w t t ty e i R.ty hi g off xs.length cap (.slice (some ⟨g0, 0, none⟩) 1 1) 1 [u] hsrc hroom
      (fun j hj => by
        simp only [List.length_cons, List.length_nil] at hj
        obtain rfl : j = 0 := by omega
        simp only [World.cell?, c1, hs]
        rw [Array.getElem?_eq_getElem (by omega)]; rfl)
      (fun j hj => by simp [World.frozen?, c1])
    refine ⟨g, off, cap, _, hr, ⟨hq.own, ⟨cur.setIfInBounds (off + xs.length * i.size) u, ?_, by simpa using c2, fun j v hj => ?_⟩, by simpa using hroom, hmax⟩, grownBy_setCells g [u] _ w, .inl rfl⟩
    · simp [World.setCells, World.setCell, Array.getElem?_modify, c1]
    · rw [hs, Nat.mul_one, Array.getElem?_setIfInBounds]
      rcases Nat.lt_or_ge j xs.length with hj1 | hj1
      · rw [if_neg (by omega)]
        rw [List.getElem?_append_left hj1] at hj
        exact c3 j v hj
      · have hj2 : j < (xs ++ [u]).length := (List.getElem?_eq_some_iff.1 hj).1
        simp only [List.length_append, List.length_cons, List.length_nil] at hj2
        obtain rfl : j = xs.length := by omega
        rw [if_pos rfl, if_pos (by omega)]
        rw [List.getElem?_append_right (by omega)] at hj
        simpa using hj
  · have hcells : ∀ j v, xs[j]? = some v → w.cell? ((⟨g, off, none⟩ : Addr).add j) = some v := fun j v hj => by rw [Addr.add_lit]; exact hq.cell hj
    have hold : (Builtin.firstCells i.size xs.length (.slice (some ⟨g, off, none⟩) xs.length cap)).run P w.drew = .ok xs.toArray w.drew :=
      run_firstCells_some w.drew i.size xs.length _ _ _ xs (by simp [hs]) (by simpa using hcells)
    have hfit : Builtin.nextslicecap (xs.length + 1) cap * i.bytes ≤ 281474976710656 := growslice_fits (by omega) (by
      rw [hb]
      calc (xs.length + 1) * bytes ≤ 1000000 * 1000 := Nat.mul_le_mul h63 hby
        _ ≤ _ := by omega)
    have hr := fun ty => run_append_grow_src (P := P) w t t ty e i z R.ty hi hz (some ⟨g, off, none⟩) xs.length cap xs hold (.slice (some ⟨g0, 0, none⟩) 1 1) 1 [u] hsrc (by omega) (by omega) hfit
    have hge := grownCap_ge w (xs.length + 1) cap e
    have hcm : grownCap w (xs.length + 1) cap e ≤ maxLen := grownCap_le_maxLen w (xs.length + 1) cap e (by simp [maxLen]; omega)
    refine ⟨w.heap.size, 0, _, _, hr, ⟨hBw, ⟨_, heap_alloc_new w.drew _, ?_, fun j v hj => ?_⟩, by simpa using hge, hcm⟩, ⟨rfl, rfl, rfl, by simp, fun k hk _ => heap_alloc_old w.drew _ hk⟩, .inr rfl⟩
    · have hzs := R.zs
      simp only [Array.size_append, List.size_toArray, List.length_append, List.length_cons, List.length_nil, size_zeroCells, hzs]
      omega
    · rw [Nat.zero_add]
      have hj2 : j < (xs ++ [u]).length := (List.getElem?_eq_some_iff.1 hj).1
      rw [Array.getElem?_append_left (by simpa using hj2)]
      simpa using hj
end

end Go.Proofs.Ytdcgooleiefljaa

namespace Go.Proofs.Ytdcgooleiefljaa
open Go.RowKit Go.ChangeMaps

/-- keys of the type K are the values mk a -/
structure KeyOf (P : Program) (K : TypeId) {α : Type} [DecidableEq α] (mk : α → Value) : Prop where
  plain : ∃ d, P.underlying K = some d ∧ (∀ a b, Instr.sameNow d (mk a) (mk b) = some (decide (a = b))) ∧ (∀ e n w (a : α), (Instr.checkKey e (n + 1) K (mk a)).run P w = .ok () w)
  bits : ∀ n a, Instr.sameBits n (mk a) (mk a) = true

theorem int_keyOf {P : Program} {K : TypeId} {k : IntKind} (h : P.underlying K = some (.int k)) : KeyOf P K (Value.int k) := by
  refine ⟨⟨_, h, fun a b => ?_, fun e n w a => ?_⟩, fun n a => by cases n <;> simp [Instr.sameBits]⟩
  · simp only [Instr.sameNow, if_true]
    by_cases hab : a = b <;> simp [hab]
  · simp [Instr.checkKey, run_underlying h, Result.andThen]

theorem beq_ba (a b : List UInt8) : ((⟨a.toArray⟩ : ByteArray) == ⟨b.toArray⟩) = decide (a = b) := by
  show (a.toArray == b.toArray) = _
  rw [Bool.eq_iff_iff]; simp

def strV (l : List UInt8) : Value := .string ⟨l.toArray⟩

theorem string_keyOf {P : Program} {K : TypeId} (h : P.underlying K = some .string) : KeyOf P K strV := by
  refine ⟨⟨_, h, fun a b => ?_, fun e n w a => ?_⟩, fun n a => by cases n <;> simp [Instr.sameBits, strV, beq_ba]⟩
  · simp only [Instr.sameNow, strV]
    rw [beq_ba]
  · simp [Instr.checkKey, run_underlying h, Result.andThen]

section
variable {P : Program} {K : TypeId} {α : Type} [DecidableEq α] {mk : α → Value}

/-- what a key has -/
def getK (L : List (α × Value)) (a : α) : Option Value := (L.find? fun p => decide (p.1 = a)).map (·.2)

/-- a key is given a value -/
def putK : List (α × Value) → α → Value → List (α × Value)
  | [], a, v => [(a, v)]
  | p :: L, a, v => if p.1 = a then (a, v) :: L else p :: putK L a v

/-- a key goes -/
def delK (L : List (α × Value)) (a : α) : List (α × Value) := L.filter fun p => decide (p.1 ≠ a)

/-- block b is a map that holds just these -/
structure MapIs (w : World) (mk : α → Value) (b : Nat) (L : List (α × Value)) (es : Array MapEntry) (clock : Nat) : Prop where
  obj : w.heap[b]? = some (.map es clock)
  ents : es.toList.map (fun e => (e.key, e.val)) = L.map fun p => (mk p.1, p.2)
  keys : (L.map (·.1)).Nodup
  stamps : (es.toList.map (·.born)).Nodup
  young : ∀ e ∈ es.toList, e.born < clock

def MapAt (w : World) (mk : α → Value) (b : Nat) (L : List (α × Value)) : Prop := ∃ es clock, MapIs w mk b L es clock

omit [DecidableEq α] in
theorem MapAt.kept {w w' : World} {b : Nat} {L : List (α × Value)} (h : MapAt w mk b L) (hb : w'.heap[b]? = w.heap[b]?) : MapAt w' mk b L := by
  obtain ⟨es, c, h⟩ := h
  exact ⟨es, c, ⟨by rw [hb]; exact h.obj, h.ents, h.keys, h.stamps, h.young⟩⟩

omit [DecidableEq α] in
theorem MapAt.lt {w : World} {b : Nat} {L : List (α × Value)} (h : MapAt w mk b L) : b < w.heap.size := by
  obtain ⟨es, c, h⟩ := h
  exact (Array.getElem?_eq_some_iff.1 h.obj).1

omit [DecidableEq α] in
theorem MapAt.made (w : World) : MapAt (α := α) (w.alloc (.map #[] 0)) mk w.heap.size [] :=
  ⟨#[], 0, ⟨heap_alloc_new _ _, rfl, by simp, by simp, by simp⟩⟩

/-- where a key is found -/
theorem findNow_eq {d : TypeDesc} (hd : ∀ a b, Instr.sameNow d (mk a) (mk b) = some (decide (a = b))) (a : α) :
    ∀ (es : List MapEntry) (L : List (α × Value)) (i : Nat), es.map (fun e => (e.key, e.val)) = L.map (fun p => (mk p.1, p.2)) →
      Instr.findNow d (mk a) es i = some ((L.findIdx? fun p => decide (p.1 = a)).bind fun j => (L[j]?).map fun p => (i + j, p.2))
  | [], [], _, _ => rfl
  | [], _ :: _, _, h => by simp at h
  | _ :: _, [], _, h => by simp at h
  | e :: es, p :: L, i, h => by
    simp only [List.map_cons, List.cons.injEq, Prod.mk.injEq] at h
    rw [Instr.findNow, h.1.1, hd]
    by_cases hp : p.1 = a
    · have h1 : decide (a = p.1) = true := by simp [hp]
      have h2 : decide (p.1 = a) = true := by simp [hp]
      rw [h1]
      simp [List.findIdx?_cons, h2, h.1.2]
    · have h1 : decide (a = p.1) = false := by simp; exact fun e => hp e.symm
      have h2 : decide (p.1 = a) = false := by simp [hp]
      rw [h1]
      simp only []
      rw [findNow_eq hd a es L (i + 1) h.2]
      simp only [List.findIdx?_cons, h2]
      cases L.findIdx? fun p => decide (p.1 = a) with
      | none => simp
      | some j => simp [Nat.add_comm, Nat.add_left_comm]

theorem getK_eq (L : List (α × Value)) (a : α) : getK L a = (L.findIdx? fun p => decide (p.1 = a)).bind fun j => (L[j]?).map (·.2) := by
  unfold getK
  induction L with
  | nil => rfl
  | cons p L ih =>
    by_cases hp : p.1 = a
    · simp [List.findIdx?_cons, hp]
    · simp only [List.find?_cons, List.findIdx?_cons, hp, decide_false]
      rw [ih]
      cases L.findIdx? fun p => decide (p.1 = a) <;> simp


theorem run_findKey (KO : KeyOf P K mk) {es : List MapEntry} {L : List (α × Value)} (h : es.map (fun e => (e.key, e.val)) = L.map fun p => (mk p.1, p.2)) (a : α) (w : World) :
    (Instr.findKey K (mk a) es).run P w = .ok ((L.findIdx? fun p => decide (p.1 = a)).bind fun j => (L[j]?).map fun p => (j, p.2)) w := by
  obtain ⟨d, hd, hs, _⟩ := KO.plain
  have := findNow_eq hs a es L 0 h
  simp only [Nat.zero_add] at this
  simp [Instr.findKey, run_underlying hd, this, Result.andThen]

/-- m[k], and v, ok := m[k] -/
theorem run_look (KO : KeyOf P K mk) {T E : TypeId} (hT : P.underlying T = some (.map K E)) {w : World} {b : Nat} {L : List (α × Value)} (h : MapAt w mk b L) {z : Value} (hz : (zeroValue E).run P w = .ok z w) (a : α) (c : Bool) :
    (Instr.lookup T (.map (some b)) (mk a) c).run P w = .ok (if c then .tuple #[(getK L a).getD z, .bool (getK L a).isSome] else (getK L a).getD z) w := by
  obtain ⟨es, clock, h⟩ := h
  obtain ⟨d, hd, hs, hck⟩ := KO.plain
  have hf := run_findKey KO h.ents a w
  rw [getK_eq]
  have hg := MapKept.run_getObj_map (P := P) h.obj
  have hc := hck es.isEmpty 9999 w a
  simp only [Instr.lookup, Sem.run_bind, run_underlying hT, hg, Result.andThen_ok, Sem.run_pure, hc, hf]
  cases hj : L.findIdx? fun p => decide (p.1 = a) with
  | none => cases c <;> simp [hz, Result.andThen]
  | some j =>
    obtain ⟨hj', _⟩ := List.findIdx?_eq_some_iff_getElem.1 hj
    cases c <;> simp [List.getElem?_eq_getElem hj']

theorem run_look_nil (KO : KeyOf P K mk) {T E : TypeId} (hT : P.underlying T = some (.map K E)) {w : World} {z : Value} (hz : (zeroValue E).run P w = .ok z w) (a : α) (c : Bool) :
    (Instr.lookup T (.map none) (mk a) c).run P w = .ok (if c then .tuple #[z, .bool false] else z) w := by
  obtain ⟨d, hd, hs, hck⟩ := KO.plain
  have hf := run_findKey KO (es := []) (L := []) rfl a w
  have hc := hck true 9999 w a
  simp only [Instr.lookup, Sem.run_bind, run_underlying hT, Result.andThen_ok, Sem.run_pure]
  simp only [show (#[] : Array MapEntry).isEmpty = true from rfl, hc, Result.andThen_ok]
  cases c <;> simp [hz, hf, Result.andThen]

theorem mem_putK_keys {L : List (α × Value)} {a : α} {v : Value} {x : α} : x ∈ (putK L a v).map (·.1) ↔ x ∈ L.map (·.1) ∨ x = a := by
  induction L with
  | nil => simp [putK]
  | cons p L ih =>
    unfold putK
    split
    · rename_i hp
      subst hp
      simp only [List.map_cons, List.mem_cons]
      constructor
      · rintro (h | h)
        · exact .inr h
        · exact .inl (.inr h)
      · rintro ((h | h) | h)
        · exact .inl h
        · exact .inr h
        · exact .inl h
    · simp only [List.map_cons, List.mem_cons, ih]
      constructor
      · rintro (h | h | h)
        · exact .inl (.inl h)
        · exact .inl (.inr h)
        · exact .inr h
      · rintro ((h | h) | h)
        · exact .inl h
        · exact .inr (.inl h)
        · exact .inr (.inr h)

theorem nodup_putK {L : List (α × Value)} (h : (L.map (·.1)).Nodup) (a : α) (v : Value) : ((putK L a v).map (·.1)).Nodup := by
  induction L with
  | nil => simp [putK]
  | cons p L ih =>
    simp only [List.map_cons, List.nodup_cons] at h
    unfold putK
    split
    · rename_i hp
      subst hp
      simpa using h
    · rename_i hp
      simp only [List.map_cons, List.nodup_cons]
      refine ⟨fun hm => ?_, ih h.2⟩
      rcases mem_putK_keys.1 hm with hm | hm
      · exact h.1 hm
      · exact hp hm

theorem putK_new {L : List (α × Value)} {a : α} (h : L.findIdx? (fun p => decide (p.1 = a)) = none) (v : Value) : putK L a v = L ++ [(a, v)] := by
  induction L with
  | nil => rfl
  | cons p L ih =>
    by_cases hp : p.1 = a
    · simp [List.findIdx?_cons, hp] at h
    · simp only [List.findIdx?_cons, hp, decide_false] at h
      simp only [putK, hp, if_false, List.cons_append]
      rw [ih (by simpa using h)]

theorem putK_old {L : List (α × Value)} {a : α} {j : Nat} (h : L.findIdx? (fun p => decide (p.1 = a)) = some j) (v : Value) : putK L a v = L.set j (a, v) := by
  induction L generalizing j with
  | nil => simp at h
  | cons p L ih =>
    by_cases hp : p.1 = a
    · simp [List.findIdx?_cons, hp] at h
      subst h
      simp [putK, hp]
    · simp only [List.findIdx?_cons, hp, decide_false] at h
      simp only [putK, hp, if_false]
      cases hj : L.findIdx? fun p => decide (p.1 = a) with
      | none => rw [hj] at h; simp at h
      | some i =>
        rw [hj] at h
        simp at h
        subst h
        rw [ih hj]
        rfl

theorem grownBy_setBlock {w : World} {b : Nat} {es : Array MapEntry} {clock : Nat} (h : w.heap[b]? = some (.map es clock)) (o : Obj) : w.grownBy (setBlock w b o) (some b) :=
  ⟨rfl, rfl, rfl, by simp [setBlock], fun k _ hne => heap_setBlock_other h o (fun e => hne (by rw [e]))⟩

/-- m[k] = v -/
theorem run_put (KO : KeyOf P K mk) {T E : TypeId} (hT : P.underlying T = some (.map K E)) {w : World} {b : Nat} {L : List (α × Value)} (h : MapAt w mk b L) (a : α) (v : Value) :
    ∃ w', (Instr.mapUpdate T (.map (some b)) (mk a) v).run P w = .ok () w' ∧ MapAt w' mk b (putK L a v) ∧ w.grownBy w' (some b) ∧ w'.heap.size = w.heap.size := by
  obtain ⟨es, clock, h⟩ := h
  obtain ⟨d, hd, hs, hck⟩ := KO.plain
  have hf := run_findKey KO h.ents a w
  have hg := MapKept.run_getObj_map (P := P) h.obj
  have hc := hck false 9999 w a
  have hlen : es.size = L.length := by have := congrArg List.length h.ents; simpa using this
  cases hj : L.findIdx? fun p => decide (p.1 = a) with
  | none =>
    rw [hj] at hf
    refine ⟨setBlock w b (.map (es.push { key := mk a, val := v, born := clock }) (clock + 1)), ?_, ⟨_, _, ⟨heap_setBlock_same h.obj _, ?_, nodup_putK h.keys a v, ?_, ?_⟩⟩, grownBy_setBlock h.obj _, by simp [setBlock]⟩
    · simp only [Option.bind_none] at hf
      simp only [Instr.mapUpdate, Sem.run_bind, run_underlying hT, hg, Result.andThen_ok, hc, hf, MapKept.run_setObj_map _ h.obj]
      rfl
    · rw [putK_new hj]; simp [h.ents]
    · simp only [Array.toList_push, List.map_append, List.map_cons, List.map_nil]
      rw [List.nodup_append]
      refine ⟨h.stamps, by simp, fun x hx y hy => ?_⟩
      simp only [List.mem_singleton] at hy
      subst hy
      obtain ⟨e, he, rfl⟩ := List.mem_map.1 hx
      have := h.young e he
      omega
    · intro e he
      rw [Array.toList_push, List.mem_append] at he
      rcases he with he | he
      · have := h.young e he; omega
      · simp at he; subst he; simp
  | some j =>
    obtain ⟨hj', hja, _⟩ := List.findIdx?_eq_some_iff_getElem.1 hj
    rw [hj] at hf
    simp only [Option.bind_some, List.getElem?_eq_getElem hj', Option.map_some] at hf
    have hjs : j < es.size := by omega
    have hkey : es[j].key = mk a := by
      have e1 := congrArg (fun l => l[j]?) h.ents
      simp [List.getElem?_eq_getElem hj', hjs] at e1
      have : L[j].1 = a := by simpa using hja
      rw [e1.1, this]
    refine ⟨setBlock w b (.map (es.modify j fun e => { e with key := mk a, val := v }) clock), ?_, ⟨_, _, ⟨heap_setBlock_same h.obj _, ?_, nodup_putK h.keys a v, ?_, ?_⟩⟩, grownBy_setBlock h.obj _, by simp [setBlock]⟩
    · have hst : (Instr.keyThatStays (((es[j]?).map (·.key)).getD (mk a)) (mk a)).run P w = .ok (mk a) w := by
        simp [Instr.keyThatStays, Array.getElem?_eq_getElem hjs, hkey, KO.bits]
      simp only [Instr.mapUpdate, Sem.run_bind, run_underlying hT, hg, Result.andThen_ok, hc, hf, hst, MapKept.run_setObj_map _ h.obj]
      rfl
    · rw [putK_old hj, List.map_set, ← h.ents]
      refine List.ext_getElem? fun i => ?_
      simp only [List.getElem?_map, Array.getElem?_toList, Array.getElem?_modify, List.getElem?_set]
      by_cases hij : j = i
      · subst hij; simp [hjs]
      · simp [hij]
    · have e1 : (es.modify j fun e => { e with key := mk a, val := v }).toList.map (·.born) = es.toList.map (·.born) := by
        refine List.ext_getElem? fun i => ?_
        simp only [List.getElem?_map, Array.getElem?_toList, Array.getElem?_modify]
        by_cases hij : j = i
        · subst hij; simp [Array.getElem?_eq_getElem hjs]
        · simp [hij]
      rw [e1]; exact h.stamps
    · intro e he
      obtain ⟨i, hi, rfl⟩ := List.mem_iff_getElem.1 he
      simp only [Array.length_toList, Array.size_modify] at hi
      simp only [Array.getElem_toList, Array.getElem_modify]
      have := h.young es[i] (by simp)
      split <;> exact this

theorem getK_put (L : List (α × Value)) (a : α) (v : Value) (x : α) : getK (putK L a v) x = if x = a then some v else getK L x := by
  induction L with
  | nil =>
    by_cases h : x = a
    · simp [putK, getK, h]
    · have : decide (a = x) = false := by simp; exact fun e => h e.symm
      simp [putK, getK, this, h]
  | cons p L ih =>
    unfold putK
    by_cases hp : p.1 = a
    · rw [if_pos hp]
      by_cases h : x = a
      · simp [getK, h]
      · have h1 : decide (a = x) = false := by simp; exact fun e => h e.symm
        have h2 : decide (p.1 = x) = false := by rw [hp]; exact h1
        simp [getK, h1, h2, h]
    · rw [if_neg hp]
      by_cases hx : p.1 = x
      · have h : x ≠ a := fun e => hp (by rw [hx, e])
        simp [getK, hx, h]
      · have h2 : decide (p.1 = x) = false := by simp [hx]
        unfold getK at ih ⊢
        simp only [List.find?_cons, h2]
        exact ih

end

end Go.Proofs.Ytdcgooleiefljaa
