/-
  A map in memory as a list of pairs, in the order in which the keys came: what each operation on it does.
  A map in memory: to go through it, to strike a key, to count.
  gather: mail, as it lies in rows.
  gather: a question; the looks to those that have not told.
-/
import Derived.Test.YtfmlhdikagogcaaDoorJ01
import Derived.ChangeMaps5
import Derived.Maps.Own
import Derived.Test.YtfmlhdikagogcaaDoorJ14
import Derived.Test.YtfmlhdikagogcaaDoorJ02
namespace Go.Proofs.YtfmlhdikagogcaaDoor
open Go.RowKit Go.ChangeMaps
set_option maxRecDepth 20000

/-- keys of the type K are the values mk a -/
structure KeyOf (P : Program) (K : TypeId) {α : Type} [DecidableEq α] (mk : α → Value) : Prop where
  plain : ∃ d, P.underlying K = some d ∧ (∀ a b, Instr.sameNow d (mk a) (mk b) = some (decide (a = b))) ∧ (∀ e n w (a : α), (Instr.checkKey e (n + 1) K (mk a)).run P w = .ok () w)
  bits : ∀ n a, Instr.sameBits n (mk a) (mk a) = true

theorem int_keyOf {P : Program} {K : TypeId} {k : IntKind} (h : P.underlying K = some (.int k)) : KeyOf P K (Value.int k) := by
  refine ⟨⟨_, h, fun a b => ?_, fun e n w a => ?_⟩, fun n a => by cases n <;> simp [Instr.sameBits]⟩
  · simp only [Instr.sameNow, if_true]
    by_cases hab : a = b <;> simp [hab]
  · simp [Instr.checkKey, run_underlying h, Result.andThen]

theorem beq_ba (a b : List UInt8) : ((⟨a.toArray⟩ : ByteArray) == ⟨b.toArray⟩) = decide (a = b) := by
  show (a.toArray == b.toArray) = _
  rw [Bool.eq_iff_iff]; simp

def strV (l : List UInt8) : Value := .string ⟨l.toArray⟩

theorem string_keyOf {P : Program} {K : TypeId} (h : P.underlying K = some .string) : KeyOf P K strV := by
  refine ⟨⟨_, h, fun a b => ?_, fun e n w a => ?_⟩, fun n a => by cases n <;> simp [Instr.sameBits, strV, beq_ba]⟩
  · simp only [Instr.sameNow, strV]
    rw [beq_ba]
  · simp [Instr.checkKey, run_underlying h, Result.andThen]

section
variable {P : Program} {K : TypeId} {α : Type} [DecidableEq α] {mk : α → Value}

/-- what a key has -/
def getK (L : List (α × Value)) (a : α) : Option Value := (L.find? fun p => decide (p.1 = a)).map (·.2)

/-- a key is given a value -/
def putK : List (α × Value) → α → Value → List (α × Value)
  | [], a, v => [(a, v)]
  | p :: L, a, v => if p.1 = a then (a, v) :: L else p :: putK L a v

/-- a key goes -/
def delK (L : List (α × Value)) (a : α) : List (α × Value) := L.filter fun p => decide (p.1 ≠ a)

/-- block b is a map that holds just these -/
structure MapIs (w : World) (mk : α → Value) (b : Nat) (L : List (α × Value)) (es : Array MapEntry) (clock : Nat) : Prop where
  obj : w.heap[b]? = some (.map es clock)
  ents : es.toList.map (fun e => (e.key, e.val)) = L.map fun p => (mk p.1, p.2)
  keys : (L.map (·.1)).Nodup
  stamps : (es.toList.map (·.born)).Nodup
  young : ∀ e ∈ es.toList, e.born < clock

def MapAt (w : World) (mk : α → Value) (b : Nat) (L : List (α × Value)) : Prop := ∃ es clock, MapIs w mk b L es clock

omit [DecidableEq α] in
theorem MapAt.kept {w w' : World} {b : Nat} {L : List (α × Value)} (h : MapAt w mk b L) (hb : w'.heap[b]? = w.heap[b]?) : MapAt w' mk b L := by
  obtain ⟨es, c, h⟩ := h
  exact ⟨es, c, ⟨by rw [hb]; exact h.obj, h.ents, h.keys, h.stamps, h.young⟩⟩

omit [DecidableEq α] in
theorem MapAt.lt {w : World} {b : Nat} {L : List (α × Value)} (h : MapAt w mk b L) : b < w.heap.size := by
  obtain ⟨es, c, h⟩ := h
  exact (Array.getElem?_eq_some_iff.1 h.obj).1

omit [DecidableEq α] in
theorem MapAt.made (w : World) : MapAt (α := α) (w.alloc (.map #[] 0)) mk w.heap.size [] :=
  ⟨#[], 0, ⟨heap_alloc_new _ _, rfl, by simp, by simp, by simp⟩⟩

/-- where a key is found -/
theorem findNow_eq {d : TypeDesc} (hd : ∀ a b, Instr.sameNow d (mk a) (mk b) = some (decide (a = b))) (a : α) :
    ∀ (es : List MapEntry) (L : List (α × Value)) (i : Nat), es.map (fun e => (e.key, e.val)) = L.map (fun p => (mk p.1, p.2)) →
      Instr.findNow d (mk a) es i = some ((L.findIdx? fun p => decide (p.1 = a)).bind fun j => (L[j]?).map fun p => (i + j, p.2))
  | [], [], _, _ => rfl
  | [], _ :: _, _, h => by simp at h
  | _ :: _, [], _, h => by simp at h
  | e :: es, p :: L, i, h => by
    simp only [List.map_cons, List.cons.injEq, Prod.mk.injEq] at h
    rw [Instr.findNow, h.1.1, hd]
    by_cases hp : p.1 = a
    · have h1 : decide (a = p.1) = true := by simp [hp]
      have h2 : decide (p.1 = a) = true := by simp [hp]
      rw [h1]
      simp [List.findIdx?_cons, h2, h.1.2]
    · have h1 : decide (a = p.1) = false := by simp; exact fun e => hp e.symm
      have h2 : decide (p.1 = a) = false := by simp [hp]
      rw [h1]
      simp only []
      rw [findNow_eq hd a es L (i + 1) h.2]
      simp only [List.findIdx?_cons, h2]
      cases L.findIdx? fun p => decide (p.1 = a) with
      | none => simp
      | some j => simp [Nat.add_comm, Nat.add_left_comm]

theorem getK_eq (L : List (α × Value)) (a : α) : getK L a = (L.findIdx? fun p => decide (p.1 = a)).bind fun j => (L[j]?).map (·.2) := by
  unfold getK
  induction L with
  | nil => rfl
  | cons p L ih =>
    by_cases hp : p.1 = a
    · simp [List.findIdx?_cons, hp]
    · simp only [List.find?_cons, List.findIdx?_cons, hp, decide_false]
      rw [ih]
      cases L.findIdx? fun p => decide (p.1 = a) <;> simp


theorem run_findKey (KO : KeyOf P K mk) {es : List MapEntry} {L : List (α × Value)} (h : es.map (fun e => (e.key, e.val)) = L.map fun p => (mk p.1, p.2)) (a : α) (w : World) :
    (Instr.findKey K (mk a) es).run P w = .ok ((L.findIdx? fun p => decide (p.1 = a)).bind fun j => (L[j]?).map fun p => (j, p.2)) w := by
  obtain ⟨d, hd, hs, _⟩ := KO.plain
  have := findNow_eq hs a es L 0 h
  simp only [Nat.zero_add] at this
  simp [Instr.findKey, run_underlying hd, this, Result.andThen]

/-- m[k], and v, ok := m[k] -/
theorem run_look (KO : KeyOf P K mk) {T E : TypeId} (hT : P.underlying T = some (.map K E)) {w : World} {b : Nat} {L : List (α × Value)} (h : MapAt w mk b L) {z : Value} (hz : (zeroValue E).run P w = .ok z w) (a : α) (c : Bool) :
    (Instr.lookup T (.map (some b)) (mk a) c).run P w = .ok (if c then .tuple #[(getK L a).getD z, .bool (getK L a).isSome] else (getK L a).getD z) w := by
  obtain ⟨es, clock, h⟩ := h
  obtain ⟨d, hd, hs, hck⟩ := KO.plain
  have hf := run_findKey KO h.ents a w
  rw [getK_eq]
  have hg := MapKept.run_getObj_map (P := P) h.obj
  have hc := hck es.isEmpty 9999 w a
  simp only [Instr.lookup, Sem.run_bind, run_underlying hT, hg, Result.andThen_ok, Sem.run_pure, hc, hf]
  cases hj : L.findIdx? fun p => decide (p.1 = a) with
  | none => cases c <;> simp [hz, Result.andThen]
  | some j =>
    obtain ⟨hj', _⟩ := List.findIdx?_eq_some_iff_getElem.1 hj
    cases c <;> simp [List.getElem?_eq_getElem hj']

theorem run_look_nil (KO : KeyOf P K mk) {T E : TypeId} (hT : P.underlying T = some (.map K E)) {w : World} {z : Value} (hz : (zeroValue E).run P w = .ok z w) (a : α) (c : Bool) :
    (Instr.lookup T (.map none) (mk a) c).run P w = .ok (if c then .tuple #[z, .bool false] else z) w := by
  obtain ⟨d, hd, hs, hck⟩ := KO.plain
  have hf := run_findKey KO (es := []) (L := []) rfl a w
  have hc := hck true 9999 w a
  simp only [Instr.lookup, Sem.run_bind, run_underlying hT, Result.andThen_ok, Sem.run_pure]
  simp only [show (#[] : Array MapEntry).isEmpty = true from rfl, hc, Result.andThen_ok]
  cases c <;> simp [hz, hf, Result.andThen]

theorem mem_putK_keys {L : List (α × Value)} {a : α} {v : Value} {x : α} : x ∈ (putK L a v).map (·.1) ↔ x ∈ L.map (·.1) ∨ x = a := by
  induction L with
  | nil => simp [putK]
  | cons p L ih =>
    unfold putK
    split
    · rename_i hp
      subst hp
      simp only [List.map_cons, List.mem_cons]
      constructor
      · rintro (h | h)
        · exact .inr h
        · exact .inl (.inr h)
      · rintro ((h | h) | h)
        · exact .inl h
        · exact .inr h
        · exact .inl h
    · simp only [List.map_cons, List.mem_cons, ih]
      constructor
      · rintro (h | h | h)
        · exact .inl (.inl h)
        · exact .inl (.inr h)
        · exact .inr h
      · rintro ((h | h) | h)
        · exact .inl h
        · exact .inr (.inl h)
        · exact .inr (.inr h)

theorem nodup_putK {L : List (α × Value)} (h : (L.map (·.1)).Nodup) (a : α) (v : Value) : ((putK L a v).map (·.1)).Nodup := by
  induction L with
  | nil => simp [putK]
  | cons p L ih =>
    simp only [List.map_cons, List.nodup_cons] at h
    unfold putK
    split
    · rename_i hp
      subst hp
      simpa using h
    · rename_i hp
      simp only [List.map_cons, List.nodup_cons]
      refine ⟨fun hm => ?_, ih h.2⟩
      rcases mem_putK_keys.1 hm with hm | hm
      · exact h.1 hm
      · exact hp hm

theorem putK_new {L : List (α × Value)} {a : α} (h : L.findIdx? (fun p => decide (p.1 = a)) = none) (v : Value) : putK L a v = L ++ [(a, v)] := by
  induction L with
  | nil => rfl
  | cons p L ih =>
    by_cases hp : p.1 = a
    · simp [List.findIdx?_cons, hp] at h
    · simp only [List.findIdx?_cons, hp, decide_false] at h
      simp only [putK, hp, if_false, List.cons_append]
      rw [ih (by simpa using h)]

theorem putK_old {L : List (α × Value)} {a : α} {j : Nat} (h : L.findIdx? (fun p => decide (p.1 = a)) = some j) (v : Value) : putK L a v = L.set j (a, v) := by
  induction L generalizing j with
  | nil => simp at h
  | cons p L ih =>
    by_cases hp : p.1 = a
    · simp [List.findIdx?_cons, hp] at h
      subst h
      simp [putK, hp]
    · simp only [List.findIdx?_cons, hp, decide_false] at h
      simp only [putK, hp, if_false]
      cases hj : L.findIdx? fun p => decide (p.1 = a) with
      | none => rw [hj] at h; simp at h
      | some i =>
        rw [hj] at h
        simp at h
        subst h
        rw [ih hj]
        rfl

theorem grownBy_setBlock {w : World} {b : Nat} {es : Array MapEntry} {clock : Nat} (h : w.heap[b]? = some (.map es clock)) (o : Obj) : w.grownBy (setBlock w b o) (some b) :=
  ⟨rfl, rfl, rfl, by simp [setBlock], fun k _ hne => heap_setBlock_other h o (fun e => hne (by rw [e]))⟩

/-- m[k] = v -/
theorem run_put (KO : KeyOf P K mk) {T E : TypeId} (hT : P.underlying T = some (.map K E)) {w : World} {b : Nat} {L : List (α × Value)} (h : MapAt w mk b L) (a : α) (v : Value) :
    ∃ w', (Instr.mapUpdate T (.map (some b)) (mk a) v).run P w = .ok () w' ∧ MapAt w' mk b (putK L a v) ∧ w.grownBy w' (some b) ∧ w'.heap.size = w.heap.size := by
  obtain ⟨es, clock, h⟩ := h
  obtain ⟨d, hd, hs, hck⟩ := KO.plain
  have hf := run_findKey KO h.ents a w
  have hg := MapKept.run_getObj_map (P := P) h.obj
  have hc := hck false 9999 w a
  have hlen : es.size = L.length := by have := congrArg List.length h.ents; simpa using this
  cases hj : L.findIdx? fun p => decide (p.1 = a) with
  | none =>
    rw [hj] at hf
    refine ⟨setBlock w b (.map (es.push { key := mk a, val := v, born := clock }) (clock + 1)), ?_, ⟨_, _, ⟨heap_setBlock_same h.obj _, ?_, nodup_putK h.keys a v, ?_, ?_⟩⟩, grownBy_setBlock h.obj _, by simp [setBlock]⟩
    · simp only [Option.bind_none] at hf
      simp only [Instr.mapUpdate, Sem.run_bind, run_underlying hT, hg, Result.andThen_ok, hc, hf, MapKept.run_setObj_map _ h.obj]
      rfl
    · rw [putK_new hj]; simp [h.ents]
    · simp only [Array.toList_push, List.map_append, List.map_cons, List.map_nil]
      rw [List.nodup_append]
      refine ⟨h.stamps, by simp, fun x hx y hy => ?_⟩
      simp only [List.mem_singleton] at hy
      subst hy
      obtain ⟨e, he, rfl⟩ := List.mem_map.1 hx
      have := h.young e he
      omega
    · intro e he
      rw [Array.toList_push, List.mem_append] at he
      rcases he with he | he
      · have := h.young e he; omega
      · simp at he; subst he; simp
  | some j =>
    obtain ⟨hj', hja, _⟩ := List.findIdx?_eq_some_iff_getElem.1 hj
    rw [hj] at hf
    simp only [Option.bind_some, List.getElem?_eq_getElem hj', Option.map_some] at hf
    have hjs : j < es.size := by omega
    have hkey : es[j].key = mk a := by
      have e1 := congrArg (fun l => l[j]?) h.ents
      simp [List.getElem?_eq_getElem hj', hjs] at e1
      have : L[j].1 = a := by simpa using hja
      rw [e1.1, this]
    refine ⟨setBlock w b (.map (es.modify j fun e => { e with key := mk a, val := v }) clock), ?_, ⟨_, _, ⟨heap_setBlock_same h.obj _, ?_, nodup_putK h.keys a v, ?_, ?_⟩⟩, grownBy_setBlock h.obj _, by simp [setBlock]⟩
    · have hst : (Instr.keyThatStays (((es[j]?).map (·.key)).getD (mk a)) (mk a)).run P w = .ok (mk a) w := by
        simp [Instr.keyThatStays, Array.getElem?_eq_getElem hjs, hkey, KO.bits]
      simp only [Instr.mapUpdate, Sem.run_bind, run_underlying hT, hg, Result.andThen_ok, hc, hf, hst, MapKept.run_setObj_map _ h.obj]
      rfl
    · rw [putK_old hj, List.map_set, ← h.ents]
      refine List.ext_getElem? fun i => ?_
      simp only [List.getElem?_map, Array.getElem?_toList, Array.getElem?_modify, List.getElem?_set]
      by_cases hij : j = i
      · subst hij; simp [hjs]
      · simp [hij]
    · have e1 : (es.modify j fun e => { e with key := mk a, val := v }).toList.map (·.born) = es.toList.map (·.born) := by
        refine List.ext_getElem? fun i => ?_
        simp only [List.getElem?_map, Array.getElem?_toList, Array.getElem?_modify]
        by_cases hij : j = i
        · subst hij; simp [Array.getElem?_eq_getElem hjs]
        · simp [hij]
      rw [e1]; exact h.stamps
    · intro e he
      obtain ⟨i, hi, rfl⟩ := List.mem_iff_getElem.1 he
      simp only [Array.length_toList, Array.size_modify] at hi
      simp only [Array.getElem_toList, Array.getElem_modify]
      have := h.young es[i] (by simp)
      split <;> exact this

theorem getK_put (L : List (α × Value)) (a : α) (v : Value) (x : α) : getK (putK L a v) x = if x = a then some v else getK L x := by
  induction L with
  | nil =>
    by_cases h : x = a
    · simp [putK, getK, h]
    · have : decide (a = x) = false := by simp; exact fun e => h e.symm
      simp [putK, getK, this, h]
  | cons p L ih =>
    unfold putK
    by_cases hp : p.1 = a
    · rw [if_pos hp]
      by_cases h : x = a
      · simp [getK, h]
      · have h1 : decide (a = x) = false := by simp; exact fun e => h e.symm
        have h2 : decide (p.1 = x) = false := by rw [hp]; exact h1
        simp [getK, h1, h2, h]
    · rw [if_neg hp]
      by_cases hx : p.1 = x
      · have h : x ≠ a := fun e => hp (by rw [hx, e])
        simp [getK, hx, h]
      · have h2 : decide (p.1 = x) = false := by simp [hx]
        unfold getK at ih ⊢
        simp only [List.find?_cons, h2]
        exact ih

end

end Go.Proofs.YtfmlhdikagogcaaDoor

namespace Go.Proofs.YtfmlhdikagogcaaDoor
open Go.RowKit Go.ChangeMaps
set_option maxRecDepth 20000

section
variable {P : Program} {K : TypeId} {α : Type} [DecidableEq α] {mk : α → Value}

/-- block r is an iterator over the map b, which holds L; R is still to come -/
def IterAt (w : World) (mk : α → Value) (b r : Nat) (L R : List (α × Value)) : Prop :=
  ∃ es clock seen, MapIs w mk b L es clock ∧ w.heap[r]? = some (.mapIter (some b) clock seen clock) ∧
    (es.toList.filter fun e => !seen.contains e.born).map (fun e => (e.key, e.val)) = R.map fun p => (mk p.1, p.2)

/-- the iterator r stands at this entry of the map b -/
def EntryAt (w : World) (b r : Nat) (k v : Value) : Prop :=
  ∃ es clock since seen stamp, w.heap[b]? = some (.map es clock) ∧ w.heap[r]? = some (.mapIter (some b) since seen clock) ∧ seen.back? = some stamp ∧
    (es.find? (·.born == stamp)).map (fun e => (e.key, e.val)) = some (k, v)

omit [DecidableEq α] in
theorem IterAt.map {w : World} {b r : Nat} {L R : List (α × Value)} (h : IterAt w mk b r L R) : MapAt w mk b L := let ⟨es, c, _, h, _⟩ := h; ⟨es, c, h⟩

omit [DecidableEq α] in
theorem IterAt.ne {w : World} {b r : Nat} {L R : List (α × Value)} (h : IterAt w mk b r L R) : r ≠ b := by
  obtain ⟨es, c, s, h1, h2, _⟩ := h
  rintro rfl
  rw [h1.obj] at h2
  cases h2

omit [DecidableEq α] in
theorem IterAt.lt {w : World} {b r : Nat} {L R : List (α × Value)} (h : IterAt w mk b r L R) : r < w.heap.size := by
  obtain ⟨es, c, s, h1, h2, _⟩ := h
  exact (Array.getElem?_eq_some_iff.1 h2).1

omit [DecidableEq α] in
theorem IterAt.kept {w w' : World} {b r : Nat} {L R : List (α × Value)} (h : IterAt w mk b r L R) (hb : w'.heap[b]? = w.heap[b]?) (hr : w'.heap[r]? = w.heap[r]?) : IterAt w' mk b r L R := by
  obtain ⟨es, c, s, h1, h2, h3⟩ := h
  exact ⟨es, c, s, ⟨by rw [hb]; exact h1.obj, h1.ents, h1.keys, h1.stamps, h1.young⟩, by rw [hr]; exact h2, h3⟩

theorem EntryAt.kept {w w' : World} {b r : Nat} {k v : Value} (h : EntryAt w b r k v) (hb : w'.heap[b]? = w.heap[b]?) (hr : w'.heap[r]? = w.heap[r]?) : EntryAt w' b r k v := by
  obtain ⟨es, c, si, s, st, h1, h2, h3, h4⟩ := h
  exact ⟨es, c, si, s, st, by rw [hb]; exact h1, by rw [hr]; exact h2, h3, h4⟩

omit [DecidableEq α] in
theorem run_range {T E : TypeId} (hT : P.underlying T = some (.map K E)) {w : World} {b : Nat} {L : List (α × Value)} (h : MapAt w mk b L) :
    ∃ w', (Instr.range T (.map (some b))).run P w = .ok (.pointer (some ⟨w.heap.size, 0, none⟩)) w' ∧ IterAt w' mk b w.heap.size L L ∧ w.grownBy w' none ∧ w'.heap.size = w.heap.size + 1 := by
  have hlt := h.lt
  obtain ⟨es, clock, h⟩ := h
  refine ⟨w.alloc (.mapIter (some b) clock #[] clock), ?_, ⟨es, clock, #[], ⟨?_, h.ents, h.keys, h.stamps, h.young⟩, heap_alloc_new _ _, ?_⟩, World.grownBy_alloc _ _ _, by simp⟩
  · simp [Instr.range, run_underlying hT, MapKept.run_getObj_map h.obj, Result.andThen]
  · rw [heap_alloc_old _ _ hlt]; exact h.obj
  · rw [← h.ents]
    congr 1
    rw [List.filter_eq_self]
    intro e _; simp

omit [DecidableEq α] in
theorem run_next_over {w : World} {b r : Nat} {L : List (α × Value)} (h : IterAt w mk b r L []) (ty : TypeId) :
    (Instr.next (.pointer (some ⟨r, 0, none⟩)) false ty).run P w = .ok (.tuple #[.bool false]) w := by
  obtain ⟨es, clock, seen, h1, h2, h3⟩ := h
  have hnil : es.toList.filter (fun e => !seen.contains e.born) = [] := by simpa using h3
  have hnil' : es.filter (fun e => !seen.contains e.born) = #[] := by
    rw [← Array.toList_inj, Array.toList_filter, hnil]
  have hg : (getObj r).run P w = .ok (.mapIter (some b) clock seen clock) w := by simp [getObj, Sem.run, h2]
  have hall : (!seen.isEmpty && !es.isEmpty && es.all (fun e => decide (e.born ≥ clock))) = false := by
    cases hes : es.isEmpty
    · have : es.all (fun e => decide (e.born ≥ clock)) = false := by
        rw [Bool.eq_false_iff]
        intro ht
        have hpos : 0 < es.size := by
          rcases Nat.eq_zero_or_pos es.size with h0 | h0
          · simp [Array.eq_empty_of_size_eq_zero h0] at hes
          · exact h0
        rw [Array.all_eq_true] at ht
        have := ht 0 hpos
        have := h1.young es[0] (by simp)
        simp at *
        omega
      simp [this]
    · simp
  simp only [Instr.next, Sem.run_bind, hg, Result.andThen_ok, MapKept.run_getObj_map h1.obj, hall, hnil']
  simp [choose, Sem.run, Question.forced, Result.andThen]

theorem split_of_map {α β γ : Type} {f : α → γ} {g : β → γ} : ∀ {l1 : List α} {x : α} {l2 : List α} {R : List β}, (l1 ++ x :: l2).map f = R.map g →
    ∃ R1 y R2, R = R1 ++ y :: R2 ∧ l1.map f = R1.map g ∧ f x = g y ∧ l2.map f = R2.map g
  | [], x, l2, R, h => by
    cases R with
    | nil => simp at h
    | cons y R => simp only [List.nil_append, List.map_cons, List.cons.injEq] at h; exact ⟨[], y, R, rfl, rfl, h.1, h.2⟩
  | z :: l1, x, l2, R, h => by
    cases R with
    | nil => simp at h
    | cons y R =>
      simp only [List.cons_append, List.map_cons, List.cons.injEq] at h
      obtain ⟨R1, y', R2, rfl, h1, h2, h3⟩ := split_of_map h.2
      exact ⟨y :: R1, y', R2, rfl, by simp [h.1, h1], h2, h3⟩

theorem filter_strike {es : List MapEntry} (hn : (es.map (·.born)).Nodup) {seen : Array Nat} {l1 l2 : List MapEntry} {e : MapEntry} (h : es.filter (fun e => !seen.contains e.born) = l1 ++ e :: l2) :
    es.filter (fun x => !(seen.push e.born).contains x.born) = l1 ++ l2 := by
  have h1 : es.filter (fun x => !(seen.push e.born).contains x.born) = (es.filter (fun e => !seen.contains e.born)).filter (fun x => decide (x.born ≠ e.born)) := by
    rw [List.filter_filter]
    congr 1
    funext x
    simp only [Array.contains_push, Bool.not_or, ne_eq, decide_not]
    rw [Bool.and_comm]
    congr 2
  rw [h1, h]
  have hsub : ((l1 ++ e :: l2).map (·.born)).Nodup := by
    rw [← h]
    exact hn.sublist (List.filter_sublist.map _)
  rw [List.map_append, List.map_cons, List.nodup_append, List.nodup_cons] at hsub
  obtain ⟨_, ⟨h3, _⟩, h4⟩ := hsub
  rw [List.filter_append, List.filter_cons]
  simp only [ne_eq, not_true_eq_false, decide_false, Bool.false_eq_true, if_false]
  congr 1
  · rw [List.filter_eq_self]
    intro x hx
    simp only [decide_eq_true_eq]
    exact h4 x.born (List.mem_map.2 ⟨x, hx, rfl⟩) e.born (by simp)
  · rw [List.filter_eq_self]
    intro x hx
    simp only [decide_eq_true_eq]
    intro he
    exact h3 (List.mem_map.2 ⟨x, hx, he⟩)

omit [DecidableEq α] in
theorem run_next_some {w : World} {b r : Nat} {L R : List (α × Value)} (h : IterAt w mk b r L R) (hR : R ≠ []) :
    ∃ w' R1 a v R2, (∀ ty, (Instr.next (.pointer (some ⟨r, 0, none⟩)) false ty).run P w = .ok (.tuple #[.bool true, mk a, v]) w') ∧ R = R1 ++ (a, v) :: R2 ∧
      IterAt w' mk b r L (R1 ++ R2) ∧ EntryAt w' b r (mk a) v ∧ w.grownBy w' (some r) ∧ w'.heap.size = w.heap.size := by
  have hne := h.ne
  have hrlt := h.lt
  obtain ⟨es, clock, seen, h1, h2, h3⟩ := h
  have hg : (getObj r).run P w = .ok (.mapIter (some b) clock seen clock) w := by simp [getObj, Sem.run, h2]
  generalize hleft : es.filter (fun e => !seen.contains e.born) = left
  have hleft' : left.toList = es.toList.filter (fun e => !seen.contains e.born) := by rw [← hleft, Array.toList_filter]
  rw [← hleft'] at h3
  have hlen : left.size = R.length := by have := congrArg List.length h3; simpa using this
  have hpos : 0 < left.size := by
    rw [hlen]; exact List.length_pos_iff.2 hR
  have hmem : ∀ e ∈ left.toList, e ∈ es.toList := fun e he => by rw [hleft'] at he; exact (List.mem_filter.1 he).1
  have hold : left.filter (fun e => decide (e.born < clock)) = left := by
    rw [Array.filter_eq_self]
    intro e he
    simpa using h1.young e (hmem e (by simpa using he))
  have hnew : left.filter (fun e => decide (e.born ≥ clock)) = #[] := by
    rw [Array.filter_eq_empty_iff]
    intro e he
    have := h1.young e (hmem e (by simpa using he))
    simp; omega
  have hnem : left.isEmpty = false := by
    rw [Bool.eq_false_iff]; intro he; rw [Array.isEmpty_iff] at he; simp [he] at hpos
  have hall : (!seen.isEmpty && !es.isEmpty && es.all (fun e => decide (e.born ≥ clock))) = false := by
    have hes : 0 < es.size := by
      have := hmem left[0] (by simp)
      rcases Nat.eq_zero_or_pos es.size with h0 | h0
      · simp [Array.eq_empty_of_size_eq_zero h0] at this
      · exact h0
    have : es.all (fun e => decide (e.born ≥ clock)) = false := by
      rw [Bool.eq_false_iff]
      intro ht
      rw [Array.all_eq_true] at ht
      have := ht 0 hes
      have := h1.young es[0] (by simp)
      simp at *
      omega
    simp [this]
  -- which one is drawn
  have hpick : ∃ i w1, i < left.size ∧ (choose (.mapNext left.size)).run P w = .ok i w1 ∧ w1.heap = w.heap ∧ w1.os = w.os ∧ w1.tape = w.tape ∧ w1.output = w.output := by
    by_cases hf : left.size ≤ 1
    · exact ⟨0, w, hpos, by simp [choose, Sem.run, Question.forced, hf], rfl, rfl, rfl, rfl⟩
    · exact ⟨w.tape w.drawn (.mapNext left.size) % left.size, { w with drawn := w.drawn + 1 }, Nat.mod_lt _ hpos, by simp [choose, Sem.run, Question.forced, hf, Question.cut], rfl, rfl, rfl, rfl⟩
  obtain ⟨i, w1, hi, hch, e1, e2, e3, e4⟩ := hpick
  have hsplit : left.toList = left.toList.take i ++ left[i] :: left.toList.drop (i + 1) := by
    have := List.drop_eq_getElem_cons (l := left.toList) (i := i) (by simpa using hi)
    simp only [Array.getElem_toList] at this
    rw [← this]
    exact (List.take_append_drop i _).symm
  rw [hsplit] at h3
  obtain ⟨R1, ⟨a, v⟩, R2, rfl, r1, r2, r3⟩ := split_of_map h3
  simp only [Prod.mk.injEq] at r2
  have hobj : w1.heap[r]? = some (.mapIter (some b) clock seen clock) := by rw [e1]; exact h2
  have hset : (setObj r (.mapIter (some b) clock (seen.push left[i].born) clock)).run P w1 = .ok () (setBlock w1 r (.mapIter (some b) clock (seen.push left[i].born) clock)) := by
    simp [setObj, Sem.run, hobj, setBlock]
  have hr' : (setBlock w1 r (.mapIter (some b) clock (seen.push left[i].born) clock)).heap[r]? = some (.mapIter (some b) clock (seen.push left[i].born) clock) := by
    have : r < w1.heap.size := by rw [e1]; exact hrlt
    simp [setBlock, this]
  have ho : ∀ k, k ≠ r → (setBlock w1 r (.mapIter (some b) clock (seen.push left[i].born) clock)).heap[k]? = w.heap[k]? := by
    intro k hk
    simp only [setBlock]
    rw [Array.getElem?_setIfInBounds_ne (Ne.symm hk), e1]
  have hb' := ho b (Ne.symm hne)
  refine ⟨setBlock w1 r (.mapIter (some b) clock (seen.push left[i].born) clock), R1, a, v, R2, ?_, rfl, ⟨es, clock, seen.push left[i].born, ⟨by rw [hb']; exact h1.obj, h1.ents, h1.keys, h1.stamps, h1.young⟩, hr', ?_⟩, ⟨es, clock, clock, _, left[i].born, by rw [hb']; exact h1.obj, hr', by simp, ?_⟩,
    ⟨by simp [setBlock, e2], by simp [setBlock, e3], by simp [setBlock, e4], by simp [setBlock, e1], fun k _ hk => ho k fun e => hk (by rw [e])⟩, by simp [setBlock, e1]⟩
  · intro ty
    simp only [Instr.next, Sem.run_bind, hg, Result.andThen_ok, MapKept.run_getObj_map h1.obj, hall, hleft, hold, hnew, hnem, Bool.false_eq_true, if_false, Array.append_empty, Array.empty_append, Array.size_map, hch,
      Array.getElem?_map, Array.getElem?_eq_getElem hi, Option.map_some, hset, Sem.run_pure, r2.1, r2.2]
  · have hfs := filter_strike h1.stamps (hleft'.symm.trans hsplit)
    rw [hfs, List.map_append, r1, r3, List.map_append]
  · have hin : left[i] ∈ es.toList := hmem _ (by simp)
    obtain ⟨j, hj, hje⟩ := List.mem_iff_getElem.1 hin
    have hfind : es.find? (fun e => e.born == left[i].born) = some left[i] := by
      rw [← Array.find?_toList]
      rw [List.find?_eq_some_iff_getElem]
      refine ⟨by simp, j, hj, hje, fun k hk => ?_⟩
      simp only [Bool.not_eq_true', beq_eq_false_iff_ne]
      intro hb
      have hjs : j < es.size := by simpa using hj
      have hks : k < (es.toList.map (·.born)).length := by simp; omega
      have hnd := (List.pairwise_iff_getElem.1 h1.stamps) k j hks (by simpa using hj) hk
      simp only [List.getElem_map] at hnd
      exact hnd (by rw [hb, hje])
    rw [hfind]
    simp [r2.1, r2.2]

theorem run_entry {w : World} {b r : Nat} {k v : Value} (h : EntryAt w b r k v) : (Instr.entry (.pointer (some ⟨r, 0, none⟩))).run P w = .ok (.tuple #[k, v]) w := by
  obtain ⟨es, clock, since, seen, stamp, h1, h2, h3, h4⟩ := h
  have hg : (getObj r).run P w = .ok (.mapIter (some b) since seen clock) w := by simp [getObj, Sem.run, h2]
  obtain ⟨e, he, hkv⟩ := Option.map_eq_some_iff.1 h4
  simp only [Prod.mk.injEq] at hkv
  simp [Instr.entry, hg, MapKept.run_getObj_map h1, h3, he, hkv.1, hkv.2, Result.andThen]

omit [DecidableEq α] in
theorem run_len {T E : TypeId} (hT : P.underlying T = some (.map K E)) {w : World} {b : Nat} {L : List (α × Value)} (h : MapAt w mk b L) (ty : TypeId) :
    (Builtin.len_ #[T] ty #[.map (some b)]).run P w = .ok (.int .i64 L.length) w := by
  obtain ⟨es, clock, h⟩ := h
  have hlen : es.size = L.length := by have := congrArg List.length h.ents; simpa using this
  simp [Builtin.len_, run_underlying hT, MapKept.run_getObj_map h.obj, Result.andThen, hlen, goInt]

theorem delK_none {L : List (α × Value)} {a : α} (h : L.findIdx? (fun p => decide (p.1 = a)) = none) : delK L a = L := by
  unfold delK
  rw [List.filter_eq_self]
  intro p hp
  have := (List.findIdx?_eq_none_iff.1 h) p hp
  simpa using this

theorem delK_some {L : List (α × Value)} (hn : (L.map (·.1)).Nodup) {a : α} {j : Nat} (h : L.findIdx? (fun p => decide (p.1 = a)) = some j) : delK L a = L.eraseIdx j := by
  induction L generalizing j with
  | nil => simp at h
  | cons p L ih =>
    simp only [List.map_cons, List.nodup_cons] at hn
    by_cases hp : p.1 = a
    · simp [List.findIdx?_cons, hp] at h
      subst h
      have : L.findIdx? (fun p => decide (p.1 = a)) = none := by
        rw [List.findIdx?_eq_none_iff]
        intro q hq
        simp only [decide_eq_false_iff_not]
        intro e
        exact hn.1 (List.mem_map.2 ⟨q, hq, by rw [e, hp]⟩)
      have h2 := delK_none this
      unfold delK at h2 ⊢
      rw [List.filter_cons, if_neg (by simp [hp]), h2]
      rfl
    · simp only [List.findIdx?_cons, hp, decide_false] at h
      cases hj : L.findIdx? fun p => decide (p.1 = a) with
      | none => rw [hj] at h; simp at h
      | some i =>
        rw [hj] at h
        simp at h
        subst h
        have h2 := ih hn.2 hj
        unfold delK at h2 ⊢
        rw [List.filter_cons, if_pos (by simp [hp]), h2]
        rfl

theorem run_del (KO : KeyOf P K mk) {T E : TypeId} (hT : P.underlying T = some (.map K E)) {w : World} {b : Nat} {L : List (α × Value)} (h : MapAt w mk b L) (a : α) :
    ∃ w', (∀ ty, (Builtin.delete_ #[T, K] ty #[.map (some b), mk a]).run P w = .ok (.tuple #[]) w') ∧ MapAt w' mk b (delK L a) ∧ w.grownBy w' (some b) ∧ w'.heap.size = w.heap.size := by
  obtain ⟨es, clock, h⟩ := h
  obtain ⟨d, hd, hs, hck⟩ := KO.plain
  have hf := run_findKey KO h.ents a w
  have hg := MapKept.run_getObj_map (P := P) h.obj
  have hc := hck es.isEmpty 9999 w a
  have hlen : es.size = L.length := by have := congrArg List.length h.ents; simpa using this
  cases hj : L.findIdx? fun p => decide (p.1 = a) with
  | none =>
    rw [hj] at hf
    simp only [Option.bind_none] at hf
    refine ⟨setBlock w b (.map es clock), ?_, ⟨_, _, ⟨heap_setBlock_same h.obj _, ?_, ?_, h.stamps, h.young⟩⟩, grownBy_setBlock h.obj _, by simp [setBlock]⟩
    · intro ty
      simp only [Builtin.delete_, Sem.run_bind, run_underlying hT, hg, Result.andThen_ok, List.getElem?_toArray, List.getElem?_cons_zero, List.getElem?_cons_succ, hc, hf, MapKept.run_setObj_map _ h.obj]
      rfl
    · rw [delK_none hj]; exact h.ents
    · rw [delK_none hj]; exact h.keys
  | some j =>
    obtain ⟨hj', hja, _⟩ := List.findIdx?_eq_some_iff_getElem.1 hj
    rw [hj] at hf
    simp only [Option.bind_some, List.getElem?_eq_getElem hj', Option.map_some] at hf
    refine ⟨setBlock w b (.map (es.eraseIdxIfInBounds j) clock), ?_, ⟨_, _, ⟨heap_setBlock_same h.obj _, ?_, ?_, ?_, ?_⟩⟩, grownBy_setBlock h.obj _, by simp [setBlock]⟩
    · intro ty
      simp only [Builtin.delete_, Sem.run_bind, run_underlying hT, hg, Result.andThen_ok, List.getElem?_toArray, List.getElem?_cons_zero, List.getElem?_cons_succ, hc, hf, MapKept.run_setObj_map _ h.obj]
      rfl
    · rw [delK_some h.keys hj, Array.toList_eraseIdxIfInBounds, map_eraseIdx, map_eraseIdx, h.ents]
    · rw [delK_some h.keys hj, map_eraseIdx]; exact h.keys.sublist (List.eraseIdx_sublist _ _)
    · rw [Array.toList_eraseIdxIfInBounds, map_eraseIdx]; exact h.stamps.sublist (List.eraseIdx_sublist _ _)
    · intro e he
      rw [Array.toList_eraseIdxIfInBounds] at he
      exact h.young e (List.mem_of_mem_eraseIdx he)

theorem getK_del (L : List (α × Value)) (a x : α) : getK (delK L a) x = if x = a then none else getK L x := by
  induction L with
  | nil => simp [delK, getK]
  | cons p L ih =>
    unfold getK delK at *
    rw [List.filter_cons]
    by_cases hp : p.1 = a
    · rw [if_neg (by simp [hp]), ih]
      by_cases h : x = a
      · rw [if_pos h, if_pos h]
      · have : decide (p.1 = x) = false := by simp [hp]; exact fun e => h e.symm
        simp [h, this]
    · rw [if_pos (by simp [hp]), List.find?_cons]
      by_cases hx : p.1 = x
      · have h : x ≠ a := fun e => hp (by rw [hx, e])
        simp [hx, h]
      · simp only [hx, decide_false, List.find?_cons]
        exact ih

end

end Go.Proofs.YtfmlhdikagogcaaDoor

namespace Go.Proofs.YtfmlhdikagogcaaDoor
open Go.RowKit
set_option maxRecDepth 20000

/-- a piece of mail: to whom, and its note with its slices' values -/
structure Mv where
  who : Int
  note : Nt
  vp : Value
  vo : Value
  vv : Value
  vh : Value

def Mv.cells (m : Mv) : List Value := .int .i64 m.who :: (m.note.cells m.vp m.vo m.vv m.vh).toList

theorem Mv.cells_length (m : Mv) : m.cells.length = 17 := rfl

def flatM : List Mv → List Value
  | [] => []
  | r :: rs => r.cells ++ flatM rs

theorem flatM_length (rs : List Mv) : (flatM rs).length = rs.length * 17 := by
  induction rs with
  | nil => rfl
  | cons r rs ih => simp only [flatM, List.length_append, ih, Mv.cells_length, List.length_cons]; omega

theorem flatM_append (rs ss : List Mv) : flatM (rs ++ ss) = flatM rs ++ flatM ss := by
  induction rs with
  | nil => rfl
  | cons r rs ih => simp [flatM, ih]

theorem flatM_get (rs : List Mv) (i : Nat) (hi : i < rs.length) (j : Nat) (hj : j < 17) : (flatM rs)[i * 17 + j]? = rs[i].cells[j]? := by
  induction rs generalizing i with
  | nil => simp at hi
  | cons r rs ih =>
    cases i with
    | zero =>
      simp only [flatM, Nat.zero_mul, Nat.zero_add, List.getElem_cons_zero]
      rw [List.getElem?_append_left (by rw [Mv.cells_length]; exact hj)]
    | succ i =>
      simp only [flatM, List.getElem_cons_succ]
      rw [List.getElem?_append_right (by rw [Mv.cells_length]; omega), Mv.cells_length, show (i + 1) * 17 + j - 17 = i * 17 + j by omega]
      exact ih i (by simpa using hi)

theorem flatM_one {rs : List Mv} (h : ∀ r ∈ rs, r.vp.oneCell' = true ∧ r.vo.oneCell' = true ∧ r.vv.oneCell' = true ∧ r.vh.oneCell' = true) : ∀ u ∈ flatM rs, u.oneCell' = true := by
  induction rs with
  | nil => simp [flatM]
  | cons r rs ih =>
    intro u hu
    rcases List.mem_append.1 hu with hu | hu
    · obtain ⟨a, b, c, d⟩ := h r (by simp)
      simp only [Mv.cells, Nt.cells, List.mem_cons, List.not_mem_nil, or_false] at hu
      rcases hu with rfl | rfl | rfl | rfl | rfl | rfl | rfl | rfl | rfl | rfl | rfl | rfl | rfl | rfl | rfl | rfl | rfl <;> first | rfl | assumption
    · exact ih (fun r hr => h r (by simp [hr])) u hu

/-- a note whose slices are read from F -/
structure NoteM (w : World) (F : Nat → Prop) (n : Nt) (vp vo vv vh : Value) : Prop where
  read : NoteV w F n vp vo vv vh
  parts : LiesIn F vp n.parts.length
  vec : LiesIn F vv n.vec.length

theorem NoteM.agree {w w' : World} {F : Nat → Prop} {n : Nt} {vp vo vv vh : Value} (h : NoteM w F n vp vo vv vh) (ha : Agree F w w') : NoteM w' F n vp vo vv vh :=
  ⟨⟨h.read.parts.agree h.parts ha, h.read.ops.agree ha, h.read.vec.agree h.vec ha, h.read.hits.agree ha⟩, h.parts, h.vec⟩

theorem NoteM.mono {w : World} {F G : Nat → Prop} {n : Nt} {vp vo vv vh : Value} (h : NoteM w F n vp vo vv vh) (hs : ∀ k, F k → G k) : NoteM w G n vp vo vv vh :=
  ⟨⟨h.read.parts, h.read.ops.mono hs, h.read.vec, h.read.hits.mono hs⟩, h.parts.mono hs, h.vec.mono hs⟩

theorem NoteM.below {w w' : World} {F : Nat → Prop} {n : Nt} {vp vo vv vh : Value} (h : NoteM w F n vp vo vv vh) (hb : Below w.heap.size w w') : NoteM w' F n vp vo vv vh :=
  ⟨h.read.below hb, h.parts, h.vec⟩

theorem Nums.one {w : World} {k : IntKind} {v : Value} {xs : List Int} (h : Nums w k v xs) : v.oneCell' = true := by
  obtain ⟨p, q, rfl, -⟩ := h.slice; rfl

theorem NoteM.one {w : World} {F : Nat → Prop} {n : Nt} {vp vo vv vh : Value} (h : NoteM w F n vp vo vv vh) : vp.oneCell' = true ∧ vo.oneCell' = true ∧ vv.oneCell' = true ∧ vh.oneCell' = true := by
  refine ⟨h.read.parts.one, ?_, h.read.vec.one, ?_⟩
  · obtain ⟨p, q, rfl, -⟩ := id h.read.ops; rfl
  · obtain ⟨p, q, rfl, -⟩ := id h.read.hits; rfl

/-- rows of mail whose notes are read from F -/
def MailF (w : World) (F : Nat → Prop) (rs : List Mv) : Prop := ∀ r ∈ rs, NoteM w F r.note r.vp r.vo r.vv r.vh

theorem MailF.agree {w w' : World} {F : Nat → Prop} {rs : List Mv} (h : MailF w F rs) (ha : Agree F w w') : MailF w' F rs := fun r hr => (h r hr).agree ha
theorem MailF.mono {w : World} {F G : Nat → Prop} {rs : List Mv} (h : MailF w F rs) (hs : ∀ k, F k → G k) : MailF w G rs := fun r hr => (h r hr).mono hs
theorem MailF.below {w w' : World} {F : Nat → Prop} {rs : List Mv} (h : MailF w F rs) (hb : Below w.heap.size w w') : MailF w' F rs := fun r hr => (h r hr).below hb
theorem MailF.one {w : World} {F : Nat → Prop} {rs : List Mv} (h : MailF w F rs) : ∀ u ∈ flatM rs, u.oneCell' = true := flatM_one fun r hr => (h r hr).one

/-- what a row of mail says -/
def Mv.says (m : Mv) : Int × Nt := (m.who, m.note)

/-- a new row of mail: its notes are read from what is new, or from R -/
def NewMails (w : World) (e : Nat) (R : Nat → Prop) (l : List (Int × Nt)) (r : Ending) (w' : World) : Prop :=
  ∃ v rs, ∃ F : Nat → Prop, r = .returned v ∧ w'.ownsRow w.heap.size e 17 v rs.length (flatM rs) ∧ rs.map Mv.says = l ∧ MailF w' F rs ∧ (∀ k, F k → k < w'.heap.size ∧ v.ownBlock ≠ some k ∧ (w.heap.size ≤ k ∨ R k)) ∧ Below w.heap.size w w'

/-- one more is put to a row of mail -/
theorem mails_step {w wr w4 w5 : World} {F : Nat → Prop} {R : Nat → Prop} {B e B4 E : Nat} {rs : List Mv} {m : Mv} {v : Value} {g c : Nat} {o : Obj} (hown : wr.ownsRow B e 17 v rs.length (flatM rs)) (hB : B = w.heap.size) (hm : MailF wr F rs) (hF : ∀ k, F k → k < wr.heap.size ∧ v.ownBlock ≠ some k ∧ (w.heap.size ≤ k ∨ R k)) (hb : Below w.heap.size w wr)
    (hn : NoteM w4 (fun k => m.vv.ownBlock = some k) m.note m.vp m.vo m.vv m.vh) (hu : w4.ownsRow B4 E 1 m.vv m.note.vec.length (m.note.vec.map (Value.int .i32))) (hB4 : wr.heap.size ≤ B4) (hb4 : Below wr.heap.size wr w4)
    (hown5 : w5.ownsRow B e 17 (.slice (some ⟨g, 0, none⟩) (rs.length + 1) c) (rs.length + 1) (flatM rs ++ m.cells)) (hg5 : (w4.alloc o).grownBy w5 v.ownBlock) (hg : v.ownBlock = some g ∨ g = w4.heap.size + 1) (hgs : g < w5.heap.size) :
    ∃ F' : Nat → Prop, w5.ownsRow B e 17 (.slice (some ⟨g, 0, none⟩) (rs.length + 1) c) (rs ++ [m]).length (flatM (rs ++ [m])) ∧ MailF w5 F' (rs ++ [m]) ∧ (∀ k, F' k → k < w5.heap.size ∧ (Value.slice (some ⟨g, 0, none⟩) (rs.length + 1) c).ownBlock ≠ some k ∧ (w.heap.size ≤ k ∨ R k)) ∧ Below w.heap.size w w5 := by
  subst hB
  have hsz := hb.size
  have hsz4 := hb4.size
  have hb5 : Below w.heap.size w w5 := ((hb.trans (hb4.mono hsz)).alloc (by omega) o).grown hg5 (by simp; omega) (fun b hbk => (hown.lt b hbk).1)
  have hk : ∀ k, k < w4.heap.size → v.ownBlock ≠ some k → w5.heap[k]? = w4.heap[k]? := by
    intro k hk hne
    rw [hg5.block k (by simp; omega) (fun h => hne h.symm)]
    exact Below.heap_alloc w4 o k hk
  have hlt : ∀ k, m.vv.ownBlock = some k → B4 ≤ k ∧ k < w4.heap.size := fun k h => hu.lt k h
  have hne : ∀ k, m.vv.ownBlock = some k → v.ownBlock ≠ some k := fun k h h' => by have := (hlt k h).1; have := (hown.lt k h').2; omega
  have hs5 : w4.heap.size + 1 ≤ w5.heap.size := by have := hg5.size; simpa using this
  refine ⟨fun k => F k ∨ m.vv.ownBlock = some k, by rw [flatM_append]; simpa [flatM] using hown5, ?_, ?_, hb5⟩
  · intro r hr
    rcases List.mem_append.1 hr with hr | hr
    · refine NoteM.mono (F := F) ?_ fun k h => .inl h
      refine (hm r hr).agree fun k hk' => ?_
      obtain ⟨h1, h2, -⟩ := hF k hk'
      rw [hk k (by omega) h2]
      exact hb4.block k h1
    · rw [List.mem_singleton.1 hr]
      refine NoteM.mono (F := fun k => m.vv.ownBlock = some k) ?_ fun k h => .inr h
      exact hn.agree fun k hk' => hk k (hlt k hk').2 (hne k hk')
  · intro k hk'
    rcases hk' with hk' | hk'
    · obtain ⟨h1, h2, h3⟩ := hF k hk'
      refine ⟨by omega, ?_, h3⟩
      simp only [Value.ownBlock, ne_eq, Option.some.injEq]
      rintro rfl
      rcases hg with hg | hg
      · exact h2 hg
      · omega
    · obtain ⟨h1, h2⟩ := hlt k hk'
      refine ⟨by omega, ?_, .inl (by omega)⟩
      simp only [Value.ownBlock, ne_eq, Option.some.injEq]
      rintro rfl
      rcases hg with hg | hg
      · exact hne g hk' hg
      · omega

end Go.Proofs.YtfmlhdikagogcaaDoor

namespace Go.Proofs.YtfmlhdikagogcaaDoor
open Go.RowKit
set_option maxRecDepth 20000

/-- a question under way -/
structure Qs where
  note : Nt
  who : Int
  query : Int
  parts : List Int
  told : List (Int × List Hz)

def Qs.cells (q : Qs) (vp vo vv vh pv : Value) (mb : Nat) : List Value := (q.note.cells vp vo vv vh).toList ++ [.int .i64 q.who, .int .u64 q.query, pv, .map (some mb)]

/-- what is told, as it lies in a map -/
def ToldF (w : World) (R : Nat → Prop) (L : List (Int × Value)) (t : List (Int × List Hz)) : Prop :=
  L.length = t.length ∧ ∀ i (h1 : i < L.length) (h2 : i < t.length), L[i].1 = t[i].1 ∧ HitsF w R L[i].2 t[i].2

/-- has p told? -/
def hasTold (t : List (Int × List Hz)) (p : Int) : Bool := t.any fun x => x.1 == p

theorem ToldF.agree {w w' : World} {R : Nat → Prop} {L : List (Int × Value)} {t : List (Int × List Hz)} (h : ToldF w R L t) (ha : Agree R w w') : ToldF w' R L t :=
  ⟨h.1, fun i h1 h2 => ⟨(h.2 i h1 h2).1, (h.2 i h1 h2).2.agree ha⟩⟩

theorem ToldF.below {w w' : World} {R : Nat → Prop} {L : List (Int × Value)} {t : List (Int × List Hz)} (h : ToldF w R L t) (hb : Below w.heap.size w w') : ToldF w' R L t :=
  ⟨h.1, fun i h1 h2 => ⟨(h.2 i h1 h2).1, (h.2 i h1 h2).2.below hb⟩⟩

theorem ToldF.mono {w : World} {R G : Nat → Prop} {L : List (Int × Value)} {t : List (Int × List Hz)} (h : ToldF w R L t) (hs : ∀ k, R k → G k) : ToldF w G L t :=
  ⟨h.1, fun i h1 h2 => ⟨(h.2 i h1 h2).1, (h.2 i h1 h2).2.mono hs⟩⟩

theorem told_get {w : World} {R : Nat → Prop} {L : List (Int × Value)} {t : List (Int × List Hz)} (h : ToldF w R L t) (p : Int) :
    (hasTold t p = false ∧ getK L p = none) ∨ (hasTold t p = true ∧ ∃ v x, getK L p = some v ∧ x ∈ t ∧ x.1 = p ∧ (t.find? fun x => x.1 == p) = some x ∧ HitsF w R v x.2) := by
  obtain ⟨h1, h2⟩ := h
  induction L generalizing t with
  | nil =>
    cases t with
    | nil => exact .inl ⟨rfl, rfl⟩
    | cons y t => simp at h1
  | cons a L ih =>
    cases t with
    | nil => simp at h1
    | cons y t =>
      have h0 := h2 0 (by simp) (by simp)
      simp only [List.getElem_cons_zero] at h0
      by_cases hp : y.1 = p
      · right
        have ha : a.1 = p := h0.1.trans hp
        refine ⟨by simp [hasTold, hp], a.2, y, by simp [getK, ha], by simp, hp, by simp [hp], h0.2⟩
      · have ha : ¬ a.1 = p := fun e => hp (h0.1.symm.trans e)
        have := ih (t := t) (by simpa using h1) (fun i h3 h4 => by have := h2 (i + 1) (by simp; omega) (by simp; omega); simpa using this)
        rcases this with ⟨a1, a2⟩ | ⟨a1, v, x, a2, a3, a4, a5, a6⟩
        · left
          refine ⟨?_, ?_⟩
          · simp only [hasTold, List.any_cons] at a1 ⊢; rw [a1]; simp [hp]
          · unfold getK at a2 ⊢; rw [List.find?_cons_of_neg (by simpa using ha)]; exact a2
        · right
          refine ⟨?_, v, x, ?_, by simp [a3], a4, ?_, a6⟩
          · simp only [hasTold, List.any_cons] at a1 ⊢; rw [a1]; simp
          · unfold getK at a2 ⊢; rw [List.find?_cons_of_neg (by simpa using ha)]; exact a2
          · rw [List.find?_cons_of_neg (by simpa using hp)]; exact a5

/-- a question as it lies: at b; what was told at mb; all else is read from R -/
structure QAt (w : World) (R : Nat → Prop) (b mb : Nat) (q : Qs) (vp vo vv vh pv : Value) : Prop where
  cells : ∀ j u, (q.cells vp vo vv vh pv mb)[j]? = some u → w.cell? ⟨b, j, none⟩ = some u
  obj : ∃ ca ta, w.heap[b]? = some (.cells ca ta (0, 0))
  own : R b
  note : NoteM w R q.note vp vo vv vh
  parts : Nums w .i64 pv q.parts
  lies : LiesIn R pv q.parts.length
  empty : q.note.parts = [] ∧ q.note.ops = [] ∧ q.note.hits = []
  told : ∃ L, MapAt w (Value.int .i64) mb L ∧ ToldF w R L q.told

theorem QAt.below {w w' : World} {R : Nat → Prop} {b mb : Nat} {q : Qs} {vp vo vv vh pv : Value} (h : QAt w R b mb q vp vo vv vh pv) (hb : Below w.heap.size w w') : QAt w' R b mb q vp vo vv vh pv := by
  obtain ⟨L, h1, h2⟩ := h.told
  exact ⟨fun j u hj => below_cells hb (h.cells j u hj), by obtain ⟨ca, ta, ho⟩ := h.obj; exact ⟨ca, ta, (hb.block b (Array.getElem?_eq_some_iff.1 ho).1).trans ho⟩, h.own, h.note.below hb, h.parts.below hb, h.lies, h.empty, L, h1.kept (hb.block mb h1.lt), h2.below hb⟩

/-- what is asked of those that have not told -/
def looksZ (q : Qs) : List (Int × Nt) := (q.parts.filter fun p => !hasTold q.told p).map fun p => (p, q.note)

theorem looks_take (q : Qs) (k : Nat) (hk : k < q.parts.length) : looksZ {q with parts := q.parts.take (k + 1)} = looksZ {q with parts := q.parts.take k} ++ (if hasTold q.told q.parts[k] then [] else [(q.parts[k], q.note)]) := by
  unfold looksZ
  simp only [List.take_succ_eq_append_getElem hk, List.filter_append, List.map_append]
  congr 1
  cases h : hasTold q.told q.parts[k] <;> simp [h]

theorem rowMail : RowTy Tryd.prog 30 44 17 200 (.agg #[.int .i64 0, .int .u8 0, .int .u64 0, .int .u64 0, .int .u64 0, .int .u64 0, .int .u64 0, .int .u64 0, .int .u64 0, .int .i64 0, .int .i64 0, .int .i64 0, .int .i64 0, .slice none 0 0, .slice none 0 0, .slice none 0 0, .slice none 0 0]) := ⟨Tryd.underlying30, by kernel_rfl, rfl, by decide⟩

end Go.Proofs.YtfmlhdikagogcaaDoor
