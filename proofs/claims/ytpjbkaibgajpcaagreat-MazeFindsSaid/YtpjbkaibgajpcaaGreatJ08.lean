/- A map in memory as a list of pairs, in the order in which the keys came: what each operation on it does. A map in memory: to go through it, to strike a key, to count. walk: a walk in memory. A row of the call's own that is cut from in front: to read it, to cut it, one element more at its end. walk: what the best and the todo list become. The document's Hits: the first n, each vector cut. The document's SameHits. -/
import Derived.Test.YtpjbkaibgajpcaaGreatJ01
import Derived.ChangeMaps5
import Derived.Maps.Own
import Derived.Test.YtpjbkaibgajpcaaGreatJ07
import Derived.Deep.AppendSrc
namespace Go.Proofs.YtpjbkaibgajpcaaGreat
open Go.RowKit Go.ChangeMaps
set_option maxRecDepth 20000

structure KeyOf (P : Program) (K : TypeId) {α : Type} [DecidableEq α] (mk : α → Value) : Prop where
  plain : ∃ d, P.underlying K = some d ∧ (∀ a b, Instr.sameNow d (mk a) (mk b) = some (decide (a = b))) ∧ (∀ e n w (a : α), (Instr.checkKey e (n + 1) K (mk a)).run P w = .ok () w)
  bits : ∀ n a, Instr.sameBits n (mk a) (mk a) = true

theorem int_keyOf {P : Program} {K : TypeId} {k : IntKind} (h : P.underlying K = some (.int k)) : KeyOf P K (Value.int k) := by
  refine ⟨⟨_, h, fun a b => ?_, fun e n w a => ?_⟩, fun n a => by cases n <;> simp [Instr.sameBits]⟩
  · simp only [Instr.sameNow, if_true]
    by_cases hab : a = b <;> simp [hab]
  · simp [Instr.checkKey, run_underlying h, Result.andThen]

section
variable {P : Program} {K : TypeId} {α : Type} [DecidableEq α] {mk : α → Value}

def getK (L : List (α × Value)) (a : α) : Option Value := (L.find? fun p => decide (p.1 = a)).map (·.2)

def putK : List (α × Value) → α → Value → List (α × Value)
  | [], a, v => [(a, v)]
  | p :: L, a, v => if p.1 = a then (a, v) :: L else p :: putK L a v

def delK (L : List (α × Value)) (a : α) : List (α × Value) := L.filter fun p => decide (p.1 ≠ a)

structure MapIs (w : World) (mk : α → Value) (b : Nat) (L : List (α × Value)) (es : Array MapEntry) (clock : Nat) : Prop where
  obj : w.heap[b]? = some (.map es clock)
  ents : es.toList.map (fun e => (e.key, e.val)) = L.map fun p => (mk p.1, p.2)
  keys : (L.map (·.1)).Nodup
  stamps : (es.toList.map (·.born)).Nodup
  young : ∀ e ∈ es.toList, e.born < clock

def MapAt (w : World) (mk : α → Value) (b : Nat) (L : List (α × Value)) : Prop := ∃ es clock, MapIs w mk b L es clock

omit [DecidableEq α] in
theorem MapAt.kept {w w' : World} {b : Nat} {L : List (α × Value)} (h : MapAt w mk b L) (hb : w'.heap[b]? = w.heap[b]?) : MapAt w' mk b L := by
  obtain ⟨es, c, h⟩ := h
  exact ⟨es, c, ⟨by rw [hb]; exact h.obj, h.ents, h.keys, h.stamps, h.young⟩⟩

omit [DecidableEq α] in
theorem MapAt.lt {w : World} {b : Nat} {L : List (α × Value)} (h : MapAt w mk b L) : b < w.heap.size := by
  obtain ⟨es, c, h⟩ := h
  exact (Array.getElem?_eq_some_iff.1 h.obj).1

omit [DecidableEq α] in
theorem MapAt.made (w : World) : MapAt (α := α) (w.alloc (.map #[] 0)) mk w.heap.size [] :=
  ⟨#[], 0, ⟨heap_alloc_new _ _, rfl, by simp, by simp, by simp⟩⟩

theorem findNow_eq {d : TypeDesc} (hd : ∀ a b, Instr.sameNow d (mk a) (mk b) = some (decide (a = b))) (a : α) :
    ∀ (es : List MapEntry) (L : List (α × Value)) (i : Nat), es.map (fun e => (e.key, e.val)) = L.map (fun p => (mk p.1, p.2)) →
      Instr.findNow d (mk a) es i = some ((L.findIdx? fun p => decide (p.1 = a)).bind fun j => (L[j]?).map fun p => (i + j, p.2))
  | [], [], _, _ => rfl
  | [], _ :: _, _, h => by simp at h
  | _ :: _, [], _, h => by simp at h
  | e :: es, p :: L, i, h => by
    simp only [List.map_cons, List.cons.injEq, Prod.mk.injEq] at h
    rw [Instr.findNow, h.1.1, hd]
    by_cases hp : p.1 = a
    · have h1 : decide (a = p.1) = true := by simp [hp]
      have h2 : decide (p.1 = a) = true := by simp [hp]
      rw [h1]
      simp [List.findIdx?_cons, h2, h.1.2]
    · have h1 : decide (a = p.1) = false := by simp; exact fun e => hp e.symm
      have h2 : decide (p.1 = a) = false := by simp [hp]
      rw [h1]
      simp only []
      rw [findNow_eq hd a es L (i + 1) h.2]
      simp only [List.findIdx?_cons, h2]
      cases L.findIdx? fun p => decide (p.1 = a) with
      | none => simp
      | some j => simp [Nat.add_comm, Nat.add_left_comm]

theorem getK_eq (L : List (α × Value)) (a : α) : getK L a = (L.findIdx? fun p => decide (p.1 = a)).bind fun j => (L[j]?).map (·.2) := by
  unfold getK
  induction L with
  | nil => rfl
  | cons p L ih =>
    by_cases hp : p.1 = a
    · simp [List.findIdx?_cons, hp]
    · simp only [List.find?_cons, List.findIdx?_cons, hp, decide_false]
      rw [ih]
      cases L.findIdx? fun p => decide (p.1 = a) <;> simp


theorem run_findKey (KO : KeyOf P K mk) {es : List MapEntry} {L : List (α × Value)} (h : es.map (fun e => (e.key, e.val)) = L.map fun p => (mk p.1, p.2)) (a : α) (w : World) :
    (Instr.findKey K (mk a) es).run P w = .ok ((L.findIdx? fun p => decide (p.1 = a)).bind fun j => (L[j]?).map fun p => (j, p.2)) w := by
  obtain ⟨d, hd, hs, _⟩ := KO.plain
  have := findNow_eq hs a es L 0 h
  simp only [Nat.zero_add] at this
  simp [Instr.findKey, run_underlying hd, this, Result.andThen]

theorem run_look (KO : KeyOf P K mk) {T E : TypeId} (hT : P.underlying T = some (.map K E)) {w : World} {b : Nat} {L : List (α × Value)} (h : MapAt w mk b L) {z : Value} (hz : (zeroValue E).run P w = .ok z w) (a : α) (c : Bool) :
    (Instr.lookup T (.map (some b)) (mk a) c).run P w = .ok (if c then .tuple #[(getK L a).getD z, .bool (getK L a).isSome] else (getK L a).getD z) w := by
  obtain ⟨es, clock, h⟩ := h
  obtain ⟨d, hd, hs, hck⟩ := KO.plain
  have hf := run_findKey KO h.ents a w
  rw [getK_eq]
  have hg := MapKept.run_getObj_map (P := P) h.obj
  have hc := hck es.isEmpty 9999 w a
  simp only [Instr.lookup, Sem.run_bind, run_underlying hT, hg, Result.andThen_ok, Sem.run_pure, hc, hf]
  cases hj : L.findIdx? fun p => decide (p.1 = a) with
  | none => cases c <;> simp [hz, Result.andThen]
  | some j =>
    obtain ⟨hj', _⟩ := List.findIdx?_eq_some_iff_getElem.1 hj
    cases c <;> simp [List.getElem?_eq_getElem hj']

theorem mem_putK_keys {L : List (α × Value)} {a : α} {v : Value} {x : α} : x ∈ (putK L a v).map (·.1) ↔ x ∈ L.map (·.1) ∨ x = a := by
  induction L with
  | nil => simp [putK]
  | cons p L ih =>
    unfold putK
    split
    · rename_i hp
      subst hp
      simp only [List.map_cons, List.mem_cons]
      constructor
      · rintro (h | h)
        · exact .inr h
        · exact .inl (.inr h)
      · rintro ((h | h) | h)
        · exact .inl h
        · exact .inr h
        · exact .inl h
    · simp only [List.map_cons, List.mem_cons, ih]
      constructor
      · rintro (h | h | h)
        · exact .inl (.inl h)
        · exact .inl (.inr h)
        · exact .inr h
      · rintro ((h | h) | h)
        · exact .inl h
        · exact .inr (.inl h)
        · exact .inr (.inr h)

theorem nodup_putK {L : List (α × Value)} (h : (L.map (·.1)).Nodup) (a : α) (v : Value) : ((putK L a v).map (·.1)).Nodup := by
  induction L with
  | nil => simp [putK]
  | cons p L ih =>
    simp only [List.map_cons, List.nodup_cons] at h
    unfold putK
    split
    · rename_i hp
      subst hp
      simpa using h
    · rename_i hp
      simp only [List.map_cons, List.nodup_cons]
      refine ⟨fun hm => ?_, ih h.2⟩
      rcases mem_putK_keys.1 hm with hm | hm
      · exact h.1 hm
      · exact hp hm

theorem putK_new {L : List (α × Value)} {a : α} (h : L.findIdx? (fun p => decide (p.1 = a)) = none) (v : Value) : putK L a v = L ++ [(a, v)] := by
  induction L with
  | nil => rfl
  | cons p L ih =>
    by_cases hp : p.1 = a
    · simp [List.findIdx?_cons, hp] at h
    · simp only [List.findIdx?_cons, hp, decide_false] at h
      simp only [putK, hp, if_false, List.cons_append]
      rw [ih (by simpa using h)]

theorem putK_old {L : List (α × Value)} {a : α} {j : Nat} (h : L.findIdx? (fun p => decide (p.1 = a)) = some j) (v : Value) : putK L a v = L.set j (a, v) := by
  induction L generalizing j with
  | nil => simp at h
  | cons p L ih =>
    by_cases hp : p.1 = a
    · simp [List.findIdx?_cons, hp] at h
      subst h
      simp [putK, hp]
    · simp only [List.findIdx?_cons, hp, decide_false] at h
      simp only [putK, hp, if_false]
      cases hj : L.findIdx? fun p => decide (p.1 = a) with
      | none => rw [hj] at h; simp at h
      | some i =>
        rw [hj] at h
        simp at h
        subst h
        rw [ih hj]
        rfl

theorem grownBy_setBlock {w : World} {b : Nat} {es : Array MapEntry} {clock : Nat} (h : w.heap[b]? = some (.map es clock)) (o : Obj) : w.grownBy (setBlock w b o) (some b) :=
  ⟨rfl, rfl, rfl, by simp [setBlock], fun k _ hne => heap_setBlock_other h o (fun e => hne (by rw [e]))⟩

theorem run_put (KO : KeyOf P K mk) {T E : TypeId} (hT : P.underlying T = some (.map K E)) {w : World} {b : Nat} {L : List (α × Value)} (h : MapAt w mk b L) (a : α) (v : Value) :
    ∃ w', (Instr.mapUpdate T (.map (some b)) (mk a) v).run P w = .ok () w' ∧ MapAt w' mk b (putK L a v) ∧ w.grownBy w' (some b) ∧ w'.heap.size = w.heap.size := by
  obtain ⟨es, clock, h⟩ := h
  obtain ⟨d, hd, hs, hck⟩ := KO.plain
  have hf := run_findKey KO h.ents a w
  have hg := MapKept.run_getObj_map (P := P) h.obj
  have hc := hck false 9999 w a
  have hlen : es.size = L.length := by have := congrArg List.length h.ents; simpa using this
  cases hj : L.findIdx? fun p => decide (p.1 = a) with
  | none =>
    rw [hj] at hf
    refine ⟨setBlock w b (.map (es.push { key := mk a, val := v, born := clock }) (clock + 1)), ?_, ⟨_, _, ⟨heap_setBlock_same h.obj _, ?_, nodup_putK h.keys a v, ?_, ?_⟩⟩, grownBy_setBlock h.obj _, by simp [setBlock]⟩
    · simp only [Option.bind_none] at hf
      simp only [Instr.mapUpdate, Sem.run_bind, run_underlying hT, hg, Result.andThen_ok, hc, hf, MapKept.run_setObj_map _ h.obj]
      rfl
    · rw [putK_new hj]; simp [h.ents]
    · simp only [Array.toList_push, List.map_append, List.map_cons, List.map_nil]
      rw [List.nodup_append]
      refine ⟨h.stamps, by simp, fun x hx y hy => ?_⟩
      simp only [List.mem_singleton] at hy
      subst hy
      obtain ⟨e, he, rfl⟩ := List.mem_map.1 hx
      have := h.young e he
      omega
    · intro e he
      rw [Array.toList_push, List.mem_append] at he
      rcases he with he | he
      · have := h.young e he; omega
      · simp at he; subst he; simp
  | some j =>
    obtain ⟨hj', hja, _⟩ := List.findIdx?_eq_some_iff_getElem.1 hj
    rw [hj] at hf
    simp only [Option.bind_some, List.getElem?_eq_getElem hj', Option.map_some] at hf
    have hjs : j < es.size := by omega
    have hkey : es[j].key = mk a := by
      have e1 := congrArg (fun l => l[j]?) h.ents
      simp [List.getElem?_eq_getElem hj', hjs] at e1
      have : L[j].1 = a := by simpa using hja
      rw [e1.1, this]
    refine ⟨setBlock w b (.map (es.modify j fun e => { e with key := mk a, val := v }) clock), ?_, ⟨_, _, ⟨heap_setBlock_same h.obj _, ?_, nodup_putK h.keys a v, ?_, ?_⟩⟩, grownBy_setBlock h.obj _, by simp [setBlock]⟩
    · have hst : (Instr.keyThatStays (((es[j]?).map (·.key)).getD (mk a)) (mk a)).run P w = .ok (mk a) w := by
        simp [Instr.keyThatStays, Array.getElem?_eq_getElem hjs, hkey, KO.bits]
      simp only [Instr.mapUpdate, Sem.run_bind, run_underlying hT, hg, Result.andThen_ok, hc, hf, hst, MapKept.run_setObj_map _ h.obj]
      rfl
    · rw [putK_old hj, List.map_set, ← h.ents]
      refine List.ext_getElem? fun i => ?_
      simp only [List.getElem?_map, Array.getElem?_toList, Array.getElem?_modify, List.getElem?_set]
      by_cases hij : j = i
      · subst hij; simp [hjs]
      · simp [hij]
    · have e1 : (es.modify j fun e => { e with key := mk a, val := v }).toList.map (·.born) = es.toList.map (·.born) := by
        refine List.ext_getElem? fun i => ?_
        simp only [List.getElem?_map, Array.getElem?_toList, Array.getElem?_modify]
        by_cases hij : j = i
        · subst hij; simp [Array.getElem?_eq_getElem hjs]
        · simp [hij]
      rw [e1]; exact h.stamps
    · intro e he
      obtain ⟨i, hi, rfl⟩ := List.mem_iff_getElem.1 he
      simp only [Array.length_toList, Array.size_modify] at hi
      simp only [Array.getElem_toList, Array.getElem_modify]
      have := h.young es[i] (by simp)
      split <;> exact this

theorem getK_put (L : List (α × Value)) (a : α) (v : Value) (x : α) : getK (putK L a v) x = if x = a then some v else getK L x := by
  induction L with
  | nil =>
    by_cases h : x = a
    · simp [putK, getK, h]
    · have : decide (a = x) = false := by simp; exact fun e => h e.symm
      simp [putK, getK, this, h]
  | cons p L ih =>
    unfold putK
    by_cases hp : p.1 = a
    · rw [if_pos hp]
      by_cases h : x = a
      · simp [getK, h]
      · have h1 : decide (a = x) = false := by simp; exact fun e => h e.symm
        have h2 : decide (p.1 = x) = false := by rw [hp]; exact h1
        simp [getK, h1, h2, h]
    · rw [if_neg hp]
      by_cases hx : p.1 = x
      · have h : x ≠ a := fun e => hp (by rw [hx, e])
        simp [getK, hx, h]
      · have h2 : decide (p.1 = x) = false := by simp [hx]
        unfold getK at ih ⊢
        simp only [List.find?_cons, h2]
        exact ih

end

end Go.Proofs.YtpjbkaibgajpcaaGreat

namespace Go.Proofs.YtpjbkaibgajpcaaGreat
open Go.RowKit Go.ChangeMaps
set_option maxRecDepth 20000

section
variable {P : Program} {K : TypeId} {α : Type} [DecidableEq α] {mk : α → Value}

def IterAt (w : World) (mk : α → Value) (b r : Nat) (L R : List (α × Value)) : Prop :=
  ∃ es clock seen, MapIs w mk b L es clock ∧ w.heap[r]? = some (.mapIter (some b) clock seen clock) ∧
    (es.toList.filter fun e => !seen.contains e.born).map (fun e => (e.key, e.val)) = R.map fun p => (mk p.1, p.2)

def EntryAt (w : World) (b r : Nat) (k v : Value) : Prop :=
  ∃ es clock since seen stamp, w.heap[b]? = some (.map es clock) ∧ w.heap[r]? = some (.mapIter (some b) since seen clock) ∧ seen.back? = some stamp ∧
    (es.find? (·.born == stamp)).map (fun e => (e.key, e.val)) = some (k, v)

omit [DecidableEq α] in
theorem IterAt.map {w : World} {b r : Nat} {L R : List (α × Value)} (h : IterAt w mk b r L R) : MapAt w mk b L := let ⟨es, c, _, h, _⟩ := h; ⟨es, c, h⟩

omit [DecidableEq α] in
theorem IterAt.ne {w : World} {b r : Nat} {L R : List (α × Value)} (h : IterAt w mk b r L R) : r ≠ b := by
  obtain ⟨es, c, s, h1, h2, _⟩ := h
  rintro rfl
  rw [h1.obj] at h2
  cases h2

omit [DecidableEq α] in
theorem IterAt.lt {w : World} {b r : Nat} {L R : List (α × Value)} (h : IterAt w mk b r L R) : r < w.heap.size := by
  obtain ⟨es, c, s, h1, h2, _⟩ := h
  exact (Array.getElem?_eq_some_iff.1 h2).1

omit [DecidableEq α] in
theorem IterAt.kept {w w' : World} {b r : Nat} {L R : List (α × Value)} (h : IterAt w mk b r L R) (hb : w'.heap[b]? = w.heap[b]?) (hr : w'.heap[r]? = w.heap[r]?) : IterAt w' mk b r L R := by
  obtain ⟨es, c, s, h1, h2, h3⟩ := h
  exact ⟨es, c, s, ⟨by rw [hb]; exact h1.obj, h1.ents, h1.keys, h1.stamps, h1.young⟩, by rw [hr]; exact h2, h3⟩

theorem EntryAt.kept {w w' : World} {b r : Nat} {k v : Value} (h : EntryAt w b r k v) (hb : w'.heap[b]? = w.heap[b]?) (hr : w'.heap[r]? = w.heap[r]?) : EntryAt w' b r k v := by
  obtain ⟨es, c, si, s, st, h1, h2, h3, h4⟩ := h
  exact ⟨es, c, si, s, st, by rw [hb]; exact h1, by rw [hr]; exact h2, h3, h4⟩

omit [DecidableEq α] in
theorem run_range {T E : TypeId} (hT : P.underlying T = some (.map K E)) {w : World} {b : Nat} {L : List (α × Value)} (h : MapAt w mk b L) :
    ∃ w', (Instr.range T (.map (some b))).run P w = .ok (.pointer (some ⟨w.heap.size, 0, none⟩)) w' ∧ IterAt w' mk b w.heap.size L L ∧ w.grownBy w' none ∧ w'.heap.size = w.heap.size + 1 := by
  have hlt := h.lt
  obtain ⟨es, clock, h⟩ := h
  refine ⟨w.alloc (.mapIter (some b) clock #[] clock), ?_, ⟨es, clock, #[], ⟨?_, h.ents, h.keys, h.stamps, h.young⟩, heap_alloc_new _ _, ?_⟩, World.grownBy_alloc _ _ _, by simp⟩
  · simp [Instr.range, run_underlying hT, MapKept.run_getObj_map h.obj, Result.andThen]
  · rw [heap_alloc_old _ _ hlt]; exact h.obj
  · rw [← h.ents]
    congr 1
    rw [List.filter_eq_self]
    intro e _; simp

omit [DecidableEq α] in
theorem run_next_over {w : World} {b r : Nat} {L : List (α × Value)} (h : IterAt w mk b r L []) (ty : TypeId) :
    (Instr.next (.pointer (some ⟨r, 0, none⟩)) false ty).run P w = .ok (.tuple #[.bool false]) w := by
  obtain ⟨es, clock, seen, h1, h2, h3⟩ := h
  have hnil : es.toList.filter (fun e => !seen.contains e.born) = [] := by simpa using h3
  have hnil' : es.filter (fun e => !seen.contains e.born) = #[] := by
    rw [← Array.toList_inj, Array.toList_filter, hnil]
  have hg : (getObj r).run P w = .ok (.mapIter (some b) clock seen clock) w := by simp [getObj, Sem.run, h2]
  have hall : (!seen.isEmpty && !es.isEmpty && es.all (fun e => decide (e.born ≥ clock))) = false := by
    cases hes : es.isEmpty
    · have : es.all (fun e => decide (e.born ≥ clock)) = false := by
        rw [Bool.eq_false_iff]
        intro ht
        have hpos : 0 < es.size := by
          rcases Nat.eq_zero_or_pos es.size with h0 | h0
          · simp [Array.eq_empty_of_size_eq_zero h0] at hes
          · exact h0
        rw [Array.all_eq_true] at ht
        have := ht 0 hpos
        have := h1.young es[0] (by simp)
        simp at *
        omega
      simp [this]
    · simp
  simp only [Instr.next, Sem.run_bind, hg, Result.andThen_ok, MapKept.run_getObj_map h1.obj, hall, hnil']
  simp [choose, Sem.run, Question.forced, Result.andThen]

theorem split_of_map {α β γ : Type} {f : α → γ} {g : β → γ} : ∀ {l1 : List α} {x : α} {l2 : List α} {R : List β}, (l1 ++ x :: l2).map f = R.map g →
    ∃ R1 y R2, R = R1 ++ y :: R2 ∧ l1.map f = R1.map g ∧ f x = g y ∧ l2.map f = R2.map g
  | [], x, l2, R, h => by
    cases R with
    | nil => simp at h
    | cons y R => simp only [List.nil_append, List.map_cons, List.cons.injEq] at h; exact ⟨[], y, R, rfl, rfl, h.1, h.2⟩
  | z :: l1, x, l2, R, h => by
    cases R with
    | nil => simp at h
    | cons y R =>
      simp only [List.cons_append, List.map_cons, List.cons.injEq] at h
      obtain ⟨R1, y', R2, rfl, h1, h2, h3⟩ := split_of_map h.2
      exact ⟨y :: R1, y', R2, rfl, by simp [h.1, h1], h2, h3⟩

theorem filter_strike {es : List MapEntry} (hn : (es.map (·.born)).Nodup) {seen : Array Nat} {l1 l2 : List MapEntry} {e : MapEntry} (h : es.filter (fun e => !seen.contains e.born) = l1 ++ e :: l2) :
    es.filter (fun x => !(seen.push e.born).contains x.born) = l1 ++ l2 := by
  have h1 : es.filter (fun x => !(seen.push e.born).contains x.born) = (es.filter (fun e => !seen.contains e.born)).filter (fun x => decide (x.born ≠ e.born)) := by
    rw [List.filter_filter]
    congr 1
    funext x
    simp only [Array.contains_push, Bool.not_or, ne_eq, decide_not]
    rw [Bool.and_comm]
    congr 2
  rw [h1, h]
  have hsub : ((l1 ++ e :: l2).map (·.born)).Nodup := by
    rw [← h]
    exact hn.sublist (List.filter_sublist.map _)
  rw [List.map_append, List.map_cons, List.nodup_append, List.nodup_cons] at hsub
  obtain ⟨_, ⟨h3, _⟩, h4⟩ := hsub
  rw [List.filter_append, List.filter_cons]
  simp only [ne_eq, not_true_eq_false, decide_false, Bool.false_eq_true, if_false]
  congr 1
  · rw [List.filter_eq_self]
    intro x hx
    simp only [decide_eq_true_eq]
    exact h4 x.born (List.mem_map.2 ⟨x, hx, rfl⟩) e.born (by simp)
  · rw [List.filter_eq_self]
    intro x hx
    simp only [decide_eq_true_eq]
    intro he
    exact h3 (List.mem_map.2 ⟨x, hx, he⟩)

omit [DecidableEq α] in
theorem run_next_some {w : World} {b r : Nat} {L R : List (α × Value)} (h : IterAt w mk b r L R) (hR : R ≠ []) :
    ∃ w' R1 a v R2, (∀ ty, (Instr.next (.pointer (some ⟨r, 0, none⟩)) false ty).run P w = .ok (.tuple #[.bool true, mk a, v]) w') ∧ R = R1 ++ (a, v) :: R2 ∧
      IterAt w' mk b r L (R1 ++ R2) ∧ EntryAt w' b r (mk a) v ∧ w.grownBy w' (some r) ∧ w'.heap.size = w.heap.size := by
  have hne := h.ne
  have hrlt := h.lt
  obtain ⟨es, clock, seen, h1, h2, h3⟩ := h
  have hg : (getObj r).run P w = .ok (.mapIter (some b) clock seen clock) w := by simp [getObj, Sem.run, h2]
  generalize hleft : es.filter (fun e => !seen.contains e.born) = left
  have hleft' : left.toList = es.toList.filter (fun e => !seen.contains e.born) := by rw [← hleft, Array.toList_filter]
  rw [← hleft'] at h3
  have hlen : left.size = R.length := by have := congrArg List.length h3; simpa using this
  have hpos : 0 < left.size := by
    rw [hlen]; exact List.length_pos_iff.2 hR
  have hmem : ∀ e ∈ left.toList, e ∈ es.toList := fun e he => by rw [hleft'] at he; exact (List.mem_filter.1 he).1
  have hold : left.filter (fun e => decide (e.born < clock)) = left := by
    rw [Array.filter_eq_self]
    intro e he
    simpa using h1.young e (hmem e (by simpa using he))
  have hnew : left.filter (fun e => decide (e.born ≥ clock)) = #[] := by
    rw [Array.filter_eq_empty_iff]
    intro e he
    have := h1.young e (hmem e (by simpa using he))
    simp; omega
  have hnem : left.isEmpty = false := by
    rw [Bool.eq_false_iff]; intro he; rw [Array.isEmpty_iff] at he; simp [he] at hpos
  have hall : (!seen.isEmpty && !es.isEmpty && es.all (fun e => decide (e.born ≥ clock))) = false := by
    have hes : 0 < es.size := by
      have := hmem left[0] (by simp)
      rcases Nat.eq_zero_or_pos es.size with h0 | h0
      · simp [Array.eq_empty_of_size_eq_zero h0] at this
      · exact h0
    have : es.all (fun e => decide (e.born ≥ clock)) = false := by
      rw [Bool.eq_false_iff]
      intro ht
      rw [Array.all_eq_true] at ht
      have := ht 0 hes
      have := h1.young es[0] (by simp)
      simp at *
      omega
    simp [this]
  have hpick : ∃ i w1, i < left.size ∧ (choose (.mapNext left.size)).run P w = .ok i w1 ∧ w1.heap = w.heap ∧ w1.os = w.os ∧ w1.tape = w.tape ∧ w1.output = w.output := by
    by_cases hf : left.size ≤ 1
    · exact ⟨0, w, hpos, by simp [choose, Sem.run, Question.forced, hf], rfl, rfl, rfl, rfl⟩
    · exact ⟨w.tape w.drawn (.mapNext left.size) % left.size, { w with drawn := w.drawn + 1 }, Nat.mod_lt _ hpos, by simp [choose, Sem.run, Question.forced, hf, Question.cut], rfl, rfl, rfl, rfl⟩
  obtain ⟨i, w1, hi, hch, e1, e2, e3, e4⟩ := hpick
  have hsplit : left.toList = left.toList.take i ++ left[i] :: left.toList.drop (i + 1) := by
    have := List.drop_eq_getElem_cons (l := left.toList) (i := i) (by simpa using hi)
    simp only [Array.getElem_toList] at this
    rw [← this]
    exact (List.take_append_drop i _).symm
  rw [hsplit] at h3
  obtain ⟨R1, ⟨a, v⟩, R2, rfl, r1, r2, r3⟩ := split_of_map h3
  simp only [Prod.mk.injEq] at r2
  have hobj : w1.heap[r]? = some (.mapIter (some b) clock seen clock) := by rw [e1]; exact h2
  have hset : (setObj r (.mapIter (some b) clock (seen.push left[i].born) clock)).run P w1 = .ok () (setBlock w1 r (.mapIter (some b) clock (seen.push left[i].born) clock)) := by
    simp [setObj, Sem.run, hobj, setBlock]
  have hr' : (setBlock w1 r (.mapIter (some b) clock (seen.push left[i].born) clock)).heap[r]? = some (.mapIter (some b) clock (seen.push left[i].born) clock) := by
    have : r < w1.heap.size := by rw [e1]; exact hrlt
    simp [setBlock, this]
  have ho : ∀ k, k ≠ r → (setBlock w1 r (.mapIter (some b) clock (seen.push left[i].born) clock)).heap[k]? = w.heap[k]? := by
    intro k hk
    simp only [setBlock]
    rw [Array.getElem?_setIfInBounds_ne (Ne.symm hk), e1]
  have hb' := ho b (Ne.symm hne)
  refine ⟨setBlock w1 r (.mapIter (some b) clock (seen.push left[i].born) clock), R1, a, v, R2, ?_, rfl, ⟨es, clock, seen.push left[i].born, ⟨by rw [hb']; exact h1.obj, h1.ents, h1.keys, h1.stamps, h1.young⟩, hr', ?_⟩, ⟨es, clock, clock, _, left[i].born, by rw [hb']; exact h1.obj, hr', by simp, ?_⟩,
    ⟨by simp [setBlock, e2], by simp [setBlock, e3], by simp [setBlock, e4], by simp [setBlock, e1], fun k _ hk => ho k fun e => hk (by rw [e])⟩, by simp [setBlock, e1]⟩
  · intro ty
    simp only [Instr.next, Sem.run_bind, hg, Result.andThen_ok, MapKept.run_getObj_map h1.obj, hall, hleft, hold, hnew, hnem, Bool.false_eq_true, if_false, Array.append_empty, Array.empty_append, Array.size_map, hch,
      Array.getElem?_map, Array.getElem?_eq_getElem hi, Option.map_some, hset, Sem.run_pure, r2.1, r2.2]
  · have hfs := filter_strike h1.stamps (hleft'.symm.trans hsplit)
    rw [hfs, List.map_append, r1, r3, List.map_append]
  · have hin : left[i] ∈ es.toList := hmem _ (by simp)
    obtain ⟨j, hj, hje⟩ := List.mem_iff_getElem.1 hin
    have hfind : es.find? (fun e => e.born == left[i].born) = some left[i] := by
      rw [← Array.find?_toList]
      rw [List.find?_eq_some_iff_getElem]
      refine ⟨by simp, j, hj, hje, fun k hk => ?_⟩
      simp only [Bool.not_eq_true', beq_eq_false_iff_ne]
      intro hb
      have hjs : j < es.size := by simpa using hj
      have hks : k < (es.toList.map (·.born)).length := by simp; omega
      have hnd := (List.pairwise_iff_getElem.1 h1.stamps) k j hks (by simpa using hj) hk
      simp only [List.getElem_map] at hnd
      exact hnd (by rw [hb, hje])
    rw [hfind]
    simp [r2.1, r2.2]

theorem run_entry {w : World} {b r : Nat} {k v : Value} (h : EntryAt w b r k v) : (Instr.entry (.pointer (some ⟨r, 0, none⟩))).run P w = .ok (.tuple #[k, v]) w := by
  obtain ⟨es, clock, since, seen, stamp, h1, h2, h3, h4⟩ := h
  have hg : (getObj r).run P w = .ok (.mapIter (some b) since seen clock) w := by simp [getObj, Sem.run, h2]
  obtain ⟨e, he, hkv⟩ := Option.map_eq_some_iff.1 h4
  simp only [Prod.mk.injEq] at hkv
  simp [Instr.entry, hg, MapKept.run_getObj_map h1, h3, he, hkv.1, hkv.2, Result.andThen]

omit [DecidableEq α] in
theorem run_len {T E : TypeId} (hT : P.underlying T = some (.map K E)) {w : World} {b : Nat} {L : List (α × Value)} (h : MapAt w mk b L) (ty : TypeId) :
    (Builtin.len_ #[T] ty #[.map (some b)]).run P w = .ok (.int .i64 L.length) w := by
  obtain ⟨es, clock, h⟩ := h
  have hlen : es.size = L.length := by have := congrArg List.length h.ents; simpa using this
  simp [Builtin.len_, run_underlying hT, MapKept.run_getObj_map h.obj, Result.andThen, hlen, goInt]

theorem delK_none {L : List (α × Value)} {a : α} (h : L.findIdx? (fun p => decide (p.1 = a)) = none) : delK L a = L := by
  unfold delK
  rw [List.filter_eq_self]
  intro p hp
  have := (List.findIdx?_eq_none_iff.1 h) p hp
  simpa using this

theorem delK_some {L : List (α × Value)} (hn : (L.map (·.1)).Nodup) {a : α} {j : Nat} (h : L.findIdx? (fun p => decide (p.1 = a)) = some j) : delK L a = L.eraseIdx j := by
  induction L generalizing j with
  | nil => simp at h
  | cons p L ih =>
    simp only [List.map_cons, List.nodup_cons] at hn
    by_cases hp : p.1 = a
    · simp [List.findIdx?_cons, hp] at h
      subst h
      have : L.findIdx? (fun p => decide (p.1 = a)) = none := by
        rw [List.findIdx?_eq_none_iff]
        intro q hq
        simp only [decide_eq_false_iff_not]
        intro e
        exact hn.1 (List.mem_map.2 ⟨q, hq, by rw [e, hp]⟩)
      have h2 := delK_none this
      unfold delK at h2 ⊢
      rw [List.filter_cons, if_neg (by simp [hp]), h2]
      rfl
    · simp only [List.findIdx?_cons, hp, decide_false] at h
      cases hj : L.findIdx? fun p => decide (p.1 = a) with
      | none => rw [hj] at h; simp at h
      | some i =>
        rw [hj] at h
        simp at h
        subst h
        have h2 := ih hn.2 hj
        unfold delK at h2 ⊢
        rw [List.filter_cons, if_pos (by simp [hp]), h2]
        rfl

theorem run_del (KO : KeyOf P K mk) {T E : TypeId} (hT : P.underlying T = some (.map K E)) {w : World} {b : Nat} {L : List (α × Value)} (h : MapAt w mk b L) (a : α) :
    ∃ w', (∀ ty, (Builtin.delete_ #[T, K] ty #[.map (some b), mk a]).run P w = .ok (.tuple #[]) w') ∧ MapAt w' mk b (delK L a) ∧ w.grownBy w' (some b) ∧ w'.heap.size = w.heap.size := by
  obtain ⟨es, clock, h⟩ := h
  obtain ⟨d, hd, hs, hck⟩ := KO.plain
  have hf := run_findKey KO h.ents a w
  have hg := MapKept.run_getObj_map (P := P) h.obj
  have hc := hck es.isEmpty 9999 w a
  have hlen : es.size = L.length := by have := congrArg List.length h.ents; simpa using this
  cases hj : L.findIdx? fun p => decide (p.1 = a) with
  | none =>
    rw [hj] at hf
    simp only [Option.bind_none] at hf
    refine ⟨setBlock w b (.map es clock), ?_, ⟨_, _, ⟨heap_setBlock_same h.obj _, ?_, ?_, h.stamps, h.young⟩⟩, grownBy_setBlock h.obj _, by simp [setBlock]⟩
    · intro ty
      simp only [Builtin.delete_, Sem.run_bind, run_underlying hT, hg, Result.andThen_ok, List.getElem?_toArray, List.getElem?_cons_zero, List.getElem?_cons_succ, hc, hf, MapKept.run_setObj_map _ h.obj]
      rfl
    · rw [delK_none hj]; exact h.ents
    · rw [delK_none hj]; exact h.keys
  | some j =>
    obtain ⟨hj', hja, _⟩ := List.findIdx?_eq_some_iff_getElem.1 hj
    rw [hj] at hf
    simp only [Option.bind_some, List.getElem?_eq_getElem hj', Option.map_some] at hf
    refine ⟨setBlock w b (.map (es.eraseIdxIfInBounds j) clock), ?_, ⟨_, _, ⟨heap_setBlock_same h.obj _, ?_, ?_, ?_, ?_⟩⟩, grownBy_setBlock h.obj _, by simp [setBlock]⟩
    · intro ty
      simp only [Builtin.delete_, Sem.run_bind, run_underlying hT, hg, Result.andThen_ok, List.getElem?_toArray, List.getElem?_cons_zero, List.getElem?_cons_succ, hc, hf, MapKept.run_setObj_map _ h.obj]
      rfl
    · rw [delK_some h.keys hj, Array.toList_eraseIdxIfInBounds, map_eraseIdx, map_eraseIdx, h.ents]
    · rw [delK_some h.keys hj, map_eraseIdx]; exact h.keys.sublist (List.eraseIdx_sublist _ _)
    · rw [Array.toList_eraseIdxIfInBounds, map_eraseIdx]; exact h.stamps.sublist (List.eraseIdx_sublist _ _)
    · intro e he
      rw [Array.toList_eraseIdxIfInBounds] at he
      exact h.young e (List.mem_of_mem_eraseIdx he)

end

end Go.Proofs.YtpjbkaibgajpcaaGreat

namespace Go.Proofs.YtpjbkaibgajpcaaGreat
open Go.RowKit Go.ChangeMaps
set_option maxRecDepth 20000

def bareV (h : Hz) : Hv := ⟨h.id, h.dist, .slice none 0 0⟩
def seenM (S : List Int) : List (Int × Value) := S.map fun k => (k, .bool true)

structure SpaceAt (w0 : World) (T : TypeId) (rv : Value) (far : Int → Option Int) (nr : Int → List Int) (fF : FuncId) (rF : Value) (fN : FuncId) (rN : Value) : Prop where
  mF : ∀ w, Below w0.heap.size w0 w → Sem.run Tryz.prog (method (Tryz.prog.types.size + 100) T rv "Far") w = .ok (fF, rF) w
  eF : ∀ args w, (callFunc fF args).run Tryz.prog w = .ok (.enter fF args) w
  cF : ∀ w, Below w0.heap.size w0 w → ∀ k, Calls Tryz.prog fF #[rF, .int .u64 k] w fun e w' => ∃ v, e = .returned v ∧ v = .tuple #[.int .u64 ((far k).getD 0), .bool (far k).isSome] ∧ Below w.heap.size w w'
  mN : ∀ w, Below w0.heap.size w0 w → Sem.run Tryz.prog (method (Tryz.prog.types.size + 100) T rv "Near") w = .ok (fN, rN) w
  eN : ∀ args w, (callFunc fN args).run Tryz.prog w = .ok (.enter fN args) w
  cN : ∀ w, Below w0.heap.size w0 w → ∀ k, Calls Tryz.prog fN #[rN, .int .u64 k] w fun e w' => ∃ v, e = .returned v ∧ w'.ownsRow w.heap.size 36 1 v (nr k).length ((nr k).map (Value.int .u64)) ∧ Below w.heap.size w w'

structure WkAt (w0 w : World) (sp : Value) (p ms c : Nat) (F : Nat → Prop) (kv : Value) (ks : List Int) (most : Nat) (tv : Value) (s : Ws) : Prop where
  cell : w.heap[p]? = some (.cells #[sp, .pointer (some ⟨c, 0, none⟩), .map (some ms), tv] 119 (0, 0))
  seen : MapAt w (Value.int .u64) ms (seenM s.S)
  best : ListAt w w0.heap.size F c most s.L
  todo : w.ownsRow w0.heap.size 38 3 tv s.T.length (flat3 (s.T.map bareV))
  fhi : ∀ k, F k → w0.heap.size ≤ k ∧ k < w.heap.size
  fp : ¬ F p
  fms : ¬ F ms
  ft : ∀ b, tv.ownBlock = some b → ¬ F b
  low : w0.heap.size ≤ p ∧ w0.heap.size ≤ ms
  old : Below w0.heap.size w0 w
  keys : Nums w .u64 kv ks
  apart : ∀ k, kv.ownBlock = some k → 0 < ks.length → k < w.heap.size ∧ ¬ F k ∧ k ≠ p ∧ k ≠ ms ∧ tv.ownBlock ≠ some k

section
variable {w0 w w' : World} {sp : Value} {p ms c : Nat} {F : Nat → Prop} {kv : Value} {ks : List Int} {most : Nat} {tv : Value} {s : Ws}

theorem WkAt.plt (h : WkAt w0 w sp p ms c F kv ks most tv s) : p < w.heap.size := (Array.getElem?_eq_some_iff.1 h.cell).1

def WkF (p ms : Nat) (F : Nat → Prop) (tv : Value) (k : Nat) : Prop := F k ∨ k = p ∨ k = ms ∨ tv.ownBlock = some k

theorem WkAt.turn (h : WkAt w0 w sp p ms c F kv ks most tv s) {F' : Nat → Prop} {tv' : Value} {s' : Ws} (hm : Mod (WkF p ms F tv) w w')
    (hc : w'.heap[p]? = some (.cells #[sp, .pointer (some ⟨c, 0, none⟩), .map (some ms), tv'] 119 (0, 0))) (hs : MapAt w' (Value.int .u64) ms (seenM s'.S)) (hb : ListAt w' w0.heap.size F' c most s'.L)
    (ht : w'.ownsRow w0.heap.size 38 3 tv' s'.T.length (flat3 (s'.T.map bareV))) (hF : ∀ k, F' k → F k ∨ (w.heap.size ≤ k ∧ k < w'.heap.size)) (htv : tv'.ownBlock = tv.ownBlock ∨ ∀ b, tv'.ownBlock = some b → w.heap.size ≤ b ∧ ¬ F' b) :
    WkAt w0 w' sp p ms c F' kv ks most tv' s' := by
  have hpl := h.plt
  have hml := h.seen.lt
  have hsz := hm.size
  have hws := h.old.size
  have htl := h.todo.lt
  have hlowK : ∀ k, WkF p ms F tv k → w0.heap.size ≤ k := by
    rintro k (hk | rfl | rfl | hk)
    · exact (h.fhi k hk).1
    · exact h.low.1
    · exact h.low.2
    · exact (htl k hk).1
  refine ⟨hc, hs, hb, ht, fun k hk => ?_, fun hk => ?_, fun hk => ?_, fun b hb' hk => ?_, h.low, h.old.trans ((hm.below hws hlowK)), ?_, fun k hk h0 => ?_⟩
  · rcases hF k hk with h1 | h1
    · have := h.fhi k h1; omega
    · omega
  · rcases hF p hk with h1 | h1
    · exact h.fp h1
    · omega
  · rcases hF ms hk with h1 | h1
    · exact h.fms h1
    · omega
  · rcases htv with e | e
    · rw [e] at hb'
      rcases hF b hk with h1 | h1
      · exact h.ft b hb' h1
      · have := htl b hb'; omega
    · exact (e b hb').2 hk
  · refine h.keys.agree (F := fun k => kv.ownBlock = some k ∧ 0 < ks.length) (fun hn b hb => ⟨hb, hn⟩) fun k hk => ?_
    obtain ⟨h1, h2, h3, h4, h5⟩ := h.apart k hk.1 hk.2
    exact hm.block k h1 fun e => by
      rcases e with e | e | e | e
      · exact h2 e
      · exact h3 e
      · exact h4 e
      · exact h5 e
  · obtain ⟨h1, h2, h3, h4, h5⟩ := h.apart k hk h0
    refine ⟨by omega, fun e => ?_, h3, h4, ?_⟩
    · rcases hF k e with h6 | h6
      · exact h2 h6
      · omega
    · rcases htv with e | e
      · rw [e]; exact h5
      · intro e2
        have := (e k e2).1
        omega

theorem WkAt.self (h : WkAt w0 w sp p ms c F kv ks most tv s) : p ≠ ms ∧ tv.ownBlock ≠ some p ∧ tv.ownBlock ≠ some ms := by
  refine ⟨?_, fun e => ?_, fun e => ?_⟩
  · rintro rfl
    obtain ⟨es, cl, hi⟩ := h.seen
    have := hi.obj
    rw [h.cell] at this
    cases this
  · rcases h.todo.2 with ⟨hv, -⟩ | ⟨g, cap, cur, hv, -, hg, -⟩
    · rw [hv] at e; cases e
    · rw [hv] at e
      obtain rfl : g = p := by simpa [Value.ownBlock] using e
      rw [h.cell] at hg
      cases hg
  · rcases h.todo.2 with ⟨hv, -⟩ | ⟨g, cap, cur, hv, -, hg, -⟩
    · rw [hv] at e; cases e
    · rw [hv] at e
      obtain rfl : g = ms := by simpa [Value.ownBlock] using e
      obtain ⟨es, cl, hi⟩ := h.seen
      rw [hi.obj] at hg
      cases hg

theorem WkAt.below (h : WkAt w0 w sp p ms c F kv ks most tv s) (hb : Below w.heap.size w w') : WkAt w0 w' sp p ms c F kv ks most tv s :=
  h.turn (Mod.of_below hb) ((hb.block p h.plt).trans h.cell) (h.seen.kept (hb.block ms h.seen.lt)) (h.best.below hb) (own_below h.todo hb) (fun _k hk => .inl hk) (.inl rfl)

theorem WkAt.saw (h : WkAt w0 w sp p ms c F kv ks most tv s) {k : Int} (hk : k ∉ s.S) : ∃ w', (Instr.mapUpdate 117 (.map (some ms)) (.int .u64 k) (.bool true)).run Tryz.prog w = .ok () w' ∧ WkAt w0 w' sp p ms c F kv ks most tv ⟨s.L, s.S ++ [k], s.T⟩ ∧ Mod (fun j => j = ms) w w' := by
  obtain ⟨w', hr, hm, hg, hsz⟩ := run_put (P := Tryz.prog) (int_keyOf Tryz.underlying36) Tryz.underlying117 h.seen k (.bool true)
  have hmod : Mod (fun j => j = ms) w w' := (Mod.refl _ w).grown hg (fun j hj => .inl (by cases hj; rfl))
  obtain ⟨h1, h2, h3⟩ := h.self
  have e : putK (seenM s.S) k (.bool true) = seenM (s.S ++ [k]) := by
    unfold seenM
    rw [List.map_append]
    have : ∀ L : List (Int × Value), (∀ x ∈ L, x.1 ≠ k) → putK L k (.bool true) = L ++ [(k, .bool true)] := by
      intro L
      induction L with
      | nil => intro _; rfl
      | cons x L ih =>
        intro hx
        have h0 := hx x (by simp)
        simp only [putK]
        rw [if_neg h0, ih fun y hy => hx y (by simp [hy])]
        rfl
    rw [this]
    · rfl
    · intro x hx
      obtain ⟨y, hy, rfl⟩ := List.mem_map.1 hx
      rintro rfl
      exact hk hy
  rw [e] at hm
  refine ⟨w', hr, ?_, hmod⟩
  have hkp : ∀ j, j < w.heap.size → j ≠ ms → w'.heap[j]? = w.heap[j]? := fun j hj hne => hmod.block j hj hne
  refine h.turn (hmod.mono fun j _ e => .inr (.inr (.inl e))) ((hkp p h.plt h1).trans h.cell) hm ?_ ?_ (fun j hj => .inl hj) (.inl rfl)
  · exact h.best.agree (fun j hj => hkp j (h.fhi j hj).2 (by rintro rfl; exact h.fms hj)) hmod.size
  · exact h.todo.kept (row := some ms) hg (.inr h3)
end

end Go.Proofs.YtpjbkaibgajpcaaGreat

namespace Go.Proofs.YtpjbkaibgajpcaaGreat
open Go.RowKit
set_option maxRecDepth 20000

structure Queue (w : World) (B e g off cap : Nat) (xs : List Value) : Prop where
  own : B ≤ g
  blk : ∃ cur, w.heap[g]? = some (.cells cur e (0, 0)) ∧ off + cap ≤ cur.size ∧ ∀ j u, xs[j]? = some u → cur[off + j]? = some u
  le : xs.length ≤ cap
  max : cap ≤ maxLen

theorem Queue.lt {w : World} {B e g off cap : Nat} {xs : List Value} (h : Queue w B e g off cap xs) : g < w.heap.size := by
  obtain ⟨cur, h1, -⟩ := h.blk
  exact lt_block h1

theorem Queue.kept {w w' : World} {B e g off cap : Nat} {xs : List Value} (h : Queue w B e g off cap xs) (hb : w'.heap[g]? = w.heap[g]?) : Queue w' B e g off cap xs := by
  obtain ⟨cur, h1, h2⟩ := h.blk
  exact ⟨h.own, ⟨cur, hb.trans h1, h2⟩, h.le, h.max⟩

theorem Queue.cell {w : World} {B e g off cap : Nat} {xs : List Value} (h : Queue w B e g off cap xs) {j : Nat} {u : Value} (hj : xs[j]? = some u) : w.cell? ⟨g, off + j, none⟩ = some u := by
  obtain ⟨cur, h1, h2, h3⟩ := h.blk
  simp only [World.cell?, h1]
  exact h3 j u hj

theorem Queue.one {w : World} {B e g : Nat} {u : Value} (hB : B ≤ g) (h : w.heap[g]? = some (.cells #[u] e (0, 0))) : Queue w B e g 0 1 [u] :=
  ⟨hB, ⟨_, h, by simp, fun j v hj => by cases j with | zero => simpa using hj | succ j => simp at hj⟩, by simp, by simp [maxLen]⟩

theorem Queue.tail {w : World} {B e g off cap : Nat} {x : Value} {xs : List Value} (h : Queue w B e g off cap (x :: xs)) : Queue w B e g (off + 1) (cap - 1) xs := by
  obtain ⟨cur, h1, h2, h3⟩ := h.blk
  have hl := h.le
  have hm := h.max
  simp only [List.length_cons] at hl
  refine ⟨h.own, ⟨cur, h1, by omega, fun j u hj => ?_⟩, by omega, by omega⟩
  have := h3 (j + 1) u (by simpa using hj)
  rwa [show off + (j + 1) = off + 1 + j by omega] at this

theorem Queue.none {w : World} {B e g off cap : Nat} {xs : List Value} (h : Queue w B e g off cap xs) : Queue w B e g off 0 [] := by
  obtain ⟨cur, h1, h2, h3⟩ := h.blk
  exact ⟨h.own, ⟨cur, h1, by omega, fun j u hj => by simp at hj⟩, by simp, by simp⟩

theorem own_agree {w w' : World} {B e s n : Nat} {v : Value} {xs : List Value} (h : w.ownsRow B e s v n xs) (ha : ∀ k, v.ownBlock = some k → w'.heap[k]? = w.heap[k]?) : w'.ownsRow B e s v n xs := by
  obtain ⟨h1, ⟨h2, h3⟩ | ⟨g, cap, cur, hv, hb, hg, hn, hc, hs, ht⟩⟩ := h
  · exact ⟨h1, .inl ⟨h2, h3⟩⟩
  · exact ⟨h1, .inr ⟨g, cap, cur, hv, hb, by rw [ha g (by rw [hv]; rfl)]; exact hg, hn, hc, hs, ht⟩⟩

theorem own_len {w : World} {B e size n m cap : Nat} {p : Option Addr} {xs : List Value} (h : w.ownsRow B e size (.slice p m cap) n xs) : m = n := by
  rcases h.2 with ⟨he, h0⟩ | ⟨g, c, cur, he, -⟩
  · cases he; exact h0.symm
  · cases he; rfl

theorem own_short {w : World} {B e s n : Nat} {v : Value} {xs : List Value} (h : w.ownsRow B e s v n xs) : n ≤ 9223372036854775807 := by
  rcases h.2 with ⟨-, h0⟩ | ⟨g, c, cur, -, -, -, h1, h2, -⟩
  · omega
  · simp only [maxLen] at h2; omega

section
variable {P : Program}

theorem run_queue {t e bytes : Nat} {z : Value} (R : RowTy P t e 1 bytes z) {w : World} {B g off cap : Nat} {xs : List Value} (hq : Queue w B e g off cap xs)
    {g0 : Nat} {u : Value} {te : TypeId} {fr : Nat × Nat} (hg : w.heap[g0]? = some (.cells #[u] te fr)) (h1 : u.oneCell' = true) (h63 : xs.length + 1 ≤ 1000000) (hby : bytes ≤ 1000) (hBw : B ≤ w.heap.size) :
    ∃ g' off' cap' w', (∀ ty, (Builtin.append_ #[t, t] ty #[.slice (some ⟨g, off, none⟩) xs.length cap, .slice (some ⟨g0, 0, none⟩) 1 1]).run P w = .ok (.slice (some ⟨g', off', none⟩) (xs.length + 1) cap') w') ∧
      Queue w' B e g' off' cap' (xs ++ [u]) ∧ w.grownBy w' (some g) ∧ (g' = g ∨ g' = w.heap.size) := by
  obtain ⟨i, hi, hz, hs, hb⟩ := info_parts R.info
  obtain ⟨cur, c1, c2, c3⟩ := hq.blk
  have hle := hq.le
  have hmax := hq.max
  have hsrc : Src P i.size t (.slice (some ⟨g0, 0, none⟩) 1 1) 1 [u] w := Src.ofSlice w R.ty ⟨g0, 0, none⟩ 1 1 [u] (by simp [hs]) (by
    have := World.news_of_block (cs := #[u]) (t := te) (fr := fr) hg
    simpa using this) (by simpa using h1)
  by_cases hroom : xs.length + 1 ≤ cap
  · have hr := fun ty => run_append_room_src (P := P) w t t ty e i R.ty hi g off xs.length cap (.slice (some ⟨g0, 0, none⟩) 1 1) 1 [u] hsrc hroom
      (fun j hj => by
        simp only [List.length_cons, List.length_nil] at hj
        obtain rfl : j = 0 := by omega
        simp only [World.cell?, c1, hs]
        rw [Array.getElem?_eq_getElem (by omega)]; rfl)
      (fun j hj => by simp [World.frozen?, c1])
    refine ⟨g, off, cap, _, hr, ⟨hq.own, ⟨cur.setIfInBounds (off + xs.length * i.size) u, ?_, by simpa using c2, fun j v hj => ?_⟩, by simpa using hroom, hmax⟩, grownBy_setCells g [u] _ w, .inl rfl⟩
    · simp [World.setCells, World.setCell, Array.getElem?_modify, c1]
    · rw [hs, Nat.mul_one, Array.getElem?_setIfInBounds]
      rcases Nat.lt_or_ge j xs.length with hj1 | hj1
      · rw [if_neg (by omega)]
        rw [List.getElem?_append_left hj1] at hj
        exact c3 j v hj
      · have hj2 : j < (xs ++ [u]).length := (List.getElem?_eq_some_iff.1 hj).1
        simp only [List.length_append, List.length_cons, List.length_nil] at hj2
        obtain rfl : j = xs.length := by omega
        rw [if_pos rfl, if_pos (by omega)]
        rw [List.getElem?_append_right (by omega)] at hj
        simpa using hj
  · have hcells : ∀ j v, xs[j]? = some v → w.cell? ((⟨g, off, none⟩ : Addr).add j) = some v := fun j v hj => by rw [Addr.add_lit]; exact hq.cell hj
    have hold : (Builtin.firstCells i.size xs.length (.slice (some ⟨g, off, none⟩) xs.length cap)).run P w.drew = .ok xs.toArray w.drew :=
      run_firstCells_some w.drew i.size xs.length _ _ _ xs (by simp [hs]) (by simpa using hcells)
    have hfit : Builtin.nextslicecap (xs.length + 1) cap * i.bytes ≤ 281474976710656 := growslice_fits (by omega) (by
      rw [hb]
      calc (xs.length + 1) * bytes ≤ 1000000 * 1000 := Nat.mul_le_mul h63 hby
        _ ≤ _ := by omega)
    have hr := fun ty => run_append_grow_src (P := P) w t t ty e i z R.ty hi hz (some ⟨g, off, none⟩) xs.length cap xs hold (.slice (some ⟨g0, 0, none⟩) 1 1) 1 [u] hsrc (by omega) (by omega) hfit
    have hge := grownCap_ge w (xs.length + 1) cap e
    have hcm : grownCap w (xs.length + 1) cap e ≤ maxLen := grownCap_le_maxLen w (xs.length + 1) cap e (by simp [maxLen]; omega)
    refine ⟨w.heap.size, 0, _, _, hr, ⟨hBw, ⟨_, heap_alloc_new w.drew _, ?_, fun j v hj => ?_⟩, by simpa using hge, hcm⟩, ⟨rfl, rfl, rfl, by simp, fun k hk _ => heap_alloc_old w.drew _ hk⟩, .inr rfl⟩
    · have hzs := R.zs
      simp only [Array.size_append, List.size_toArray, List.length_append, List.length_cons, List.length_nil, size_zeroCells, hzs]
      omega
    · rw [Nat.zero_add]
      have hj2 : j < (xs ++ [u]).length := (List.getElem?_eq_some_iff.1 hj).1
      rw [Array.getElem?_append_left (by simpa using hj2)]
      simpa using hj
end

end Go.Proofs.YtpjbkaibgajpcaaGreat

namespace Go.Proofs.YtpjbkaibgajpcaaGreat
open Go.RowKit Go.ChangeMaps
set_option maxRecDepth 20000

theorem bare_rows {w : World} {G : Nat → Prop} : ∀ {T : List Hz}, (∀ h ∈ T, h.vec = []) → Rows3 w G (T.map bareV) T := by
  intro T hT
  refine ⟨by simp, fun i h1 h2 => ?_⟩
  simp only [List.getElem_map, bareV]
  have e := hT _ (List.getElem_mem h2)
  rw [e]
  exact ⟨trivial, trivial, Nums.mk (xs := []) (by simp) (by simp) (by simp) (by simp), fun h => absurd h (by simp)⟩

theorem bare_insD (T : List Hz) (h : Hz) : (insD T h).map bareV = (T.map bareV).take (rankD T h) ++ bareV h :: (T.map bareV).drop (rankD T h) := by
  simp [insD, List.map_take, List.map_drop]

theorem setBk_other {w : World} {b k : Nat} {j : Nat} {v : Value} (h : k ≠ b) : (w.setCell ⟨b, j, none⟩ v).heap[k]? = w.heap[k]? := by
  simp [World.setCell, Array.getElem?_modify, Ne.symm h]

section
variable {w0 w : World} {sp : Value} {p ms c : Nat} {F : Nat → Prop} {kv : Value} {ks : List Int} {most : Nat} {tv : Value} {s : Ws}

theorem WkAt.hits (h : WkAt w0 w sp p ms c F kv ks most tv s) (hb : ∀ x ∈ s.T, x.vec = []) : HitsF w (fun k => tv.ownBlock = some k) tv s.T :=
  HitsF.of_own h.todo (fun _b hb => hb) (bare_rows hb)

theorem WkAt.added (h : WkAt w0 w sp p ms c F kv ks most tv s) (hm : 1 ≤ most ∧ most ≤ 1000) (g : GoodL most s.L) (k d : Int) (W1 : World) (hW1 : W1 = w.alloc (.cells #[.int .u64 k, .int .u64 d, .slice none 0 0] 38)) :
    Calls Tryz.prog 92 #[.pointer (some ⟨c, 0, none⟩), .slice (some ⟨w.heap.size, 0, none⟩) 1 1] W1 fun e w' => ∃ (z : Int) (F' : Nat → Prop), e = .returned (.int .i64 z) ∧ WkAt w0 w' sp p ms c F' kv ks most tv ⟨(addZ most s.L (hitK k d)).2, s.S, s.T⟩ ∧ Mod F w w' := by
  have hb1 : Below w.heap.size w W1 := by rw [hW1]; exact (Below.refl _ w).alloc (Nat.le_refl _) _
  have h1 := h.below hb1
  have hs1 : W1.heap.size = w.heap.size + 1 := by rw [hW1]; simp
  have hv : HitsF W1 (fun j => j = w.heap.size) (.slice (some ⟨w.heap.size, 0, none⟩) 1 1) [hitK k d] := by
    have hh : W1.heap[w.heap.size]? = some (.cells #[.int .u64 k, .int .u64 d, .slice none 0 0] 38 (0, 0)) := by rw [hW1]; exact heap_alloc_new _ _
    refine ⟨some ⟨w.heap.size, 0, none⟩, 1, rfl, by simp, by simp, by simp, fun i hi => ?_⟩
    obtain rfl : i = 0 := by simpa using hi
    refine ⟨w.heap.size, 0, .slice none 0 0, rfl, rfl, ?_, ?_, ?_, Nums.mk (xs := []) (by simp) (by simp) (by simp) (by simp), fun hn => absurd hn (by simp [hitK])⟩
    · exact cellsB hh 0
    · exact cellsB hh 1
    · exact cellsB hh 2
  refine (adds w0.heap.size c F (fun j => j = w.heap.size) most s.L [hitK k d] _ W1 hm.1 (by omega) h1.best (fun j hj => (h1.fhi j hj).2) (Nat.le_trans h1.old.size (Nat.le_refl _)) g hv (fun j hj => ⟨by omega, fun hF => by have := (h.fhi j hF).2; omega⟩) (by simp [hitK]) (by simp)).mono ?_
  rintro e w' ⟨rfl, hl, hmod⟩
  have hA : (addsZ most s.L [hitK k d]).2 = (addZ most s.L (hitK k d)).2 := by simp [addsZ]
  rw [hA] at hl
  have hsz := hmod.size
  have hmw : Mod F w w' := (Mod.of_below (F := F) hb1).trans hmod fun j _ e => e
  refine ⟨_, Plus F W1 w', rfl, h.turn (hmw.mono fun j _ e => .inl e) ((hmw.block p h.plt h.fp).trans h.cell) (h.seen.kept (hmw.block ms h.seen.lt h.fms)) hl (own_agree h.todo fun j hj => hmw.block j (h.todo.lt j hj).2 (h.ft j hj)) (fun j hj => ?_) (.inl rfl), hmw⟩
  rcases hj with hj | hj
  · exact .inl hj
  · exact .inr ⟨by omega, hj.2⟩

theorem WkAt.inserted (h : WkAt w0 w sp p ms c F kv ks most tv s) (k d : Int) (hT : s.T.length ≤ 100000) (W1 : World) (hW1 : W1 = w.alloc (.cells #[.int .u64 k, .int .u64 d, .slice none 0 0] 38)) :
    Calls Tryz.prog 95 #[tv, .int .i64 (rankD s.T (hitK k d)), .slice (some ⟨w.heap.size, 0, none⟩) 1 1] W1 fun e w' => ∃ (q : Option Addr) (n c' : Nat), e = .returned (.slice q n c') ∧
      WkAt w0 (w'.setCell ⟨p, 3, none⟩ (.slice q n c')) sp p ms c F kv ks most (.slice q n c') ⟨s.L, s.S, insD s.T (hitK k d)⟩ ∧ (∀ i (_hi : i < 3), w'.cell? ⟨p, i, none⟩ = w.cell? ⟨p, i, none⟩) ∧ w'.cell? ⟨p, 3, none⟩ = some tv ∧ w'.frozen? ⟨p, 3, none⟩ = false ∧ ∀ j, j < w.heap.size → tv.ownBlock ≠ some j → w'.heap[j]? = w.heap[j]? := by
  have hb1 : Below w.heap.size w W1 := by rw [hW1]; exact (Below.refl _ w).alloc (Nat.le_refl _) _
  have h1 := h.below hb1
  have hs1 : W1.heap.size = w.heap.size + 1 := by rw [hW1]; simp
  have hh : W1.heap[w.heap.size]? = some (.cells #[.int .u64 k, .int .u64 d, .slice none 0 0] 38 (0, 0)) := by rw [hW1]; exact heap_alloc_new _ _
  obtain ⟨tp, tn, tc, rfl⟩ := own_form h.todo
  obtain rfl : tn = s.T.length := own_len h.todo
  refine (insert w0.heap.size tp s.T.length tc (rankD s.T (hitK k d)) (s.T.map bareV) (bareV (hitK k d)) w.heap.size W1 h1.todo (by simp) (rankD_le _ _) h1.old.size (by omega) (by rfl) (fun x hx => by obtain ⟨y, -, rfl⟩ := List.mem_map.1 hx; rfl) hh (fun e => by have := (h.todo.lt _ e).2; omega)).mono ?_
  rintro e w' ⟨q, n, c', rfl, ho, hmod, hown⟩
  rw [← bare_insD] at ho
  obtain rfl : n = s.T.length + 1 := own_len ho
  have hsz := hmod.size
  obtain ⟨e1, e2, e3⟩ := h1.self
  have hmw : Mod (WkF p ms F (.slice tp s.T.length tc)) w w' := (Mod.of_below hb1).trans (hmod.mono fun j _ e => .inr (.inr (.inr e))) fun j _ e => e
  have hcell : w'.heap[p]? = some (.cells #[sp, .pointer (some ⟨c, 0, none⟩), .map (some ms), .slice tp s.T.length tc] 119 (0, 0)) := (hmod.block p h1.plt e2).trans h1.cell
  have hset := setBk hcell 3 (.slice q (s.T.length + 1) c')
  have hkF : ∀ j, j < W1.heap.size → F j → w'.heap[j]? = W1.heap[j]? := fun j hj hF => hmod.block j hj fun e => h1.ft j e hF
  have hpt : (Value.slice q (s.T.length + 1) c').ownBlock ≠ some p := by
    rcases hown with e | e
    · rw [e]; exact e2
    · intro e4
      have := e p e4
      have := h1.plt
      omega
  refine ⟨q, s.T.length + 1, c', rfl, h.turn (hmw.setCell (p := ⟨p, 3, none⟩) (.inl (.inr (.inl rfl))) _) (by simpa using hset) ?_ ?_ ?_ (fun j hj => .inl hj) ?_, fun i hi => ?_, cellsB hcell 3, ?_, fun j hj hne => (hmod.block j (by omega) hne).trans (hb1.block j hj)⟩
  · exact (h1.seen.kept (hmod.block ms h1.seen.lt e3)).kept (setBk_other (Ne.symm e1))
  · exact (h1.best.agree (fun j hj => hkF j (h1.fhi j hj).2 hj) hmod.size).agree (fun j hj => setBk_other (by rintro rfl; exact h.fp hj)) (by simp [World.setCell])
  · rw [insD_length]
    exact own_agree ho fun j hj => setBk_other (by rintro rfl; exact hpt hj)
  · rcases hown with e | e
    · exact .inl e
    · exact .inr fun b hb => ⟨by have := e b hb; omega, fun hF => by have h5 := e b hb; have h6 := (h1.fhi b hF).2; omega⟩
  · rw [cellsB hcell i, cellsB h.cell i]
  · simp [World.frozen?, hcell]
end

end Go.Proofs.YtpjbkaibgajpcaaGreat

namespace Go.Proofs.YtpjbkaibgajpcaaGreat
open Go.RowKit
set_option maxRecDepth 20000

end Go.Proofs.YtpjbkaibgajpcaaGreat

namespace Go.Proofs.YtpjbkaibgajpcaaGreat
open Go.RowKit
set_option maxRecDepth 20000

theorem hz_ext {a b : Hz} (h1 : a.id = b.id) (h2 : a.dist = b.dist) (h3 : a.vec = b.vec) : a = b := by
  cases a; cases b; simp_all

set_option maxHeartbeats 4000000 in
theorem sameHits (F G : Nat → Prop) (l m : List Hz) (v u : Value) (w : World) (h : HitsF w F v l) (g : HitsF w G u m) :
    Calls Tryz.prog 25 #[v, u] w fun e w' => e = .returned (.bool (decide (l = m))) ∧ Drawn w w' := by
  obtain ⟨p, cap, rfl, hcap, hbig, -, -⟩ := id h
  have hl : l.length ≤ 9223372036854775807 := by omega
  clear hcap hbig
  obtain ⟨q, cap', rfl, hcap', hbig', -, -⟩ := id g
  have hl' : m.length ≤ 9223372036854775807 := by omega
  clear hcap' hbig'
  have H := Lib.hid h
  have GG := Lib.hid g
  clear h g
  by_cases h3 : l.length = m.length
  · have h4 : ((l.length : Int) != m.length) = false := by simp [h3]
    have H3 := Lib.hid h3
    clear h3
    go_enter Tryz.func25, Tryz.ntmps25
    go_wp2_with fail
    go_loopg [5, 13] l.length (fun q _ i wr => ∃ k : Nat, q = l.length - k ∧ k ≤ l.length ∧ i = .int .i64 k ∧ l.take k = m.take k ∧ Drawn w wr)
    case atStart => exact ⟨0, rfl, by omega, rfl, rfl, Drawn.refl _⟩
    case round =>
      obtain ⟨k, rfl, hk, rfl, hall, hb⟩ := hrel
      have A := Lib.hid (And.intro hall hb)
      clear hall hb
      by_cases hlt : k < l.length
      · have hlt' : k < m.length := by have := H3.out; omega
        obtain ⟨rs', -, -, hel⟩ := (H.out.below A.out.2.below).rows
        obtain ⟨b, off, up1, uc1, -, rfl, -, -, c0, c1, c2, hu1, -⟩ := hel k hlt
        obtain ⟨rs2, -, -, hel'⟩ := (GG.out.below A.out.2.below).rows
        obtain ⟨b', off', up2, uc2, -, rfl, -, -, c0', c1', c2', hu2, -⟩ := hel' k hlt'
        have U1 := Lib.hid hu1
        have U2 := Lib.hid hu2
        clear hu1 hu2 hel hel'
        have k0 : (0 : Int) ≤ (k : Int) := by omega
        have k1 : (k : Int) < (l.length : Int) := by omega
        have k2 : (k : Int) < (m.length : Int) := by omega
        by_cases hx : l[k].id = m[k].id
        · have hne : (l[k].id != m[k].id) = false := by simp [hx]
          have E := Lib.hid hx
          clear hx
          by_cases hy : l[k].dist = m[k].dist
          · have hne2 : (l[k].dist != m[k].dist) = false := by simp [hy]
            have E2 := Lib.hid hy
            clear hy
            by_cases hv : l[k].vec = m[k].vec
            · have hd : decide (l[k].vec = m[k].vec) = true := by simp [hv]
              have V := Lib.hid hv
              clear hv
              have S := fun n => sameVecQ l[k].vec m[k].vec (.slice up1 l[k].vec.length uc1) (.slice up2 m[k].vec.length uc2) (wr.drewN n) (U1.out.below (Drawn.below ⟨n, rfl⟩)) (U2.out.below (Drawn.below ⟨n, rfl⟩))
              rw [hd] at S
              have SS := Lib.hid S
              clear S hd
              go_wp2_with fail
              go_quiet ((go_at_call 17; exact Calls.quiet_of (SS.out _)))
              go_wp2_with fail
              go_roundg (l.length - (k + 1))
              case measure => omega
              case rel => exact ⟨k + 1, rfl, by omega, by go_num, by rw [List.take_succ_eq_append_getElem hlt, List.take_succ_eq_append_getElem hlt', A.out.1, hz_ext E.out E2.out V.out], A.out.2.drewN _⟩
            · have hd : decide (l[k].vec = m[k].vec) = false := by simp [hv]
              have V := Lib.hid hv
              clear hv
              have S := fun n => sameVecQ l[k].vec m[k].vec (.slice up1 l[k].vec.length uc1) (.slice up2 m[k].vec.length uc2) (wr.drewN n) (U1.out.below (Drawn.below ⟨n, rfl⟩)) (U2.out.below (Drawn.below ⟨n, rfl⟩))
              rw [hd] at S
              have SS := Lib.hid S
              clear S hd
              go_wp2_with fail
              go_quiet ((go_at_call 17; exact Calls.quiet_of (SS.out _)))
              go_wp2_with fail
              go_ret
              exact ⟨ret_bool (by simp; intro e; subst e; exact V.out rfl), A.out.2.drewN _⟩
          · have hne2 : (l[k].dist != m[k].dist) = true := by simp [hy]
            have E2 := Lib.hid hy
            clear hy
            go_wp2_with fail
            go_quiet (fail)
            go_wp2_with fail
            go_ret
            exact ⟨ret_bool (by simp; intro e; subst e; exact E2.out rfl), A.out.2.drewN _⟩
        · have hne : (l[k].id != m[k].id) = true := by simp [hx]
          have E := Lib.hid hx
          clear hx
          go_wp2_with fail
          go_quiet (fail)
          go_wp2_with fail
          go_ret
          exact ⟨ret_bool (by simp; intro e; subst e; exact E.out rfl), A.out.2.drewN _⟩
      · go_wp2_with fail
        go_ret
        have h3 := H3.out
        have h4 := A.out.1
        rw [List.take_of_length_le (by omega), List.take_of_length_le (by omega)] at h4
        exact ⟨ret_bool (by simp [h4]), A.out.2⟩
  · have h4 : ((l.length : Int) != m.length) = true := by simp; omega
    go_enter Tryz.func25, Tryz.ntmps25
    go_wp2_with fail
    go_ret
    exact ⟨ret_bool (by simp; intro e; exact h3 (by rw [e])), Drawn.refl _⟩

end Go.Proofs.YtpjbkaibgajpcaaGreat
