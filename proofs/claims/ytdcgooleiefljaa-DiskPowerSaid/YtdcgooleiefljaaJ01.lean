/-
  Ground words of this family: how a slice in memory reads as a list of cells, and what a call leaves as it was.
  A map in memory as a list of pairs, in the order in which the keys came: what each operation on it does.
-/
import Derived.Test.YtdcgooleiefljaaRows
import Derived.WalkKit
import Derived.WalkSpells
import Derived.WalkLawsBesides
import Derived.Lib.Hide
import Derived.Deep.LoopGhost
import Derived.Deep.QuietTactic
import Derived.BigQuiet
import Derived.Handy
import Derived.ChangeMaps5
import Derived.Maps.Own
namespace Go.Proofs.Ytdcgooleiefljaa
open Go.RowKit

theorem uA1 {α : Type} (l : List α) (i : Nat) (a : α) : l.toArray.setIfInBounds i a = (l.set i a).toArray := List.setIfInBounds_toArray ..
theorem uB1 {α : Type} (x : α) (xs : List α) (a : α) : (x :: xs).set 0 a = a :: xs := List.set_cons_zero ..
theorem uC1 {α : Type} (x : α) (xs : List α) (n : Nat) (a : α) : (x :: xs).set (n + 1) a = x :: xs.set n a := List.set_cons_succ ..

/-- the slice value v of n elements (size cells each) reads in w as the cells xs -/
def Reads (w : World) (v : Value) (size n : Nat) (xs : List Value) : Prop :=
  xs.length = n * size ∧ ∃ p cap, v = .slice p n cap ∧ n ≤ cap ∧ cap ≤ 9223372036854775807 ∧ (p = none → cap = 0) ∧
    ∀ j u, xs[j]? = some u → ∃ b off, p = some ⟨b, off, none⟩ ∧ w.cell? ⟨b, off + j, none⟩ = some u

/-- a slice of numbers of kind k -/
def Nums (w : World) (k : IntKind) (v : Value) (xs : List Int) : Prop := Reads w v 1 xs.length (xs.map (Value.int k))

theorem Nums.slice {w : World} {k : IntKind} {v : Value} {xs : List Int} (h : Nums w k v xs) : ∃ p cap, v = .slice p xs.length cap ∧ xs.length ≤ cap ∧ cap ≤ 9223372036854775807 ∧ (p = none → cap = 0) ∧
    ∀ i (hi : i < xs.length), ∃ b off, p = some ⟨b, off, none⟩ ∧ w.cell? ⟨b, off + i, none⟩ = some (.int k xs[i]) := by
  obtain ⟨_, p, cap, hv, h1, h2, h3, h4⟩ := h
  exact ⟨p, cap, hv, h1, h2, h3, fun i hi => h4 i _ (by simp [List.getElem?_eq_getElem hi])⟩

theorem Nums.mk {w : World} {k : IntKind} {p : Option Addr} {cap : Nat} {xs : List Int} (h1 : xs.length ≤ cap) (h2 : cap ≤ 9223372036854775807) (h3 : p = none → cap = 0)
    (h4 : ∀ i (hi : i < xs.length), ∃ b off, p = some ⟨b, off, none⟩ ∧ w.cell? ⟨b, off + i, none⟩ = some (.int k xs[i])) : Nums w k (.slice p xs.length cap) xs := by
  refine ⟨by simp, p, cap, rfl, h1, h2, h3, fun j u hj => ?_⟩
  rw [List.getElem?_map, Option.map_eq_some_iff] at hj
  obtain ⟨x, hx, rfl⟩ := hj
  obtain ⟨hj', rfl⟩ := List.getElem?_eq_some_iff.1 hx
  exact h4 j hj'

theorem lt_of_cell {w : World} {a : Addr} {v : Value} (h : w.cell? a = some v) : a.block < w.heap.size := by
  refine Nat.lt_of_not_le fun hge => ?_
  simp [World.cell?, Array.getElem?_eq_none hge] at h

theorem Reads.below {w w' : World} {v : Value} {size n : Nat} {xs : List Value} (h : Reads w v size n xs) (hb : Below w.heap.size w w') : Reads w' v size n xs := by
  obtain ⟨h0, p, cap, hv, h1, h2, h3, h4⟩ := h
  refine ⟨h0, p, cap, hv, h1, h2, h3, fun j u hj => ?_⟩
  obtain ⟨b, off, hp, hc⟩ := h4 j u hj
  exact ⟨b, off, hp, by rw [hb.cell (lt_of_cell hc)]; exact hc⟩

theorem Nums.below {w w' : World} {k : IntKind} {v : Value} {xs : List Int} (h : Nums w k v xs) (hb : Below w.heap.size w w') : Nums w' k v xs := Reads.below h hb

theorem Nums.elem {w : World} {k : IntKind} {p : Option Addr} {n cap : Nat} {xs : List Int} (h : Nums w k (.slice p n cap) xs) {j : Nat} (hj : j < xs.length) :
    ∃ b off, p = some ⟨b, off, none⟩ ∧ w.cell? ⟨b, off + j, none⟩ = some (.int k xs[j]) := by
  obtain ⟨p', cap', hv, _, _, _, h⟩ := h.slice
  simp only [Value.slice.injEq] at hv
  obtain ⟨rfl, _, _⟩ := hv
  exact h j hj

theorem below_cells {w w' : World} (hb : Below w.heap.size w w') {a : Addr} {v : Value} (h : w.cell? a = some v) : w'.cell? a = some v := by
  rw [hb.cell (lt_of_cell h)]; exact h

/-- the world but for draws -/
def Drawn (w w' : World) : Prop := ∃ n, w' = w.drewN n
theorem Drawn.refl (w : World) : Drawn w w := ⟨0, rfl⟩
theorem Drawn.drewN {w w' : World} (h : Drawn w w') (m : Nat) : Drawn w (w'.drewN m) := by
  obtain ⟨n, rfl⟩ := h; exact ⟨n + m, by simp⟩
theorem Drawn.below {w w' : World} (h : Drawn w w') : Below w.heap.size w w' := by
  obtain ⟨n, rfl⟩ := h; exact below_drewN (Below.refl _ _) n

theorem sw {P : Program} {f : FuncId} {args : Array Value} {w : World} {v : Value} (h : Calls P f args w fun e w' => e = .returned v ∧ w = w') :
    Calls P f args w fun e w' => e = .returned v ∧ w' = w := h.mono fun _ _ ⟨a, b⟩ => ⟨a, b.symm⟩

theorem ret_eq {a b : Value} (h : a = b) : Ending.returned a = .returned b := by rw [h]
theorem ret_int {k : IntKind} {a b : Int} (h : a = b) : Ending.returned (.int k a) = .returned (.int k b) := by rw [h]
theorem ret_bool {a b : Bool} (h : a = b) : Ending.returned (.bool a) = .returned (.bool b) := by rw [h]
theorem ret_ii {k k' : IntKind} {a b c d : Int} (h : a = c) (h' : b = d) : Ending.returned (.tuple #[.int k a, .int k' b]) = .returned (.tuple #[.int k c, .int k' d]) := by rw [h, h']
theorem ret_two {a b c d : Value} (h : a = c) (h' : b = d) : Ending.returned (.tuple #[a, b]) = .returned (.tuple #[c, d]) := by rw [h, h']

end Go.Proofs.Ytdcgooleiefljaa

namespace Go.Proofs.Ytdcgooleiefljaa
open Go.RowKit Go.ChangeMaps

/-- keys of the type K are the values mk a -/
structure KeyOf (P : Program) (K : TypeId) {α : Type} [DecidableEq α] (mk : α → Value) : Prop where
  plain : ∃ d, P.underlying K = some d ∧ (∀ a b, Instr.sameNow d (mk a) (mk b) = some (decide (a = b))) ∧ (∀ e n w (a : α), (Instr.checkKey e (n + 1) K (mk a)).run P w = .ok () w)
  bits : ∀ n a, Instr.sameBits n (mk a) (mk a) = true

theorem int_keyOf {P : Program} {K : TypeId} {k : IntKind} (h : P.underlying K = some (.int k)) : KeyOf P K (Value.int k) := by
  refine ⟨⟨_, h, fun a b => ?_, fun e n w a => ?_⟩, fun n a => by cases n <;> simp [Instr.sameBits]⟩
  · simp only [Instr.sameNow, if_true]
    by_cases hab : a = b <;> simp [hab]
  · simp [Instr.checkKey, run_underlying h, Result.andThen]

theorem beq_ba (a b : List UInt8) : ((⟨a.toArray⟩ : ByteArray) == ⟨b.toArray⟩) = decide (a = b) := by
  show (a.toArray == b.toArray) = _
  rw [Bool.eq_iff_iff]; simp

def strV (l : List UInt8) : Value := .string ⟨l.toArray⟩

theorem string_keyOf {P : Program} {K : TypeId} (h : P.underlying K = some .string) : KeyOf P K strV := by
  refine ⟨⟨_, h, fun a b => ?_, fun e n w a => ?_⟩, fun n a => by cases n <;> simp [Instr.sameBits, strV, beq_ba]⟩
  · simp only [Instr.sameNow, strV]
    rw [beq_ba]
  · simp [Instr.checkKey, run_underlying h, Result.andThen]

section
variable {P : Program} {K : TypeId} {α : Type} [DecidableEq α] {mk : α → Value}

/-- what a key has -/
def getK (L : List (α × Value)) (a : α) : Option Value := (L.find? fun p => decide (p.1 = a)).map (·.2)

/-- a key is given a value -/
def putK : List (α × Value) → α → Value → List (α × Value)
  | [], a, v => [(a, v)]
  | p :: L, a, v => if p.1 = a then (a, v) :: L else p :: putK L a v

/-- a key goes -/
def delK (L : List (α × Value)) (a : α) : List (α × Value) := L.filter fun p => decide (p.1 ≠ a)

/-- block b is a map that holds just these -/
structure MapIs (w : World) (mk : α → Value) (b : Nat) (L : List (α × Value)) (es : Array MapEntry) (clock : Nat) : Prop where
  obj : w.heap[b]? = some (.map es clock)
  ents : es.toList.map (fun e => (e.key, e.val)) = L.map fun p => (mk p.1, p.2)
  keys : (L.map (·.1)).Nodup
  stamps : (es.toList.map (·.born)).Nodup
  young : ∀ e ∈ es.toList, e.born < clock

def MapAt (w : World) (mk : α → Value) (b : Nat) (L : List (α × Value)) : Prop := ∃ es clock, MapIs w mk b L es clock

omit [DecidableEq α] in
theorem MapAt.kept {w w' : World} {b : Nat} {L : List (α × Value)} (h : MapAt w mk b L) (hb : w'.heap[b]? = w.heap[b]?) : MapAt w' mk b L := by
  obtain ⟨es, c, h⟩ := h
  exact ⟨es, c, ⟨by rw [hb]; exact h.obj, h.ents, h.keys, h.stamps, h.young⟩⟩

omit [DecidableEq α] in
theorem MapAt.lt {w : World} {b : Nat} {L : List (α × Value)} (h : MapAt w mk b L) : b < w.heap.size := by
  obtain ⟨es, c, h⟩ := h
  exact (Array.getElem?_eq_some_iff.1 h.obj).1

omit [DecidableEq α] in
theorem MapAt.made (w : World) : MapAt (α := α) (w.alloc (.map #[] 0)) mk w.heap.size [] :=
  ⟨#[], 0, ⟨heap_alloc_new _ _, rfl, by simp, by simp, by simp⟩⟩

/-- where a key is found -/
theorem findNow_eq {d : TypeDesc} (hd : ∀ a b, Instr.sameNow d (mk a) (mk b) = some (decide (a = b))) (a : α) :
    ∀ (es : List MapEntry) (L : List (α × Value)) (i : Nat), es.map (fun e => (e.key, e.val)) = L.map (fun p => (mk p.1, p.2)) →
      Instr.findNow d (mk a) es i = some ((L.findIdx? fun p => decide (p.1 = a)).bind fun j => (L[j]?).map fun p => (i + j, p.2))
  | [], [], _, _ => rfl
  | [], _ :: _, _, h => by simp at h
  | _ :: _, [], _, h => by simp at h
  | e :: es, p :: L, i, h => by
    simp only [List.map_cons, List.cons.injEq, Prod.mk.injEq] at h
    rw [Instr.findNow, h.1.1, hd]
    by_cases hp : p.1 = a
    · have h1 : decide (a = p.1) = true := by simp [hp]
      have h2 : decide (p.1 = a) = true := by simp [hp]
      rw [h1]
      simp [List.findIdx?_cons, h2, h.1.2]
    · have h1 : decide (a = p.1) = false := by simp; exact fun e => hp e.symm
      have h2 : decide (p.1 = a) = false := by simp [hp]
      rw [h1]
      simp only []
      rw [findNow_eq hd a es L (i + 1) h.2]
      simp only [List.findIdx?_cons, h2]
      cases L.findIdx? fun p => decide (p.1 = a) with
      | none => simp
      | some j => simp [Nat.add_comm, Nat.add_left_comm]

theorem getK_eq (L : List (α × Value)) (a : α) : getK L a = (L.findIdx? fun p => decide (p.1 = a)).bind fun j => (L[j]?).map (·.2) := by
  unfold getK
  induction L with
  | nil => rfl
  | cons p L ih =>
    by_cases hp : p.1 = a
    · simp [List.findIdx?_cons, hp]
    · simp only [List.find?_cons, List.findIdx?_cons, hp, decide_false]
      rw [ih]
      cases L.findIdx? fun p => decide (p.1 = a) <;> simp


theorem run_findKey (KO : KeyOf P K mk) {es : List MapEntry} {L : List (α × Value)} (h : es.map (fun e => (e.key, e.val)) = L.map fun p => (mk p.1, p.2)) (a : α) (w : World) :
    (Instr.findKey K (mk a) es).run P w = .ok ((L.findIdx? fun p => decide (p.1 = a)).bind fun j => (L[j]?).map fun p => (j, p.2)) w := by
  obtain ⟨d, hd, hs, _⟩ := KO.plain
  have := findNow_eq hs a es L 0 h
  simp only [Nat.zero_add] at this
  simp [Instr.findKey, run_underlying hd, this, Result.andThen]

/-- m[k], and v, ok := m[k] -/
theorem run_look (KO : KeyOf P K mk) {T E : TypeId} (hT : P.underlying T = some (.map K E)) {w : World} {b : Nat} {L : List (α × Value)} (h : MapAt w mk b L) {z : Value} (hz : (zeroValue E).run P w = .ok z w) (a : α) (c : Bool) :
    (Instr.lookup T (.map (some b)) (mk a) c).run P w = .ok (if c then .tuple #[(getK L a).getD z, .bool (getK L a).isSome] else (getK L a).getD z) w := by
  obtain ⟨es, clock, h⟩ := h
  obtain ⟨d, hd, hs, hck⟩ := KO.plain
  have hf := run_findKey KO h.ents a w
  rw [getK_eq]
  have hg := MapKept.run_getObj_map (P := P) h.obj
  have hc := hck es.isEmpty 9999 w a
  simp only [Instr.lookup, Sem.run_bind, run_underlying hT, hg, Result.andThen_ok, Sem.run_pure, hc, hf]
  cases hj : L.findIdx? fun p => decide (p.1 = a) with
  | none => cases c <;> simp [hz, Result.andThen]
  | some j =>
    obtain ⟨hj', _⟩ := List.findIdx?_eq_some_iff_getElem.1 hj
    cases c <;> simp [List.getElem?_eq_getElem hj']

theorem run_look_nil (KO : KeyOf P K mk) {T E : TypeId} (hT : P.underlying T = some (.map K E)) {w : World} {z : Value} (hz : (zeroValue E).run P w = .ok z w) (a : α) (c : Bool) :
    (Instr.lookup T (.map none) (mk a) c).run P w = .ok (if c then .tuple #[z, .bool false] else z) w := by
  obtain ⟨d, hd, hs, hck⟩ := KO.plain
  have hf := run_findKey KO (es := []) (L := []) rfl a w
  have hc := hck true 9999 w a
  simp only [Instr.lookup, Sem.run_bind, run_underlying hT, Result.andThen_ok, Sem.run_pure]
  simp only [show (#[] : Array MapEntry).isEmpty = true from rfl, hc, Result.andThen_ok]
  cases c <;> simp [hz, hf, Result.andThen]

theorem mem_putK_keys {L : List (α × Value)} {a : α} {v : Value} {x : α} : x ∈ (putK L a v).map (·.1) ↔ x ∈ L.map (·.1) ∨ x = a := by
  induction L with
  | nil => simp [putK]
  | cons p L ih =>
    unfold putK
    split
    · rename_i hp
      subst hp
      simp only [List.map_cons, List.mem_cons]
      constructor
      · rintro (h | h)
        · exact .inr h
        · exact .inl (.inr h)
      · rintro ((h | h) | h)
        · exact .inl h
        · exact .inr h
        · exact .inl h
    · simp only [List.map_cons, List.mem_cons, ih]
      constructor
      · rintro (h | h | h)
        · exact .inl (.inl h)
        · exact .inl (.inr h)
        · exact .inr h
      · rintro ((h | h) | h)
        · exact .inl h
        · exact .inr (.inl h)
        · exact .inr (.inr h)

theorem nodup_putK {L : List (α × Value)} (h : (L.map (·.1)).Nodup) (a : α) (v : Value) : ((putK L a v).map (·.1)).Nodup := by
  induction L with
  | nil => simp [putK]
  | cons p L ih =>
    simp only [List.map_cons, List.nodup_cons] at h
    unfold putK
    split
    · rename_i hp
      subst hp
      simpa using h
    · rename_i hp
      simp only [List.map_cons, List.nodup_cons]
      refine ⟨fun hm => ?_, ih h.2⟩
      rcases mem_putK_keys.1 hm with hm | hm
      · exact h.1 hm
      · exact hp hm

theorem putK_new {L : List (α × Value)} {a : α} (h : L.findIdx? (fun p => decide (p.1 = a)) = none) (v : Value) : putK L a v = L ++ [(a, v)] := by
  induction L with
  | nil => rfl
  | cons p L ih =>
    by_cases hp : p.1 = a
    · simp [List.findIdx?_cons, hp] at h
    · simp only [List.findIdx?_cons, hp, decide_false] at h
      simp only [putK, hp, if_false, List.cons_append]
      rw [ih (by simpa using h)]

theorem putK_old {L : List (α × Value)} {a : α} {j : Nat} (h : L.findIdx? (fun p => decide (p.1 = a)) = some j) (v : Value) : putK L a v = L.set j (a, v) := by
  induction L generalizing j with
  | nil => simp at h
  | cons p L ih =>
    by_cases hp : p.1 = a
    · simp [List.findIdx?_cons, hp] at h
      subst h
      simp [putK, hp]
    · simp only [List.findIdx?_cons, hp, decide_false] at h
      simp only [putK, hp, if_false]
      cases hj : L.findIdx? fun p => decide (p.1 = a) with
      | none => rw [hj] at h; simp at h
      | some i =>
        rw [hj] at h
        simp at h
        subst h
        rw [ih hj]
        rfl

theorem grownBy_setBlock {w : World} {b : Nat} {es : Array MapEntry} {clock : Nat} (h : w.heap[b]? = some (.map es clock)) (o : Obj) : w.grownBy (setBlock w b o) (some b) :=
  ⟨rfl, rfl, rfl, by simp [setBlock], fun k _ hne => heap_setBlock_other h o (fun e => hne (by rw [e]))⟩

/-- m[k] = v -/
theorem run_put (KO : KeyOf P K mk) {T E : TypeId} (hT : P.underlying T = some (.map K E)) {w : World} {b : Nat} {L : List (α × Value)} (h : MapAt w mk b L) (a : α) (v : Value) :
    ∃ w', (Instr.mapUpdate T (.map (some b)) (mk a) v).run P w = .ok () w' ∧ MapAt w' mk b (putK L a v) ∧ w.grownBy w' (some b) ∧ w'.heap.size = w.heap.size := by
  obtain ⟨es, clock, h⟩ := h
  obtain ⟨d, hd, hs, hck⟩ := KO.plain
  have hf := run_findKey KO h.ents a w
  have hg := MapKept.run_getObj_map (P := P) h.obj
  have hc := hck false 9999 w a
  have hlen : es.size = L.length := by have := congrArg List.length h.ents; simpa using this
  cases hj : L.findIdx? fun p => decide (p.1 = a) with
  | none =>
    rw [hj] at hf
    refine ⟨setBlock w b (.map (es.push { key := mk a, val := v, born := clock }) (clock + 1)), ?_, ⟨_, _, ⟨heap_setBlock_same h.obj _, ?_, nodup_putK h.keys a v, ?_, ?_⟩⟩, grownBy_setBlock h.obj _, by simp [setBlock]⟩
    · simp only [Option.bind_none] at hf
      simp only [Instr.mapUpdate, Sem.run_bind, run_underlying hT, hg, Result.andThen_ok, hc, hf, MapKept.run_setObj_map _ h.obj]
      rfl
    · rw [putK_new hj]; simp [h.ents]
    · simp only [Array.toList_push, List.map_append, List.map_cons, List.map_nil]
      rw [List.nodup_append]
      refine ⟨h.stamps, by simp, fun x hx y hy => ?_⟩
      simp only [List.mem_singleton] at hy
      subst hy
      obtain ⟨e, he, rfl⟩ := List.mem_map.1 hx
      have := h.young e he
      omega
    · intro e he
      rw [Array.toList_push, List.mem_append] at he
      rcases he with he | he
      · have := h.young e he; omega
      · simp at he; subst he; simp
  | some j =>
    obtain ⟨hj', hja, _⟩ := List.findIdx?_eq_some_iff_getElem.1 hj
    rw [hj] at hf
    simp only [Option.bind_some, List.getElem?_eq_getElem hj', Option.map_some] at hf
    have hjs : j < es.size := by omega
    have hkey : es[j].key = mk a := by
      have e1 := congrArg (fun l => l[j]?) h.ents
      simp [List.getElem?_eq_getElem hj', hjs] at e1
      have : L[j].1 = a := by simpa using hja
      rw [e1.1, this]
    refine ⟨setBlock w b (.map (es.modify j fun e => { e with key := mk a, val := v }) clock), ?_, ⟨_, _, ⟨heap_setBlock_same h.obj _, ?_, nodup_putK h.keys a v, ?_, ?_⟩⟩, grownBy_setBlock h.obj _, by simp [setBlock]⟩
    · have hst : (Instr.keyThatStays (((es[j]?).map (·.key)).getD (mk a)) (mk a)).run P w = .ok (mk a) w := by
        simp [Instr.keyThatStays, Array.getElem?_eq_getElem hjs, hkey, KO.bits]
      simp only [Instr.mapUpdate, Sem.run_bind, run_underlying hT, hg, Result.andThen_ok, hc, hf, hst, MapKept.run_setObj_map _ h.obj]
      rfl
    · rw [putK_old hj, List.map_set, ← h.ents]
      refine List.ext_getElem? fun i => ?_
      simp only [List.getElem?_map, Array.getElem?_toList, Array.getElem?_modify, List.getElem?_set]
      by_cases hij : j = i
      · subst hij; simp [hjs]
      · simp [hij]
    · have e1 : (es.modify j fun e => { e with key := mk a, val := v }).toList.map (·.born) = es.toList.map (·.born) := by
        refine List.ext_getElem? fun i => ?_
        simp only [List.getElem?_map, Array.getElem?_toList, Array.getElem?_modify]
        by_cases hij : j = i
        · subst hij; simp [Array.getElem?_eq_getElem hjs]
        · simp [hij]
      rw [e1]; exact h.stamps
    · intro e he
      obtain ⟨i, hi, rfl⟩ := List.mem_iff_getElem.1 he
      simp only [Array.length_toList, Array.size_modify] at hi
      simp only [Array.getElem_toList, Array.getElem_modify]
      have := h.young es[i] (by simp)
      split <;> exact this

theorem getK_put (L : List (α × Value)) (a : α) (v : Value) (x : α) : getK (putK L a v) x = if x = a then some v else getK L x := by
  induction L with
  | nil =>
    by_cases h : x = a
    · simp [putK, getK, h]
    · have : decide (a = x) = false := by simp; exact fun e => h e.symm
      simp [putK, getK, this, h]
  | cons p L ih =>
    unfold putK
    by_cases hp : p.1 = a
    · rw [if_pos hp]
      by_cases h : x = a
      · simp [getK, h]
      · have h1 : decide (a = x) = false := by simp; exact fun e => h e.symm
        have h2 : decide (p.1 = x) = false := by rw [hp]; exact h1
        simp [getK, h1, h2, h]
    · rw [if_neg hp]
      by_cases hx : p.1 = x
      · have h : x ≠ a := fun e => hp (by rw [hx, e])
        simp [getK, hx, h]
      · have h2 : decide (p.1 = x) = false := by simp [hx]
        unfold getK at ih ⊢
        simp only [List.find?_cons, h2]
        exact ih

end

end Go.Proofs.Ytdcgooleiefljaa
