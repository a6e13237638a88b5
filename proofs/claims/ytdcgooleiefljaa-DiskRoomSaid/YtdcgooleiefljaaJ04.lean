/-
  A map in memory: to go through it, to strike a key, to count.
  An argument that is a script of calls on a disk.
-/
import Derived.Test.YtdcgooleiefljaaJ03
import Derived.Test.YtdcgooleiefljaaJ02
import Derived.Deep.Strs
namespace Go.Proofs.Ytdcgooleiefljaa
open Go.RowKit Go.ChangeMaps

section
variable {P : Program} {K : TypeId} {α : Type} [DecidableEq α] {mk : α → Value}

/-- block r is an iterator over the map b, which holds L; R is still to come -/
def IterAt (w : World) (mk : α → Value) (b r : Nat) (L R : List (α × Value)) : Prop :=
  ∃ es clock seen, MapIs w mk b L es clock ∧ w.heap[r]? = some (.mapIter (some b) clock seen clock) ∧
    (es.toList.filter fun e => !seen.contains e.born).map (fun e => (e.key, e.val)) = R.map fun p => (mk p.1, p.2)

/-- the iterator r stands at this entry of the map b -/
def EntryAt (w : World) (b r : Nat) (k v : Value) : Prop :=
  ∃ es clock since seen stamp, w.heap[b]? = some (.map es clock) ∧ w.heap[r]? = some (.mapIter (some b) since seen clock) ∧ seen.back? = some stamp ∧
    (es.find? (·.born == stamp)).map (fun e => (e.key, e.val)) = some (k, v)

omit [DecidableEq α] in
theorem IterAt.map {w : World} {b r : Nat} {L R : List (α × Value)} (h : IterAt w mk b r L R) : MapAt w mk b L := let ⟨es, c, _, h, _⟩ := h; ⟨es, c, h⟩

omit [DecidableEq α] in
theorem IterAt.ne {w : World} {b r : Nat} {L R : List (α × Value)} (h : IterAt w mk b r L R) : r ≠ b := by
  obtain ⟨es, c, s, h1, h2, _⟩ := h
  rintro rfl
  rw [h1.obj] at h2
  cases h2

omit [DecidableEq α] in
theorem IterAt.lt {w : World} {b r : Nat} {L R : List (α × Value)} (h : IterAt w mk b r L R) : r < w.heap.size := by
  obtain ⟨es, c, s, h1, h2, _⟩ := h
  exact (Array.getElem?_eq_some_iff.1 h2).1

omit [DecidableEq α] in
theorem IterAt.kept {w w' : World} {b r : Nat} {L R : List (α × Value)} (h : IterAt w mk b r L R) (hb : w'.heap[b]? = w.heap[b]?) (hr : w'.heap[r]? = w.heap[r]?) : IterAt w' mk b r L R := by
  obtain ⟨es, c, s, h1, h2, h3⟩ := h
  exact ⟨es, c, s, ⟨by rw [hb]; exact h1.obj, h1.ents, h1.keys, h1.stamps, h1.young⟩, by rw [hr]; exact h2, h3⟩

theorem EntryAt.kept {w w' : World} {b r : Nat} {k v : Value} (h : EntryAt w b r k v) (hb : w'.heap[b]? = w.heap[b]?) (hr : w'.heap[r]? = w.heap[r]?) : EntryAt w' b r k v := by
  obtain ⟨es, c, si, s, st, h1, h2, h3, h4⟩ := h
  exact ⟨es, c, si, s, st, by rw [hb]; exact h1, by rw [hr]; exact h2, h3, h4⟩

omit [DecidableEq α] in
theorem run_range {T E : TypeId} (hT : P.underlying T = some (.map K E)) {w : World} {b : Nat} {L : List (α × Value)} (h : MapAt w mk b L) :
    ∃ w', (Instr.range T (.map (some b))).run P w = .ok (.pointer (some ⟨w.heap.size, 0, none⟩)) w' ∧ IterAt w' mk b w.heap.size L L ∧ w.grownBy w' none ∧ w'.heap.size = w.heap.size + 1 := by
  have hlt := h.lt
  obtain ⟨es, clock, h⟩ := h
  refine ⟨w.alloc (.mapIter (some b) clock #[] clock), ?_, ⟨es, clock, #[], ⟨?_, h.ents, h.keys, h.stamps, h.young⟩, heap_alloc_new _ _, ?_⟩, World.grownBy_alloc _ _ _, by simp⟩
  · simp [Instr.range, run_underlying hT, MapKept.run_getObj_map h.obj, Result.andThen]
  · rw [heap_alloc_old _ _ hlt]; exact h.obj
  · rw [← h.ents]
    congr 1
    rw [List.filter_eq_self]
    intro e _; simp

omit [DecidableEq α] in
theorem run_next_over {w : World} {b r : Nat} {L : List (α × Value)} (h : IterAt w mk b r L []) (ty : TypeId) :
    (Instr.next (.pointer (some ⟨r, 0, none⟩)) false ty).run P w = .ok (.tuple #[.bool false]) w := by
  obtain ⟨es, clock, seen, h1, h2, h3⟩ := h
  have hnil : es.toList.filter (fun e => !seen.contains e.born) = [] := by simpa using h3
  have hnil' : es.filter (fun e => !seen.contains e.born) = #[] := by
    rw [← Array.toList_inj, Array.toList_filter, hnil]
  have hg : (getObj r).run P w = .ok (.mapIter (some b) clock seen clock) w := by simp [getObj, Sem.run, h2]
  have hall : (!seen.isEmpty && !es.isEmpty && es.all (fun e => decide (e.born ≥ clock))) = false := by
    cases hes : es.isEmpty
    · have : es.all (fun e => decide (e.born ≥ clock)) = false := by
        rw [Bool.eq_false_iff]
        intro ht
        have hpos : 0 < es.size := by
          rcases Nat.eq_zero_or_pos es.size with h0 | h0
          · simp [Array.eq_empty_of_size_eq_zero h0] at hes
          · exact h0
        rw [Array.all_eq_true] at ht
        have := ht 0 hpos
        have := h1.young es[0] (by simp)
        simp at *
        omega
      simp [this]
    · simp
  simp only [Instr.next, Sem.run_bind, hg, Result.andThen_ok, MapKept.run_getObj_map h1.obj, hall, hnil']
  simp [choose, Sem.run, Question.forced, Result.andThen]

theorem split_of_map {α β γ : Type} {f : α → γ} {g : β → γ} : ∀ {l1 : List α} {x : α} {l2 : List α} {R : List β}, (l1 ++ x :: l2).map f = R.map g →
    ∃ R1 y R2, R = R1 ++ y :: R2 ∧ l1.map f = R1.map g ∧ f x = g y ∧ l2.map f = R2.map g
  | [], x, l2, R, h => by
    cases R with
    | nil => simp at h
    | cons y R => simp only [List.nil_append, List.map_cons, List.cons.injEq] at h; exact ⟨[], y, R, rfl, rfl, h.1, h.2⟩
  | z :: l1, x, l2, R, h => by
    cases R with
    | nil => simp at h
    | cons y R =>
      simp only [List.cons_append, List.map_cons, List.cons.injEq] at h
      obtain ⟨R1, y', R2, rfl, h1, h2, h3⟩ := split_of_map h.2
      exact ⟨y :: R1, y', R2, rfl, by simp [h.1, h1], h2, h3⟩

theorem filter_strike {es : List MapEntry} (hn : (es.map (·.born)).Nodup) {seen : Array Nat} {l1 l2 : List MapEntry} {e : MapEntry} (h : es.filter (fun e => !seen.contains e.born) = l1 ++ e :: l2) :
    es.filter (fun x => !(seen.push e.born).contains x.born) = l1 ++ l2 := by
  have h1 : es.filter (fun x => !(seen.push e.born).contains x.born) = (es.filter (fun e => !seen.contains e.born)).filter (fun x => decide (x.born ≠ e.born)) := by
    rw [List.filter_filter]
    congr 1
    funext x
    simp only [Array.contains_push, Bool.not_or, ne_eq, decide_not]
    rw [Bool.and_comm]
    congr 2
  rw [h1, h]
  have hsub : ((l1 ++ e :: l2).map (·.born)).Nodup := by
    rw [← h]
    exact hn.sublist (List.filter_sublist.map _)
  rw [List.map_append, List.map_cons, List.nodup_append, List.nodup_cons] at hsub
  obtain ⟨_, ⟨h3, _⟩, h4⟩ := hsub
  rw [List.filter_append, List.filter_cons]
  simp only [ne_eq, not_true_eq_false, decide_false, Bool.false_eq_true, if_false]
  congr 1
  · rw [List.filter_eq_self]
    intro x hx
    simp only [decide_eq_true_eq]
    exact h4 x.born (List.mem_map.2 ⟨x, hx, rfl⟩) e.born (by simp)
  · rw [List.filter_eq_self]
    intro x hx
    simp only [decide_eq_true_eq]
    intro he
    exact h3 (List.mem_map.2 ⟨x, hx, he⟩)

omit [DecidableEq α] in
theorem run_next_some {w : World} {b r : Nat} {L R : List (α × Value)} (h : IterAt w mk b r L R) (hR : R ≠ []) :
    ∃ w' R1 a v R2, (∀ ty, (Instr.next (.pointer (some ⟨r, 0, none⟩)) false ty).run P w = .ok (.tuple #[.bool true, mk a, v]) w') ∧ R = R1 ++ (a, v) :: R2 ∧
      IterAt w' mk b r L (R1 ++ R2) ∧ EntryAt w' b r (mk a) v ∧ w.grownBy w' (some r) ∧ w'.heap.size = w.heap.size := by
  have hne := h.ne
  have hrlt := h.lt
  obtain ⟨es, clock, seen, h1, h2, h3⟩ := h
  have hg : (getObj r).run P w = .ok (.mapIter (some b) clock seen clock) w := by simp [getObj, Sem.run, h2]
  generalize hleft : es.filter (fun e => !seen.contains e.born) = left
  have hleft' : left.toList = es.toList.filter (fun e => !seen.contains e.born) := by rw [← hleft, Array.toList_filter]
  rw [← hleft'] at h3
  have hlen : left.size = R.length := by have := congrArg List.length h3; simpa using this
  have hpos : 0 < left.size := by
    rw [hlen]; exact List.length_pos_iff.2 hR
  have hmem : ∀ e ∈ left.toList, e ∈ es.toList := fun e he => by rw [hleft'] at he; exact (List.mem_filter.1 he).1
  have hold : left.filter (fun e => decide (e.born < clock)) = left := by
    rw [Array.filter_eq_self]
    intro e he
    simpa using h1.young e (hmem e (by simpa using he))
  have hnew : left.filter (fun e => decide (e.born ≥ clock)) = #[] := by
    rw [Array.filter_eq_empty_iff]
    intro e he
    have := h1.young e (hmem e (by simpa using he))
    simp; omega
  have hnem : left.isEmpty = false := by
    rw [Bool.eq_false_iff]; intro he; rw [Array.isEmpty_iff] at he; simp [he] at hpos
  have hall : (!seen.isEmpty && !es.isEmpty && es.all (fun e => decide (e.born ≥ clock))) = false := by
    have hes : 0 < es.size := by
      have := hmem left[0] (by simp)
      rcases Nat.eq_zero_or_pos es.size with h0 | h0
      · simp [Array.eq_empty_of_size_eq_zero h0] at this
      · exact h0
    have : es.all (fun e => decide (e.born ≥ clock)) = false := by
      rw [Bool.eq_false_iff]
      intro ht
      rw [Array.all_eq_true] at ht
      have := ht 0 hes
      have := h1.young es[0] (by simp)
      simp at *
      omega
    simp [this]
  -- which one is drawn
  have hpick : ∃ i w1, i < left.size ∧ (choose (.mapNext left.size)).run P w = .ok i w1 ∧ w1.heap = w.heap ∧ w1.os = w.os ∧ w1.tape = w.tape ∧ w1.output = w.output := by
    by_cases hf : left.size ≤ 1
    · exact ⟨0, w, hpos, by simp [choose, Sem.run, Question.forced, hf], rfl, rfl, rfl, rfl⟩
    · exact ⟨w.tape w.drawn (.mapNext left.size) % left.size, { w with drawn := w.drawn + 1 }, Nat.mod_lt _ hpos, by simp [choose, Sem.run, Question.forced, hf, Question.cut], rfl, rfl, rfl, rfl⟩
  obtain ⟨i, w1, hi, hch, e1, e2, e3, e4⟩ := hpick
  have hsplit : left.toList = left.toList.take i ++ left[i] :: left.toList.drop (i + 1) := by
    have := List.drop_eq_getElem_cons (l := left.toList) (i := i) (by simpa using hi)
    simp only [Array.getElem_toList] at this
    rw [← this]
    exact (List.take_append_drop i _).symm
  rw [hsplit] at h3
  obtain ⟨R1, ⟨a, v⟩, R2, rfl, r1, r2, r3⟩ := split_of_map h3
  simp only [Prod.mk.injEq] at r2
  have hobj : w1.heap[r]? = some (.mapIter (some b) clock seen clock) := by rw [e1]; exact h2
  have hset : (setObj r (.mapIter (some b) clock (seen.push left[i].born) clock)).run P w1 = .ok () (setBlock w1 r (.mapIter (some b) clock (seen.push left[i].born) clock)) := by
    simp [setObj, Sem.run, hobj, setBlock]
  have hr' : (setBlock w1 r (.mapIter (some b) clock (seen.push left[i].born) clock)).heap[r]? = some (.mapIter (some b) clock (seen.push left[i].born) clock) := by
    have : r < w1.heap.size := by rw [e1]; exact hrlt
    simp [setBlock, this]
  have ho : ∀ k, k ≠ r → (setBlock w1 r (.mapIter (some b) clock (seen.push left[i].born) clock)).heap[k]? = w.heap[k]? := by
    intro k hk
    simp only [setBlock]
    rw [Array.getElem?_setIfInBounds_ne (Ne.symm hk), e1]
  have hb' := ho b (Ne.symm hne)
  refine ⟨setBlock w1 r (.mapIter (some b) clock (seen.push left[i].born) clock), R1, a, v, R2, ?_, rfl, ⟨es, clock, seen.push left[i].born, ⟨by rw [hb']; exact h1.obj, h1.ents, h1.keys, h1.stamps, h1.young⟩, hr', ?_⟩, ⟨es, clock, clock, _, left[i].born, by rw [hb']; exact h1.obj, hr', by simp, ?_⟩,
    ⟨by simp [setBlock, e2], by simp [setBlock, e3], by simp [setBlock, e4], by simp [setBlock, e1], fun k _ hk => ho k fun e => hk (by rw [e])⟩, by simp [setBlock, e1]⟩
  · intro ty
    simp only [Instr.next, Sem.run_bind, hg, Result.andThen_ok, MapKept.run_getObj_map h1.obj, hall, hleft, hold, hnew, hnem, Bool.false_eq_true, if_false, Array.append_empty, Array.empty_append, Array.size_map, hch,
      Array.getElem?_map, Array.getElem?_eq_getElem hi, Option.map_some, hset, Sem.run_pure, r2.1, r2.2]
  · have hfs := filter_strike h1.stamps (hleft'.symm.trans hsplit)
    rw [hfs, List.map_append, r1, r3, List.map_append]
  · have hin : left[i] ∈ es.toList := hmem _ (by simp)
    obtain ⟨j, hj, hje⟩ := List.mem_iff_getElem.1 hin
    have hfind : es.find? (fun e => e.born == left[i].born) = some left[i] := by
      rw [← Array.find?_toList]
      rw [List.find?_eq_some_iff_getElem]
      refine ⟨by simp, j, hj, hje, fun k hk => ?_⟩
      simp only [Bool.not_eq_true', beq_eq_false_iff_ne]
      intro hb
      have hjs : j < es.size := by simpa using hj
      have hks : k < (es.toList.map (·.born)).length := by simp; omega
      have hnd := (List.pairwise_iff_getElem.1 h1.stamps) k j hks (by simpa using hj) hk
      simp only [List.getElem_map] at hnd
      exact hnd (by rw [hb, hje])
    rw [hfind]
    simp [r2.1, r2.2]

theorem run_entry {w : World} {b r : Nat} {k v : Value} (h : EntryAt w b r k v) : (Instr.entry (.pointer (some ⟨r, 0, none⟩))).run P w = .ok (.tuple #[k, v]) w := by
  obtain ⟨es, clock, since, seen, stamp, h1, h2, h3, h4⟩ := h
  have hg : (getObj r).run P w = .ok (.mapIter (some b) since seen clock) w := by simp [getObj, Sem.run, h2]
  obtain ⟨e, he, hkv⟩ := Option.map_eq_some_iff.1 h4
  simp only [Prod.mk.injEq] at hkv
  simp [Instr.entry, hg, MapKept.run_getObj_map h1, h3, he, hkv.1, hkv.2, Result.andThen]

omit [DecidableEq α] in
theorem run_len {T E : TypeId} (hT : P.underlying T = some (.map K E)) {w : World} {b : Nat} {L : List (α × Value)} (h : MapAt w mk b L) (ty : TypeId) :
    (Builtin.len_ #[T] ty #[.map (some b)]).run P w = .ok (.int .i64 L.length) w := by
  obtain ⟨es, clock, h⟩ := h
  have hlen : es.size = L.length := by have := congrArg List.length h.ents; simpa using this
  simp [Builtin.len_, run_underlying hT, MapKept.run_getObj_map h.obj, Result.andThen, hlen, goInt]

theorem delK_none {L : List (α × Value)} {a : α} (h : L.findIdx? (fun p => decide (p.1 = a)) = none) : delK L a = L := by
  unfold delK
  rw [List.filter_eq_self]
  intro p hp
  have := (List.findIdx?_eq_none_iff.1 h) p hp
  simpa using this

theorem delK_some {L : List (α × Value)} (hn : (L.map (·.1)).Nodup) {a : α} {j : Nat} (h : L.findIdx? (fun p => decide (p.1 = a)) = some j) : delK L a = L.eraseIdx j := by
  induction L generalizing j with
  | nil => simp at h
  | cons p L ih =>
    simp only [List.map_cons, List.nodup_cons] at hn
    by_cases hp : p.1 = a
    · simp [List.findIdx?_cons, hp] at h
      subst h
      have : L.findIdx? (fun p => decide (p.1 = a)) = none := by
        rw [List.findIdx?_eq_none_iff]
        intro q hq
        simp only [decide_eq_false_iff_not]
        intro e
        exact hn.1 (List.mem_map.2 ⟨q, hq, by rw [e, hp]⟩)
      have h2 := delK_none this
      unfold delK at h2 ⊢
      rw [List.filter_cons, if_neg (by simp [hp]), h2]
      rfl
    · simp only [List.findIdx?_cons, hp, decide_false] at h
      cases hj : L.findIdx? fun p => decide (p.1 = a) with
      | none => rw [hj] at h; simp at h
      | some i =>
        rw [hj] at h
        simp at h
        subst h
        have h2 := ih hn.2 hj
        unfold delK at h2 ⊢
        rw [List.filter_cons, if_pos (by simp [hp]), h2]
        rfl

theorem run_del (KO : KeyOf P K mk) {T E : TypeId} (hT : P.underlying T = some (.map K E)) {w : World} {b : Nat} {L : List (α × Value)} (h : MapAt w mk b L) (a : α) :
    ∃ w', (∀ ty, (Builtin.delete_ #[T, K] ty #[.map (some b), mk a]).run P w = .ok (.tuple #[]) w') ∧ MapAt w' mk b (delK L a) ∧ w.grownBy w' (some b) ∧ w'.heap.size = w.heap.size := by
  obtain ⟨es, clock, h⟩ := h
  obtain ⟨d, hd, hs, hck⟩ := KO.plain
  have hf := run_findKey KO h.ents a w
  have hg := MapKept.run_getObj_map (P := P) h.obj
  have hc := hck es.isEmpty 9999 w a
  have hlen : es.size = L.length := by have := congrArg List.length h.ents; simpa using this
  cases hj : L.findIdx? fun p => decide (p.1 = a) with
  | none =>
    rw [hj] at hf
    simp only [Option.bind_none] at hf
    refine ⟨setBlock w b (.map es clock), ?_, ⟨_, _, ⟨heap_setBlock_same h.obj _, ?_, ?_, h.stamps, h.young⟩⟩, grownBy_setBlock h.obj _, by simp [setBlock]⟩
    · intro ty
      simp only [Builtin.delete_, Sem.run_bind, run_underlying hT, hg, Result.andThen_ok, List.getElem?_toArray, List.getElem?_cons_zero, List.getElem?_cons_succ, hc, hf, MapKept.run_setObj_map _ h.obj]
      rfl
    · rw [delK_none hj]; exact h.ents
    · rw [delK_none hj]; exact h.keys
  | some j =>
    obtain ⟨hj', hja, _⟩ := List.findIdx?_eq_some_iff_getElem.1 hj
    rw [hj] at hf
    simp only [Option.bind_some, List.getElem?_eq_getElem hj', Option.map_some] at hf
    refine ⟨setBlock w b (.map (es.eraseIdxIfInBounds j) clock), ?_, ⟨_, _, ⟨heap_setBlock_same h.obj _, ?_, ?_, ?_, ?_⟩⟩, grownBy_setBlock h.obj _, by simp [setBlock]⟩
    · intro ty
      simp only [Builtin.delete_, Sem.run_bind, run_underlying hT, hg, Result.andThen_ok, List.getElem?_toArray, List.getElem?_cons_zero, List.getElem?_cons_succ, hc, hf, MapKept.run_setObj_map _ h.obj]
      rfl
    · rw [delK_some h.keys hj, Array.toList_eraseIdxIfInBounds, map_eraseIdx, map_eraseIdx, h.ents]
    · rw [delK_some h.keys hj, map_eraseIdx]; exact h.keys.sublist (List.eraseIdx_sublist _ _)
    · rw [Array.toList_eraseIdxIfInBounds, map_eraseIdx]; exact h.stamps.sublist (List.eraseIdx_sublist _ _)
    · intro e he
      rw [Array.toList_eraseIdxIfInBounds] at he
      exact h.young e (List.mem_of_mem_eraseIdx he)

theorem getK_del (L : List (α × Value)) (a x : α) : getK (delK L a) x = if x = a then none else getK L x := by
  induction L with
  | nil => simp [delK, getK]
  | cons p L ih =>
    unfold getK delK at *
    rw [List.filter_cons]
    by_cases hp : p.1 = a
    · rw [if_neg (by simp [hp]), ih]
      by_cases h : x = a
      · rw [if_pos h, if_pos h]
      · have : decide (p.1 = x) = false := by simp [hp]; exact fun e => h e.symm
        simp [h, this]
    · rw [if_pos (by simp [hp]), List.find?_cons]
      by_cases hx : p.1 = x
      · have h : x ≠ a := fun e => hp (by rw [hx, e])
        simp [hx, h]
      · simp only [hx, decide_false, List.find?_cons]
        exact ih

end

end Go.Proofs.Ytdcgooleiefljaa

namespace Go.Proofs.Ytdcgooleiefljaa
open Go.ChangeShapes Go.WideShapes Go.ChangeAt Go.RowKit Go.Deep Go.ChangeMaps

/-- one call of a script -/
structure Od where
  act : Int
  name : List UInt8
  nto : List UInt8
  names : List (List UInt8)
  parts : List (List Int)
  n : Int
  keep : List Int

def Od.cells (o : Od) (vn vp vk : Value) : List Value := [.int .u8 o.act, strV o.name, strV o.nto, vn, vp, .int .i64 o.n, vk]

structure Od.Fits (o : Od) : Prop where
  act : 0 ≤ o.act ∧ o.act ≤ 255
  names : o.name.length ≤ 9223372036854775807 ∧ o.nto.length ≤ 9223372036854775807 ∧ ∀ x ∈ o.names, x.length ≤ 9223372036854775807
  parts : ∀ p ∈ o.parts, ∀ x ∈ p, 0 ≤ x ∧ x ≤ 255
  n : -9223372036854775808 ≤ o.n ∧ o.n ≤ 9223372036854775807
  keep : ∀ x ∈ o.keep, -9223372036854775808 ≤ x ∧ x ≤ 9223372036854775807

/-- slices of bytes -/
def PartsN (w : World) (v : Value) (ls : List (List Int)) : Prop :=
  ∃ vs, Reads w v 1 ls.length vs ∧ ∀ (i : Nat) u l, vs[i]? = some u → ls[i]? = some l → Nums w .u8 u l

structure OdV (w : World) (o : Od) (vn vp vk : Value) : Prop where
  names : Reads w vn 1 o.names.length (o.names.map strV)
  parts : PartsN w vp o.parts
  keep : Nums w .i64 vk o.keep

theorem PartsN.below {w w' : World} {v : Value} {ls : List (List Int)} (h : PartsN w v ls) (hb : Below w.heap.size w w') : PartsN w' v ls := by
  obtain ⟨vs, h1, h2⟩ := h
  exact ⟨vs, h1.below hb, fun i u l hu hl => (h2 i u l hu hl).below hb⟩

theorem OdV.below {w w' : World} {o : Od} {vn vp vk : Value} (h : OdV w o vn vp vk) (hb : Below w.heap.size w w') : OdV w' o vn vp vk := ⟨h.names.below hb, h.parts.below hb, h.keep.below hb⟩

/-- a slice of calls reads so -/
def ScriptD (w : World) (v : Value) (l : List Od) : Prop :=
  ∃ p cap, v = .slice p l.length cap ∧ l.length ≤ cap ∧ cap ≤ 9223372036854775807 ∧
    ∀ i (hi : i < l.length), ∃ b off vn vp vk, p = some ⟨b, off, none⟩ ∧ (∀ j u, (l[i].cells vn vp vk)[j]? = some u → w.cell? ⟨b, off + i * 7 + j, none⟩ = some u) ∧ OdV w l[i] vn vp vk

theorem ScriptD.below {w w' : World} {v : Value} {l : List Od} (h : ScriptD w v l) (hb : Below w.heap.size w w') : ScriptD w' v l := by
  obtain ⟨p, cap, hv, h1, h2, h4⟩ := h
  refine ⟨p, cap, hv, h1, h2, fun i hi => ?_⟩
  obtain ⟨b, off, vn, vp, vk, hp, hc, hn⟩ := h4 i hi
  exact ⟨b, off, vn, vp, vk, hp, fun j u hj => below_cells hb (hc j u hj), hn.below hb⟩

section
variable {H : Type} {enc : TypeId × Value → H} {W : World}

theorem cells_allD {a : Addr} {n : Nat} {cs : List Value} (h : W.cells? 0 a n = some cs) : cs.length = n ∧ ∀ j, j < n → W.cell? (a.add j) = cs[j]? := by
  unfold World.cells? at h
  simp only [Nat.zero_le, if_true] at h
  exact ⟨by simpa using mapM_some_length h, fun j hj => mapM_some_get h j j (by simp [hj])⟩

theorem cells_oneD {a : Addr} {cs : List Value} (h : W.cells? 0 a 1 = some cs) : ∃ c0, cs = [c0] ∧ W.cell? (a.add 0) = some c0 := by
  obtain ⟨h1, h2⟩ := cells_allD h
  match cs, h1 with
  | [c0], _ => exact ⟨c0, rfl, h2 0 (by omega)⟩

theorem list7 {cs : List Value} (h : cs.length = 7) : ∃ a0 a1 a2 a3 a4 a5 a6, cs = [a0, a1, a2, a3, a4, a5, a6] := by
  match cs, h with
  | [a0, a1, a2, a3, a4, a5, a6], _ => exact ⟨a0, a1, a2, a3, a4, a5, a6, rfl⟩

theorem str_strV (s : ByteArray) : Value.string s = strV s.data.toList := by
  unfold strV
  rw [Array.toArray_toList]

theorem size_big {s : ByteArray} (h : s.size ≤ maxLen) : s.data.toList.length ≤ 9223372036854775807 := by
  have hm : maxLen = 9223372036854775807 := rfl
  rw [Array.length_toList]
  rw [hm] at h
  exact h

/-- a slice of strings -/
theorem strs_of_trod {t e : TypeId} {fuel : Nat} {cs : List Value} {x : DataW H × List MemPlace} (ht : Try.prog.underlying t = some (.slice e)) (he : Try.prog.underlying e = some .string) (hc : Try.prog.cellsOf e = 1)
    (h : DataW.trod enc Try.prog W 0 (fun _ => true) true fuel t cs = some x) : ∃ (v : Value) (ls : List (List UInt8)), cs = [v] ∧ Reads W v 1 ls.length (ls.map strV) ∧ ∀ l ∈ ls, l.length ≤ 9223372036854775807 := by
  rcases open_strs ht he hc h with ⟨rfl, -⟩ | ⟨a, len, cap, m, Sx, rfl, -, hl, hm, hmm, -, hS⟩
  · exact ⟨_, [], rfl, ⟨rfl, none, 0, rfl, by simp, by simp, by simp, by simp⟩, by simp⟩
  · simp only [if_true] at hmm
    subst hmm
    obtain ⟨ls, hll, hp⟩ := exists_list len (p := fun i l => W.cell? (a.add i) = some (strV l) ∧ l.length ≤ 9223372036854775807) fun i hi => ⟨(Sx i).data.toList, by rw [(hS i (by omega)).1, str_strV], size_big (hS i (by omega)).2⟩
    refine ⟨_, ls, rfl, ⟨by simp, some a, m, by rw [hll], by omega, by simpa [maxLen] using hm, by simp, fun j u hj => ?_⟩, fun l hl => ?_⟩
    · rw [List.getElem?_map, Option.map_eq_some_iff] at hj
      obtain ⟨x, hx, rfl⟩ := hj
      obtain ⟨hj', rfl⟩ := List.getElem?_eq_some_iff.1 hx
      have h1 := (hp j hj').1
      obtain ⟨b, off, spot⟩ := a
      obtain rfl : spot = none := by
        have := (hp 0 (by omega)).1
        simpa [Addr.add] using World.cell?_spot this
      exact ⟨b, off, rfl, by rw [Addr.add_lit] at h1; exact h1⟩
    · obtain ⟨i, hi, rfl⟩ := List.mem_iff_getElem.1 hl
      exact (hp i hi).2

/-- a slice of slices of bytes -/
theorem parts_of_trod {t e e1 : TypeId} {fuel : Nat} {cs : List Value} {x : DataW H × List MemPlace} (ht : Try.prog.underlying t = some (.slice e)) (he : Try.prog.underlying e = some (.slice e1)) (hc : Try.prog.cellsOf e = 1) (he1 : Try.prog.underlying e1 = some (.int .u8)) (hc1 : Try.prog.cellsOf e1 = 1)
    (hf : DataW.trod enc Try.prog W 0 (fun _ => true) true fuel t cs = some x) : ∃ (v : Value) (ls : List (List Int)), cs = [v] ∧ PartsN W v ls ∧ ∀ l ∈ ls, ∀ y ∈ l, 0 ≤ y ∧ y ≤ 255 := by
  rcases open_slice ht hf with ⟨rfl, -⟩ | ⟨a, len, cap, m, n, D, Pl, rfl, -, hl, hm, hmm, -, hel⟩
  · exact ⟨_, [], rfl, ⟨[], ⟨rfl, none, 0, rfl, by simp, by simp, by simp, by simp⟩, by simp⟩, by simp⟩
  · simp only [if_true] at hmm
    subst hmm
    rw [hc] at hel
    have each : ∀ i, i < len → ∃ r : Value × List Int, W.cell? (a.add i) = some r.1 ∧ Nums W .u8 r.1 r.2 ∧ ∀ y ∈ r.2, 0 ≤ y ∧ y ≤ 255 := by
      intro i hi
      obtain ⟨cs', hcs', htr⟩ := hel i (by omega)
      obtain ⟨c0, rfl, g0⟩ := cells_oneD hcs'
      obtain ⟨v, xs, hv, hn, hw⟩ := nums_of_trod he he1 hc1 htr
      simp only [List.cons.injEq, and_true] at hv
      subst hv
      rw [add_add, Nat.mul_one, Nat.add_zero] at g0
      exact ⟨(c0, xs), g0, hn, fun y hy => by have := hw y hy; simp [Lit.wf, IntKind.min, IntKind.max, IntKind.signed, IntKind.bits] at this; exact this⟩
    obtain ⟨ls, hll, hp⟩ := exists_list len each
    refine ⟨_, ls.map (·.2), rfl, ⟨ls.map (·.1), ⟨by simp, some a, m, by simp [hll], by simp; omega, by simpa [maxLen] using hm, by simp, fun j u hj => ?_⟩, fun i u l hu hl' => ?_⟩, fun l hl' => ?_⟩
    · rw [List.getElem?_map, Option.map_eq_some_iff] at hj
      obtain ⟨x, hx, rfl⟩ := hj
      obtain ⟨hj', rfl⟩ := List.getElem?_eq_some_iff.1 hx
      have h1 := (hp j hj').1
      obtain ⟨b, off, spot⟩ := a
      obtain rfl : spot = none := by
        have := (hp 0 (by omega)).1
        simpa [Addr.add] using World.cell?_spot this
      exact ⟨b, off, rfl, by rw [Addr.add_lit] at h1; exact h1⟩
    · rw [List.getElem?_map, Option.map_eq_some_iff] at hu hl'
      obtain ⟨x, hx, rfl⟩ := hu
      obtain ⟨y, hy, rfl⟩ := hl'
      obtain rfl : x = y := by rw [hx] at hy; exact Option.some.inj hy
      obtain ⟨hj', rfl⟩ := List.getElem?_eq_some_iff.1 hx
      exact (hp i hj').2.1
    · obtain ⟨y, hy, rfl⟩ := List.mem_map.1 hl'
      obtain ⟨i, hi, rfl⟩ := List.mem_iff_getElem.1 hy
      exact (hp i hi).2.2

theorem od_of_trod {fuel : Nat} {cs : List Value} {x : DataW H × List MemPlace} (hf : DataW.trod enc Try.prog W 0 (fun _ => true) true fuel 33 cs = some x) :
    ∃ o vn vp vk, cs = Od.cells o vn vp vk ∧ OdV W o vn vp vk ∧ o.Fits := by
  obtain ⟨xs, m, -, -, hl, hlen, hfs⟩ := DataW.trod_struct Try.underlying33 hf
  rw [show Try.prog.cellsOf 33 = 7 by kernel_rfl] at hl
  obtain ⟨a0, a1, a2, a3, a4, a5, a6, rfl⟩ := list7 hl
  have hx : xs.length = 7 := hlen
  have hin : ∀ i, i < 7 → ∃ y, xs[i]? = some y := fun i hi => ⟨xs[i], List.getElem?_eq_getElem (by omega)⟩
  obtain ⟨y0, hy0⟩ := hin 0 (by omega)
  have t0 := (hfs 0 _ rfl).trans hy0
  obtain ⟨y1, hy1⟩ := hin 1 (by omega)
  have t1 := (hfs 1 _ rfl).trans hy1
  obtain ⟨y2, hy2⟩ := hin 2 (by omega)
  have t2 := (hfs 2 _ rfl).trans hy2
  obtain ⟨y3, hy3⟩ := hin 3 (by omega)
  have t3 := (hfs 3 _ rfl).trans hy3
  obtain ⟨y4, hy4⟩ := hin 4 (by omega)
  have t4 := (hfs 4 _ rfl).trans hy4
  obtain ⟨y5, hy5⟩ := hin 5 (by omega)
  have t5 := (hfs 5 _ rfl).trans hy5
  obtain ⟨y6, hy6⟩ := hin 6 (by omega)
  have t6 := (hfs 6 _ rfl).trans hy6
  obtain ⟨z0, q0, _, w0⟩ := DataW.trod_int Try.underlying5 (by simpa [show Try.prog.cellsOf 5 = 1 by kernel_rfl] using t0)
  obtain ⟨s1, q1, _, w1⟩ := DataW.trod_string Try.underlying9 (by simpa [show Try.prog.cellsOf 9 = 1 by kernel_rfl] using t1)
  obtain ⟨s2, q2, _, w2⟩ := DataW.trod_string Try.underlying9 (by simpa [show Try.prog.cellsOf 9 = 1 by kernel_rfl] using t2)
  obtain ⟨v3, l3, q3, n3, w3⟩ := strs_of_trod Try.underlying29 Try.underlying9 (by kernel_rfl) (by simpa [show Try.prog.cellsOf 29 = 1 by kernel_rfl] using t3)
  obtain ⟨v4, l4, q4, n4, w4⟩ := parts_of_trod Try.underlying30 Try.underlying37 (by kernel_rfl) Try.underlying5 (by kernel_rfl) (by simpa [show Try.prog.cellsOf 30 = 1 by kernel_rfl] using t4)
  obtain ⟨z5, q5, _, w5⟩ := DataW.trod_int Try.underlying3 (by simpa [show Try.prog.cellsOf 3 = 1 by kernel_rfl] using t5)
  obtain ⟨v6, l6, q6, n6, w6⟩ := nums_of_trod Try.underlying31 Try.underlying3 (by kernel_rfl) (by simpa [show Try.prog.cellsOf 31 = 1 by kernel_rfl] using t6)
  simp only [List.cons.injEq, and_true] at q0 q1 q2 q3 q4 q5 q6
  subst q0 q1 q2 q3 q4 q5 q6
  simp [Lit.wf, IntKind.min, IntKind.max, IntKind.signed, IntKind.bits] at w0 w5
  refine ⟨⟨z0, s1.data.toList, s2.data.toList, l3, l4, z5, l6⟩, _, _, _, by simp [Od.cells, str_strV], ⟨n3, n4, n6⟩, ⟨w0, ⟨size_big w1, size_big w2, w3⟩, w4, w5, fun x hx => ?_⟩⟩
  have := w6 x hx
  simp [Lit.wf, IntKind.min, IntKind.max, IntKind.signed, IntKind.bits] at this
  exact this

/-- an argument that is a script -/
theorem open_scriptD {base : Nat} {v : Value} {d : DataW H} {ps : List MemPlace}
    (hok : Value.okWide Try.prog W .any base 23 v) (h : DataW.Trod enc Try.prog W 0 (fun _ => true) true 23 v d ps) :
    ∃ l, ScriptD W v l ∧ ∀ r ∈ l, r.Fits := by
  obtain ⟨a0, len0, cap0, rfl⟩ := okWide_slice Try.underlying23 hok
  obtain ⟨fuel, hf⟩ := h
  have hce : Try.prog.cellsOf 33 = 7 := by kernel_rfl
  rcases open_slice Try.underlying23 hf with ⟨hcs, _⟩ | ⟨a, len, cap, m, n, D, Pl, hcs, _, hl, hm, hmm, _, hel⟩
  · simp [Value.cells] at hcs
    obtain ⟨rfl, rfl, rfl⟩ := hcs
    exact ⟨[], ⟨none, 0, rfl, by simp, by simp, fun i hi => absurd hi (by simp)⟩, by simp⟩
  · simp only [if_true] at hmm
    subst hmm
    rw [hce] at hel
    have each : ∀ i, i < len → ∃ o : Od, ∃ vn vp vk, (∀ j u, (o.cells vn vp vk)[j]? = some u → W.cell? (a.add (i * 7 + j)) = some u) ∧ OdV W o vn vp vk ∧ o.Fits := by
      intro i hi
      obtain ⟨cs', hcs', htr⟩ := hel i (by omega)
      obtain ⟨hlen, hg⟩ := cells_allD hcs'
      obtain ⟨o, vn, vp, vk, rfl, hn, hfit⟩ := od_of_trod htr
      refine ⟨o, vn, vp, vk, fun j u hj => ?_, hn, hfit⟩
      have hj7 : j < 7 := by rw [← hlen]; exact (List.getElem?_eq_some_iff.1 hj).1
      rw [← hj, ← hg j hj7, add_add]
    obtain ⟨l, hll, hp⟩ := exists_list len each
    simp [Value.cells] at hcs
    obtain ⟨rfl, rfl, rfl⟩ := hcs
    refine ⟨l, ⟨some a, cap0, by rw [hll], by omega, by simpa [maxLen] using hm, fun i hi => ?_⟩, fun o ho => ?_⟩
    · obtain ⟨vn, vp, vk, hc, hn, _⟩ := hp i hi
      obtain ⟨_, _, _, h0, _⟩ := hp 0 (by omega)
      have h00 := h0 0 _ rfl
      obtain ⟨b, off, spot⟩ := a
      obtain rfl : spot = none := by
        simpa [Addr.add] using World.cell?_spot h00
      refine ⟨b, off, vn, vp, vk, rfl, fun j u hj => ?_, hn⟩
      have := hc j u hj
      rw [Addr.add_lit, ← Nat.add_assoc] at this
      exact this
    · obtain ⟨i, hi, rfl⟩ := List.mem_iff_getElem.1 ho
      obtain ⟨_, _, _, _, _, hfit⟩ := hp i hi
      exact hfit

end

end Go.Proofs.Ytdcgooleiefljaa
