/-
  A map in memory: to go through it, to strike a key, to count.
-/
import Derived.Test.YtdcgooleiefljaaJ01
namespace Go.Proofs.Ytdcgooleiefljaa
open Go.RowKit Go.ChangeMaps

section
variable {P : Program} {K : TypeId} {α : Type} [DecidableEq α] {mk : α → Value}

/-- block r is an iterator over the map b, which holds L; R is still to come -/
def IterAt (w : World) (mk : α → Value) (b r : Nat) (L R : List (α × Value)) : Prop :=
  ∃ es clock seen, MapIs w mk b L es clock ∧ w.heap[r]? = some (.mapIter (some b) clock seen clock) ∧
    (es.toList.filter fun e => !seen.contains e.born).map (fun e => (e.key, e.val)) = R.map fun p => (mk p.1, p.2)

/-- the iterator r stands at this entry of the map b -/
def EntryAt (w : World) (b r : Nat) (k v : Value) : Prop :=
  ∃ es clock since seen stamp, w.heap[b]? = some (.map es clock) ∧ w.heap[r]? = some (.mapIter (some b) since seen clock) ∧ seen.back? = some stamp ∧
    (es.find? (·.born == stamp)).map (fun e => (e.key, e.val)) = some (k, v)

omit [DecidableEq α] in
theorem IterAt.map {w : World} {b r : Nat} {L R : List (α × Value)} (h : IterAt w mk b r L R) : MapAt w mk b L := let ⟨es, c, _, h, _⟩ := h; ⟨es, c, h⟩

omit [DecidableEq α] in
theorem IterAt.ne {w : World} {b r : Nat} {L R : List (α × Value)} (h : IterAt w mk b r L R) : r ≠ b := by
  obtain ⟨es, c, s, h1, h2, _⟩ := h
  rintro rfl
  rw [h1.obj] at h2
  cases h2

omit [DecidableEq α] in
theorem IterAt.lt {w : World} {b r : Nat} {L R : List (α × Value)} (h : IterAt w mk b r L R) : r < w.heap.size := by
  obtain ⟨es, c, s, h1, h2, _⟩ := h
  exact (Array.getElem?_eq_some_iff.1 h2).1

omit [DecidableEq α] in
theorem IterAt.kept {w w' : World} {b r : Nat} {L R : List (α × Value)} (h : IterAt w mk b r L R) (hb : w'.heap[b]? = w.heap[b]?) (hr : w'.heap[r]? = w.heap[r]?) : IterAt w' mk b r L R := by
  obtain ⟨es, c, s, h1, h2, h3⟩ := h
  exact ⟨es, c, s, ⟨by rw [hb]; exact h1.obj, h1.ents, h1.keys, h1.stamps, h1.young⟩, by rw [hr]; exact h2, h3⟩

theorem EntryAt.kept {w w' : World} {b r : Nat} {k v : Value} (h : EntryAt w b r k v) (hb : w'.heap[b]? = w.heap[b]?) (hr : w'.heap[r]? = w.heap[r]?) : EntryAt w' b r k v := by
  obtain ⟨es, c, si, s, st, h1, h2, h3, h4⟩ := h
  exact ⟨es, c, si, s, st, by rw [hb]; exact h1, by rw [hr]; exact h2, h3, h4⟩

omit [DecidableEq α] in
theorem run_range {T E : TypeId} (hT : P.underlying T = some (.map K E)) {w : World} {b : Nat} {L : List (α × Value)} (h : MapAt w mk b L) :
    ∃ w', (Instr.range T (.map (some b))).run P w = .ok (.pointer (some ⟨w.heap.size, 0, none⟩)) w' ∧ IterAt w' mk b w.heap.size L L ∧ w.grownBy w' none ∧ w'.heap.size = w.heap.size + 1 := by
  have hlt := h.lt
  obtain ⟨es, clock, h⟩ := h
  refine ⟨w.alloc (.mapIter (some b) clock #[] clock), ?_, ⟨es, clock, #[], ⟨?_, h.ents, h.keys, h.stamps, h.young⟩, heap_alloc_new _ _, ?_⟩, World.grownBy_alloc _ _ _, by simp⟩
  · simp [Instr.range, run_underlying hT, MapKept.run_getObj_map h.obj, Result.andThen]
  · rw [heap_alloc_old _ _ hlt]; exact h.obj
  · rw [← h.ents]
    congr 1
    rw [List.filter_eq_self]
    intro e _; simp

omit [DecidableEq α] in
theorem run_next_over {w : World} {b r : Nat} {L : List (α × Value)} (h : IterAt w mk b r L []) (ty : TypeId) :
    (Instr.next (.pointer (some ⟨r, 0, none⟩)) false ty).run P w = .ok (.tuple #[.bool false]) w := by
  obtain ⟨es, clock, seen, h1, h2, h3⟩ := h
  have hnil : es.toList.filter (fun e => !seen.contains e.born) = [] := by simpa using h3
  have hnil' : es.filter (fun e => !seen.contains e.born) = #[] := by
    rw [← Array.toList_inj, Array.toList_filter, hnil]
  have hg : (getObj r).run P w = .ok (.mapIter (some b) clock seen clock) w := by simp [getObj, Sem.run, h2]
  have hall : (!seen.isEmpty && !es.isEmpty && es.all (fun e => decide (e.born ≥ clock))) = false := by
    cases hes : es.isEmpty
    · have : es.all (fun e => decide (e.born ≥ clock)) = false := by
        rw [Bool.eq_false_iff]
        intro ht
        have hpos : 0 < es.size := by
          rcases Nat.eq_zero_or_pos es.size with h0 | h0
          · simp [Array.eq_empty_of_size_eq_zero h0] at hes
          · exact h0
        rw [Array.all_eq_true] at ht
        have := ht 0 hpos
        have := h1.young es[0] (by simp)
        simp at *
        omega
      simp [this]
    · simp
  simp only [Instr.next, Sem.run_bind, hg, Result.andThen_ok, MapKept.run_getObj_map h1.obj, hall, hnil']
  simp [choose, Sem.run, Question.forced, Result.andThen]

theorem split_of_map {α β γ : Type} {f : α → γ} {g : β → γ} : ∀ {l1 : List α} {x : α} {l2 : List α} {R : List β}, (l1 ++ x :: l2).map f = R.map g →
    ∃ R1 y R2, R = R1 ++ y :: R2 ∧ l1.map f = R1.map g ∧ f x = g y ∧ l2.map f = R2.map g
  | [], x, l2, R, h => by
    cases R with
    | nil => simp at h
    | cons y R => simp only [List.nil_append, List.map_cons, List.cons.injEq] at h; exact ⟨[], y, R, rfl, rfl, h.1, h.2⟩
  | z :: l1, x, l2, R, h => by
    cases R with
    | nil => simp at h
    | cons y R =>
      simp only [List.cons_append, List.map_cons, List.cons.injEq] at h
      obtain ⟨R1, y', R2, rfl, h1, h2, h3⟩ := split_of_map h.2
      exact ⟨y :: R1, y', R2, rfl, by simp [h.1, h1], h2, h3⟩

theorem filter_strike {es : List MapEntry} (hn : (es.map (·.born)).Nodup) {seen : Array Nat} {l1 l2 : List MapEntry} {e : MapEntry} (h : es.filter (fun e => !seen.contains e.born) = l1 ++ e :: l2) :
    es.filter (fun x => !(seen.push e.born).contains x.born) = l1 ++ l2 := by
  have h1 : es.filter (fun x => !(seen.push e.born).contains x.born) = (es.filter (fun e => !seen.contains e.born)).filter (fun x => decide (x.born ≠ e.born)) := by
    rw [List.filter_filter]
    congr 1
    funext x
    simp only [Array.contains_push, Bool.not_or, ne_eq, decide_not]
    rw [Bool.and_comm]
    congr 2
  rw [h1, h]
  have hsub : ((l1 ++ e :: l2).map (·.born)).Nodup := by
    rw [← h]
    exact hn.sublist (List.filter_sublist.map _)
  rw [List.map_append, List.map_cons, List.nodup_append, List.nodup_cons] at hsub
  obtain ⟨_, ⟨h3, _⟩, h4⟩ := hsub
  rw [List.filter_append, List.filter_cons]
  simp only [ne_eq, not_true_eq_false, decide_false, Bool.false_eq_true, if_false]
  congr 1
  · rw [List.filter_eq_self]
    intro x hx
    simp only [decide_eq_true_eq]
    exact h4 x.born (List.mem_map.2 ⟨x, hx, rfl⟩) e.born (by simp)
  · rw [List.filter_eq_self]
    intro x hx
    simp only [decide_eq_true_eq]
    intro he
    exact h3 (List.mem_map.2 ⟨x, hx, he⟩)

omit [DecidableEq α] in
theorem run_next_some {w : World} {b r : Nat} {L R : List (α × Value)} (h : IterAt w mk b r L R) (hR : R ≠ []) :
    ∃ w' R1 a v R2, (∀ ty, (Instr.next (.pointer (some ⟨r, 0, none⟩)) false ty).run P w = .ok (.tuple #[.bool true, mk a, v]) w') ∧ R = R1 ++ (a, v) :: R2 ∧
      IterAt w' mk b r L (R1 ++ R2) ∧ EntryAt w' b r (mk a) v ∧ w.grownBy w' (some r) ∧ w'.heap.size = w.heap.size := by
  have hne := h.ne
  have hrlt := h.lt
  obtain ⟨es, clock, seen, h1, h2, h3⟩ := h
  have hg : (getObj r).run P w = .ok (.mapIter (some b) clock seen clock) w := by simp [getObj, Sem.run, h2]
  generalize hleft : es.filter (fun e => !seen.contains e.born) = left
  have hleft' : left.toList = es.toList.filter (fun e => !seen.contains e.born) := by rw [← hleft, Array.toList_filter]
  rw [← hleft'] at h3
  have hlen : left.size = R.length := by have := congrArg List.length h3; simpa using this
  have hpos : 0 < left.size := by
    rw [hlen]; exact List.length_pos_iff.2 hR
  have hmem : ∀ e ∈ left.toList, e ∈ es.toList := fun e he => by rw [hleft'] at he; exact (List.mem_filter.1 he).1
  have hold : left.filter (fun e => decide (e.born < clock)) = left := by
    rw [Array.filter_eq_self]
    intro e he
    simpa using h1.young e (hmem e (by simpa using he))
  have hnew : left.filter (fun e => decide (e.born ≥ clock)) = #[] := by
    rw [Array.filter_eq_empty_iff]
    intro e he
    have := h1.young e (hmem e (by simpa using he))
    simp; omega
  have hnem : left.isEmpty = false := by
    rw [Bool.eq_false_iff]; intro he; rw [Array.isEmpty_iff] at he; simp [he] at hpos
  have hall : (!seen.isEmpty && !es.isEmpty && es.all (fun e => decide (e.born ≥ clock))) = false := by
    have hes : 0 < es.size := by
      have := hmem left[0] (by simp)
      rcases Nat.eq_zero_or_pos es.size with h0 | h0
      · simp [Array.eq_empty_of_size_eq_zero h0] at this
      · exact h0
    have : es.all (fun e => decide (e.born ≥ clock)) = false := by
      rw [Bool.eq_false_iff]
      intro ht
      rw [Array.all_eq_true] at ht
      have := ht 0 hes
      have := h1.young es[0] (by simp)
      simp at *
      omega
    simp [this]
  -- which one is drawn
  have hpick : ∃ i w1, i < left.size ∧ (choose (.mapNext left.size)).run P w = .ok i w1 ∧ w1.heap = w.heap ∧ w1.os = w.os ∧ w1.tape = w.tape ∧ w1.output = w.output := by
    by_cases hf : left.size ≤ 1
    · exact ⟨0, w, hpos, by simp [choose, Sem.run, Question.forced, hf], rfl, rfl, rfl, rfl⟩
    · exact ⟨w.tape w.drawn (.mapNext left.size) % left.size, { w with drawn := w.drawn + 1 }, Nat.mod_lt _ hpos, by simp [choose, Sem.run, Question.forced, hf, Question.cut], rfl, rfl, rfl, rfl⟩
  obtain ⟨i, w1, hi, hch, e1, e2, e3, e4⟩ := hpick
  have hsplit : left.toList = left.toList.take i ++ left[i] :: left.toList.drop (i + 1) := by
    have := List.drop_eq_getElem_cons (l := left.toList) (i := i) (by simpa using hi)
    simp only [Array.getElem_toList] at this
    rw [← this]
    exact (List.take_append_drop i _).symm
  rw [hsplit] at h3
  obtain ⟨R1, ⟨a, v⟩, R2, rfl, r1, r2, r3⟩ := split_of_map h3
  simp only [Prod.mk.injEq] at r2
  have hobj : w1.heap[r]? = some (.mapIter (some b) clock seen clock) := by rw [e1]; exact h2
  have hset : (setObj r (.mapIter (some b) clock (seen.push left[i].born) clock)).run P w1 = .ok () (setBlock w1 r (.mapIter (some b) clock (seen.push left[i].born) clock)) := by
    simp [setObj, Sem.run, hobj, setBlock]
  have hr' : (setBlock w1 r (.mapIter (some b) clock (seen.push left[i].born) clock)).heap[r]? = some (.mapIter (some b) clock (seen.push left[i].born) clock) := by
    have : r < w1.heap.size := by rw [e1]; exact hrlt
    simp [setBlock, this]
  have ho : ∀ k, k ≠ r → (setBlock w1 r (.mapIter (some b) clock (seen.push left[i].born) clock)).heap[k]? = w.heap[k]? := by
    intro k hk
    simp only [setBlock]
    rw [Array.getElem?_setIfInBounds_ne (Ne.symm hk), e1]
  have hb' := ho b (Ne.symm hne)
  refine ⟨setBlock w1 r (.mapIter (some b) clock (seen.push left[i].born) clock), R1, a, v, R2, ?_, rfl, ⟨es, clock, seen.push left[i].born, ⟨by rw [hb']; exact h1.obj, h1.ents, h1.keys, h1.stamps, h1.young⟩, hr', ?_⟩, ⟨es, clock, clock, _, left[i].born, by rw [hb']; exact h1.obj, hr', by simp, ?_⟩,
    ⟨by simp [setBlock, e2], by simp [setBlock, e3], by simp [setBlock, e4], by simp [setBlock, e1], fun k _ hk => ho k fun e => hk (by rw [e])⟩, by simp [setBlock, e1]⟩
  · intro ty
    simp only [Instr.next, Sem.run_bind, hg, Result.andThen_ok, MapKept.run_getObj_map h1.obj, hall, hleft, hold, hnew, hnem, Bool.false_eq_true, if_false, Array.append_empty, Array.empty_append, Array.size_map, hch,
      Array.getElem?_map, Array.getElem?_eq_getElem hi, Option.map_some, hset, Sem.run_pure, r2.1, r2.2]
  · have hfs := filter_strike h1.stamps (hleft'.symm.trans hsplit)
    rw [hfs, List.map_append, r1, r3, List.map_append]
  · have hin : left[i] ∈ es.toList := hmem _ (by simp)
    obtain ⟨j, hj, hje⟩ := List.mem_iff_getElem.1 hin
    have hfind : es.find? (fun e => e.born == left[i].born) = some left[i] := by
      rw [← Array.find?_toList]
      rw [List.find?_eq_some_iff_getElem]
      refine ⟨by simp, j, hj, hje, fun k hk => ?_⟩
      simp only [Bool.not_eq_true', beq_eq_false_iff_ne]
      intro hb
      have hjs : j < es.size := by simpa using hj
      have hks : k < (es.toList.map (·.born)).length := by simp; omega
      have hnd := (List.pairwise_iff_getElem.1 h1.stamps) k j hks (by simpa using hj) hk
      simp only [List.getElem_map] at hnd
      exact hnd (by rw [hb, hje])
    rw [hfind]
    simp [r2.1, r2.2]

theorem run_entry {w : World} {b r : Nat} {k v : Value} (h : EntryAt w b r k v) : (Instr.entry (.pointer (some ⟨r, 0, none⟩))).run P w = .ok (.tuple #[k, v]) w := by
  obtain ⟨es, clock, since, seen, stamp, h1, h2, h3, h4⟩ := h
  have hg : (getObj r).run P w = .ok (.mapIter (some b) since seen clock) w := by simp [getObj, Sem.run, h2]
  obtain ⟨e, he, hkv⟩ := Option.map_eq_some_iff.1 h4
  simp only [Prod.mk.injEq] at hkv
  simp [Instr.entry, hg, MapKept.run_getObj_map h1, h3, he, hkv.1, hkv.2, Result.andThen]

omit [DecidableEq α] in
theorem run_len {T E : TypeId} (hT : P.underlying T = some (.map K E)) {w : World} {b : Nat} {L : List (α × Value)} (h : MapAt w mk b L) (ty : TypeId) :
    (Builtin.len_ #[T] ty #[.map (some b)]).run P w = .ok (.int .i64 L.length) w := by
  obtain ⟨es, clock, h⟩ := h
  have hlen : es.size = L.length := by have := congrArg List.length h.ents; simpa using this
  simp [Builtin.len_, run_underlying hT, MapKept.run_getObj_map h.obj, Result.andThen, hlen, goInt]

theorem delK_none {L : List (α × Value)} {a : α} (h : L.findIdx? (fun p => decide (p.1 = a)) = none) : delK L a = L := by
  unfold delK
  rw [List.filter_eq_self]
  intro p hp
  have := (List.findIdx?_eq_none_iff.1 h) p hp
  simpa using this

theorem delK_some {L : List (α × Value)} (hn : (L.map (·.1)).Nodup) {a : α} {j : Nat} (h : L.findIdx? (fun p => decide (p.1 = a)) = some j) : delK L a = L.eraseIdx j := by
  induction L generalizing j with
  | nil => simp at h
  | cons p L ih =>
    simp only [List.map_cons, List.nodup_cons] at hn
    by_cases hp : p.1 = a
    · simp [List.findIdx?_cons, hp] at h
      subst h
      have : L.findIdx? (fun p => decide (p.1 = a)) = none := by
        rw [List.findIdx?_eq_none_iff]
        intro q hq
        simp only [decide_eq_false_iff_not]
        intro e
        exact hn.1 (List.mem_map.2 ⟨q, hq, by rw [e, hp]⟩)
      have h2 := delK_none this
      unfold delK at h2 ⊢
      rw [List.filter_cons, if_neg (by simp [hp]), h2]
      rfl
    · simp only [List.findIdx?_cons, hp, decide_false] at h
      cases hj : L.findIdx? fun p => decide (p.1 = a) with
      | none => rw [hj] at h; simp at h
      | some i =>
        rw [hj] at h
        simp at h
        subst h
        have h2 := ih hn.2 hj
        unfold delK at h2 ⊢
        rw [List.filter_cons, if_pos (by simp [hp]), h2]
        rfl

theorem run_del (KO : KeyOf P K mk) {T E : TypeId} (hT : P.underlying T = some (.map K E)) {w : World} {b : Nat} {L : List (α × Value)} (h : MapAt w mk b L) (a : α) :
    ∃ w', (∀ ty, (Builtin.delete_ #[T, K] ty #[.map (some b), mk a]).run P w = .ok (.tuple #[]) w') ∧ MapAt w' mk b (delK L a) ∧ w.grownBy w' (some b) ∧ w'.heap.size = w.heap.size := by
  obtain ⟨es, clock, h⟩ := h
  obtain ⟨d, hd, hs, hck⟩ := KO.plain
  have hf := run_findKey KO h.ents a w
  have hg := MapKept.run_getObj_map (P := P) h.obj
  have hc := hck es.isEmpty 9999 w a
  have hlen : es.size = L.length := by have := congrArg List.length h.ents; simpa using this
  cases hj : L.findIdx? fun p => decide (p.1 = a) with
  | none =>
    rw [hj] at hf
    simp only [Option.bind_none] at hf
    refine ⟨setBlock w b (.map es clock), ?_, ⟨_, _, ⟨heap_setBlock_same h.obj _, ?_, ?_, h.stamps, h.young⟩⟩, grownBy_setBlock h.obj _, by simp [setBlock]⟩
    · intro ty
      simp only [Builtin.delete_, Sem.run_bind, run_underlying hT, hg, Result.andThen_ok, List.getElem?_toArray, List.getElem?_cons_zero, List.getElem?_cons_succ, hc, hf, MapKept.run_setObj_map _ h.obj]
      rfl
    · rw [delK_none hj]; exact h.ents
    · rw [delK_none hj]; exact h.keys
  | some j =>
    obtain ⟨hj', hja, _⟩ := List.findIdx?_eq_some_iff_getElem.1 hj
    rw [hj] at hf
    simp only [Option.bind_some, List.getElem?_eq_getElem hj', Option.map_some] at hf
    refine ⟨setBlock w b (.map (es.eraseIdxIfInBounds j) clock), ?_, ⟨_, _, ⟨heap_setBlock_same h.obj _, ?_, ?_, ?_, ?_⟩⟩, grownBy_setBlock h.obj _, by simp [setBlock]⟩
    · intro ty
      simp only [Builtin.delete_, Sem.run_bind, run_underlying hT, hg, Result.andThen_ok, List.getElem?_toArray, List.getElem?_cons_zero, List.getElem?_cons_succ, hc, hf, MapKept.run_setObj_map _ h.obj]
      rfl
    · rw [delK_some h.keys hj, Array.toList_eraseIdxIfInBounds, map_eraseIdx, map_eraseIdx, h.ents]
    · rw [delK_some h.keys hj, map_eraseIdx]; exact h.keys.sublist (List.eraseIdx_sublist _ _)
    · rw [Array.toList_eraseIdxIfInBounds, map_eraseIdx]; exact h.stamps.sublist (List.eraseIdx_sublist _ _)
    · intro e he
      rw [Array.toList_eraseIdxIfInBounds] at he
      exact h.young e (List.mem_of_mem_eraseIdx he)

theorem getK_del (L : List (α × Value)) (a x : α) : getK (delK L a) x = if x = a then none else getK L x := by
  induction L with
  | nil => simp [delK, getK]
  | cons p L ih =>
    unfold getK delK at *
    rw [List.filter_cons]
    by_cases hp : p.1 = a
    · rw [if_neg (by simp [hp]), ih]
      by_cases h : x = a
      · rw [if_pos h, if_pos h]
      · have : decide (p.1 = x) = false := by simp [hp]; exact fun e => h e.symm
        simp [h, this]
    · rw [if_pos (by simp [hp]), List.find?_cons]
      by_cases hx : p.1 = x
      · have h : x ≠ a := fun e => hp (by rw [hx, e])
        simp [hx, h]
      · simp only [hx, decide_false, List.find?_cons]
        exact ih

end

end Go.Proofs.Ytdcgooleiefljaa
