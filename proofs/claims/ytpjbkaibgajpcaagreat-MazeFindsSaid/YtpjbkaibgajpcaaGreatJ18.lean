/- graph: how a graph lies in memory; Has, Add. graph: Add; the error of two nodes. graph: the error of two nodes. graph: the edges of one node are written; an edge from both sides. graph: join, an edge from both sides. graph: Bind, Link, Cut. graph: Link. graph: Cut. graph: what is asked of no graph. -/
import Derived.Test.YtpjbkaibgajpcaaGreatJ17
import Derived.Test.YtpjbkaibgajpcaaGreatJ01
namespace Go.Proofs.YtpjbkaibgajpcaaGreat
open Go.RowKit Go.ChangeMaps
set_option maxRecDepth 20000

abbrev Gr := List (Int × Nat × List (Int × Bool))

def outerL (Q : Gr) : List (Int × Value) := Q.map fun q => (q.1, .map (some q.2.1))
def innerL (E : List (Int × Bool)) : List (Int × Value) := E.map fun x => (x.1, .bool x.2)
def hasB (Q : Gr) (k : Int) : Bool := Q.any fun q => decide (q.1 = k)

structure GrAt (w : World) (p m : Nat) (Q : Gr) : Prop where
  cell : w.heap[p]? = some (.cells #[.map (some m)] 125 (0, 0))
  outer : MapAt w (Value.int .u64) m (outerL Q)
  inner : ∀ q ∈ Q, MapAt w (Value.int .u64) q.2.1 (innerL q.2.2)
  apart : (m :: Q.map (·.2.1)).Nodup

theorem GrAt.kept {w w' : World} {p m : Nat} {Q : Gr} (h : GrAt w p m Q) (hk : ∀ k, k < w.heap.size → w'.heap[k]? = w.heap[k]?) : GrAt w' p m Q :=
  ⟨(hk p (Array.getElem?_eq_some_iff.1 h.cell).1).trans h.cell, h.outer.kept (hk m h.outer.lt), fun q hq => (h.inner q hq).kept (hk _ (h.inner q hq).lt), h.apart⟩

theorem GrAt.get {w : World} {p m : Nat} {Q : Gr} (h : GrAt w p m Q) : w.cell? ⟨p, 0, none⟩ = some (.map (some m)) := by
  simp [World.cell?, h.cell]

theorem KO64 : KeyOf Tryz.prog 36 (Value.int .u64) := int_keyOf Tryz.underlying36

theorem zeroM (w : World) : (zeroValue 117).run Tryz.prog w = .ok (.map none) w := Tryz.zeroValue117 w
theorem zeroB (w : World) : (zeroValue 4).run Tryz.prog w = .ok (.bool false) w := Tryz.zeroValue4 w

theorem neqM (o : Option Nat) (w : World) : (binOp .neq 117 (.map o) (.map none)).run Tryz.prog w = .ok (.bool (!o.isNone)) w := run_neq_map_nil w _ _ _ _ Tryz.underlying117

theorem getK_outer (Q : Gr) (k : Int) : getK (outerL Q) k = (Q.find? fun q => decide (q.1 = k)).map fun q => .map (some q.2.1) := by
  unfold getK outerL
  rw [List.find?_map, Option.map_map]
  rfl

theorem getK_outer_none {Q : Gr} {k : Int} (h : hasB Q k = false) : getK (outerL Q) k = none := by
  rw [getK_outer, List.find?_eq_none.2]
  · rfl
  · intro q hq
    simp only [hasB, List.any_eq_false] at h
    exact h q hq

theorem getK_outer_some {Q : Gr} {k : Int} (h : hasB Q k = true) : ∃ q ∈ Q, q.1 = k ∧ Q.find? (fun q => decide (q.1 = k)) = some q ∧ getK (outerL Q) k = some (.map (some q.2.1)) := by
  simp only [hasB, List.any_eq_true] at h
  obtain ⟨q0, h0, h1⟩ := h
  cases hf : Q.find? fun q => decide (q.1 = k) with
  | none => exact absurd h1 (by simpa using List.find?_eq_none.1 hf q0 h0)
  | some q =>
    have := List.find?_some hf
    exact ⟨q, List.mem_of_find?_eq_some hf, by simpa using this, rfl, by rw [getK_outer, hf]; rfl⟩

set_option maxHeartbeats 2000000 in
theorem gHas (w : World) (p m : Nat) (Q : Gr) (k : Int) (h : GrAt w p m Q) :
    Calls Tryz.prog 80 #[.pointer (some ⟨p, 0, none⟩), .int .u64 k] w fun e w' => e = .returned (.bool (hasB Q k)) ∧ w' = w := by
  have hc := h.get
  have hl := run_look KO64 Tryz.underlying123 h.outer (zeroM w) k false
  cases hb : hasB Q k with
  | true =>
    obtain ⟨q, -, -, -, hq⟩ := getK_outer_some hb
    rw [hq] at hl
    have hn := neqM (some q.2.1) w
    simp only [Option.isNone_some, Bool.not_false] at hn
    simp only [Option.getD_some, Bool.false_eq_true, if_false] at hl
    clear h
    go_enter Tryz.func80, Tryz.ntmps80
    go_wp2
    go_ret
    exact ⟨rfl, rfl⟩
  | false =>
    rw [getK_outer_none hb] at hl
    have hn := neqM none w
    simp only [Option.isNone_none, Bool.not_true] at hn
    simp only [Option.getD_none, Bool.false_eq_true, if_false] at hl
    clear h
    go_enter Tryz.func80, Tryz.ntmps80
    go_wp2
    go_ret
    exact ⟨rfl, rfl⟩

end Go.Proofs.YtpjbkaibgajpcaaGreat

namespace Go.Proofs.YtpjbkaibgajpcaaGreat
open Go.RowKit Go.ChangeMaps
set_option maxRecDepth 20000

theorem hasB_find {Q : Gr} {k : Int} (h : hasB Q k = false) : (outerL Q).findIdx? (fun p => decide (p.1 = k)) = none := by
  rw [List.findIdx?_eq_none_iff]
  intro x hx
  simp only [outerL, List.mem_map] at hx
  obtain ⟨q, hq, rfl⟩ := hx
  simp only [hasB, List.any_eq_false] at h
  simpa using h q hq

theorem GrAt.add {w w' : World} {p m : Nat} {Q : Gr} {k : Int} (h : GrAt w p m Q) (hb : hasB Q k = false)
    (hm : MapAt w' (Value.int .u64) m (putK (outerL Q) k (.map (some w.heap.size)))) (hg : (w.alloc (.map #[] 0)).grownBy w' (some m)) : GrAt w' p m (Q ++ [(k, w.heap.size, [])]) ∧ Mod (fun j => j = m) w w' := by
  have hml := h.outer.lt
  have hold : ∀ j, j < w.heap.size → j ≠ m → w'.heap[j]? = w.heap[j]? := fun j hj hne =>
    (hg.block j (by simp; omega) (fun e => hne (by cases e; rfl))).trans (heap_alloc_old _ _ hj)
  refine ⟨⟨?_, ?_, ?_, ?_⟩, ?_⟩
  · refine (hold p (Array.getElem?_eq_some_iff.1 h.cell).1 ?_).trans h.cell
    rintro rfl
    obtain ⟨es, c, hi⟩ := h.outer
    have := hi.obj
    rw [h.cell] at this
    cases this
  · rw [putK_new (hasB_find hb)] at hm
    simpa [outerL] using hm
  · intro q hq
    rw [List.mem_append, List.mem_singleton] at hq
    rcases hq with hq | rfl
    · refine (h.inner q hq).kept (hold _ (h.inner q hq).lt ?_)
      have := (List.nodup_cons.1 h.apart).1
      rintro e
      exact this (e ▸ List.mem_map_of_mem hq)
    · refine MapAt.kept (MapAt.made w) (hg.block _ (by simp) (fun e => ?_))
      have : m = w.heap.size := by cases e; rfl
      omega
  · have hl : ∀ x ∈ m :: Q.map (·.2.1), x < w.heap.size := by
      intro x hx
      rcases List.mem_cons.1 hx with rfl | hx
      · exact hml
      · obtain ⟨q, hq, rfl⟩ := List.mem_map.1 hx
        exact (h.inner q hq).lt
    have e : m :: (Q ++ [((k, w.heap.size, []) : Int × Nat × List (Int × Bool))]).map (fun q => q.2.1) = (m :: Q.map (fun q => q.2.1)) ++ [w.heap.size] := by simp
    rw [e, List.nodup_append]
    exact ⟨h.apart, by simp, fun x hx y hy => by rw [List.mem_singleton] at hy; have := hl x hx; omega⟩
  · have hs := hg.size
    rw [World.size_alloc] at hs
    exact ⟨hg.os, hg.tape, hg.output, by omega, fun j hj hne => hold j hj hne⟩

set_option maxHeartbeats 4000000 in
theorem gAdd (w : World) (p m : Nat) (Q : Gr) (k : Int) (h : GrAt w p m Q) :
    Calls Tryz.prog 59 #[.pointer (some ⟨p, 0, none⟩), .int .u64 k] w fun e w' =>
      (hasB Q k = true ∧ e = .returned (.int .i64 7) ∧ w' = w) ∨ (hasB Q k = false ∧ e = .returned (.int .i64 0) ∧ GrAt w' p m (Q ++ [(k, w.heap.size, [])]) ∧ Mod (fun j => j = m) w w') := by
  have hc := h.get
  have cH := gHas w p m Q k h
  cases hb : hasB Q k with
  | true =>
    rw [hb] at cH
    clear h
    go_enter Tryz.func59, Tryz.ntmps59
    go_wp2_with (go_at_call 80; refine cH.mono ?_; rintro e w' ⟨rfl, rfl⟩)
    go_ret
    exact .inl ⟨trivial, rfl, rfl⟩
  | false =>
    rw [hb] at cH
    have hm0 : MapAt (w.alloc (.map #[] 0)) (Value.int .u64) m (outerL Q) := h.outer.kept (heap_alloc_old _ _ h.outer.lt)
    obtain ⟨w1, hp, hm1, hg1, -⟩ := run_put KO64 Tryz.underlying123 hm0 k (.map (some w.heap.size))
    have hE := h.add hb hm1 hg1
    have HE := Lib.hid hE
    clear hE h hm0 hm1 hg1
    have hmm := @run_makeMap Tryz.prog
    go_enter Tryz.func59, Tryz.ntmps59
    go_wp2_with (go_at_call 80; refine cH.mono ?_; rintro e w' ⟨rfl, rfl⟩)
    go_ret
    exact .inr ⟨trivial, rfl, HE.out⟩

end Go.Proofs.YtpjbkaibgajpcaaGreat

namespace Go.Proofs.YtpjbkaibgajpcaaGreat
open Go.RowKit Go.ChangeMaps
set_option maxRecDepth 20000

def pairZ (Q : Gr) (a b : Int) : Int := if a = b then 1 else if hasB Q a && hasB Q b then 0 else 6

set_option maxHeartbeats 4000000 in
theorem gPair (w : World) (p m : Nat) (Q : Gr) (a b : Int) (h : GrAt w p m Q) :
    Calls Tryz.prog 83 #[.pointer (some ⟨p, 0, none⟩), .int .u64 a, .int .u64 b] w fun e w' => e = .returned (.int .i64 (pairZ Q a b)) ∧ w' = w := by
  have cA := gHas w p m Q a h
  have cB := gHas w p m Q b h
  clear h
  unfold pairZ
  by_cases hab : a = b
  · simp only [hab, if_true]
    go_enter Tryz.func83, Tryz.ntmps83
    go_wp2_with fail
    go_ret
    exact ⟨rfl, rfl⟩
  · simp only [hab, if_false]
    have hab' : (decide (a = b)) = false := by simpa using hab
    cases ha : hasB Q a <;> cases hb : hasB Q b <;> rw [ha] at cA <;> rw [hb] at cB <;> simp only [Bool.and_self, Bool.and_false, Bool.and_true, Bool.false_eq_true, if_false, if_true]
    all_goals
      go_enter Tryz.func83, Tryz.ntmps83
      go_wp2_with (first
        | (go_at_call 80; with_reducible refine cA.mono ?_; rintro e w' ⟨rfl, rfl⟩)
        | (go_at_call 80; with_reducible refine cB.mono ?_; rintro e w' ⟨rfl, rfl⟩))
      go_ret
      exact ⟨rfl, rfl⟩

end Go.Proofs.YtpjbkaibgajpcaaGreat

namespace Go.Proofs.YtpjbkaibgajpcaaGreat
open Go.RowKit Go.ChangeMaps
set_option maxRecDepth 20000

def putE : List (Int × Bool) → Int → Bool → List (Int × Bool)
  | [], x, v => [(x, v)]
  | e :: E, x, v => if e.1 = x then (x, v) :: E else e :: putE E x v

theorem innerL_put (E : List (Int × Bool)) (x : Int) (v : Bool) : putK (innerL E) x (.bool v) = innerL (putE E x v) := by
  induction E with
  | nil => rfl
  | cons e E ih =>
    by_cases h : e.1 = x
    · simp [innerL, putK, putE, h]
    · have ih' := ih
      simp only [innerL] at ih' ⊢
      simp [putK, putE, h, ih']

theorem innerL_del (E : List (Int × Bool)) (x : Int) : delK (innerL E) x = innerL (E.filter fun e => decide (e.1 ≠ x)) := by
  simp only [innerL, delK, List.filter_map]
  rfl

def setQ (Q : Gr) (a : Int) (f : List (Int × Bool) → List (Int × Bool)) : Gr := Q.map fun q => if q.1 = a then (q.1, q.2.1, f q.2.2) else q

theorem outerL_set (Q : Gr) (a : Int) (f) : outerL (setQ Q a f) = outerL Q := by
  simp only [outerL, setQ, List.map_map]
  refine List.map_congr_left fun q _ => ?_
  simp only [Function.comp]
  split <;> rfl

theorem blocks_set (Q : Gr) (a : Int) (f) : (setQ Q a f).map (fun q => q.2.1) = Q.map (fun q => q.2.1) := by
  simp only [setQ, List.map_map]
  refine List.map_congr_left fun q _ => ?_
  simp only [Function.comp]
  split <;> rfl

theorem keys_set (Q : Gr) (a : Int) (f) : (setQ Q a f).map (fun q => q.1) = Q.map (fun q => q.1) := by
  simp only [setQ, List.map_map]
  refine List.map_congr_left fun q _ => ?_
  simp only [Function.comp]
  split <;> rfl

theorem GrAt.keys {w : World} {p m : Nat} {Q : Gr} (h : GrAt w p m Q) : (Q.map (fun q => q.1)).Nodup := by
  obtain ⟨es, c, hi⟩ := h.outer
  have := hi.keys
  simpa [outerL, List.map_map, Function.comp_def] using this

theorem nodup_inj {α β : Type} {f : α → β} : ∀ {l : List α}, (l.map f).Nodup → ∀ {x y : α}, x ∈ l → y ∈ l → f x = f y → x = y
  | [], _, _, _, hx, _, _ => by cases hx
  | a :: l, h, x, y, hx, hy, e => by
    simp only [List.map_cons, List.nodup_cons] at h
    rcases List.mem_cons.1 hx with h1 | h1 <;> rcases List.mem_cons.1 hy with h2 | h2
    · rw [h1, h2]
    · rw [h1] at e
      exact absurd (e ▸ List.mem_map_of_mem h2) h.1
    · rw [h2] at e
      exact absurd (e ▸ List.mem_map_of_mem h1) h.1
    · exact nodup_inj h.2 h1 h2 e

theorem GrAt.set {w w' : World} {p m : Nat} {Q : Gr} (h : GrAt w p m Q) {q : Int × Nat × List (Int × Bool)} (hq : q ∈ Q) (f : List (Int × Bool) → List (Int × Bool))
    (hm : MapAt w' (Value.int .u64) q.2.1 (innerL (f q.2.2))) (hg : w.grownBy w' (some q.2.1)) : GrAt w' p m (setQ Q q.1 f) := by
  have hold : ∀ j, j < w.heap.size → j ≠ q.2.1 → w'.heap[j]? = w.heap[j]? := fun j hj hne => hg.block j hj (fun e => hne (by cases e; rfl))
  have hnd := List.nodup_cons.1 h.apart
  refine ⟨?_, ?_, ?_, ?_⟩
  · refine (hold p (Array.getElem?_eq_some_iff.1 h.cell).1 ?_).trans h.cell
    intro e
    obtain ⟨es, c, hi⟩ := h.inner q hq
    have := hi.obj
    rw [← e, h.cell] at this
    cases this
  · rw [outerL_set]
    refine h.outer.kept (hold m h.outer.lt ?_)
    intro e
    exact hnd.1 (e ▸ List.mem_map_of_mem hq)
  · intro r hr
    simp only [setQ, List.mem_map] at hr
    obtain ⟨r0, hr0, rfl⟩ := hr
    by_cases hk : r0.1 = q.1
    · have : r0 = q := nodup_inj h.keys hr0 hq hk
      subst this
      simpa using hm
    · rw [if_neg hk]
      refine (h.inner r0 hr0).kept (hold _ (h.inner r0 hr0).lt fun e => hk ?_)
      rw [nodup_inj hnd.2 hr0 hq e]
  · rw [blocks_set]; exact h.apart

theorem mem_set_ne {Q : Gr} {a : Int} {f} {q : Int × Nat × List (Int × Bool)} (hq : q ∈ Q) (h : q.1 ≠ a) : q ∈ setQ Q a f :=
  List.mem_map.2 ⟨q, hq, by rw [if_neg h]⟩

end Go.Proofs.YtpjbkaibgajpcaaGreat

namespace Go.Proofs.YtpjbkaibgajpcaaGreat
open Go.RowKit Go.ChangeMaps
set_option maxRecDepth 20000

def joinQ (Q : Gr) (a b : Int) (v : Bool) : Gr := setQ (setQ Q a fun E => putE E b v) b fun E => putE E a v

theorem GrAt.look {w : World} {p m : Nat} {Q : Gr} (h : GrAt w p m Q) {q : Int × Nat × List (Int × Bool)} (hq : q ∈ Q) :
    (Instr.lookup 123 (.map (some m)) (.int .u64 q.1) false).run Tryz.prog w = .ok (.map (some q.2.1)) w := by
  have hl := run_look KO64 Tryz.underlying123 h.outer (zeroM w) q.1 false
  have hb : hasB Q q.1 = true := List.any_eq_true.2 ⟨q, hq, by simp⟩
  obtain ⟨r, hr, he, -, hg⟩ := getK_outer_some hb
  rw [nodup_inj h.keys hr hq he] at hg
  rw [hg] at hl
  simpa using hl

theorem GrAt.put {w : World} {p m : Nat} {Q : Gr} (h : GrAt w p m Q) {q : Int × Nat × List (Int × Bool)} (hq : q ∈ Q) (x : Int) (v : Bool) :
    ∃ w1 st z w2, (Instr.mapEntry 117 (.map (some q.2.1)) (.int .u64 x)).run Tryz.prog w = .ok (.tuple #[z, .int .i64 st]) w1 ∧
      (Instr.entryStore 117 (.map (some q.2.1)) (.int .i64 st) (.bool v)).run Tryz.prog w1 = .ok () w2 ∧
      (∃ f, GrAt w1 p m (setQ Q q.1 f)) ∧ GrAt w2 p m (setQ Q q.1 fun E => putE E x v) ∧ w.grownBy w2 (some q.2.1) := by
  obtain ⟨w1, st, h1, hs1, hg1, -⟩ := run_mapEntry KO64 Tryz.underlying117 (h.inner q hq) x zeroB
  obtain ⟨w2, h2, hm2, hg2, -⟩ := run_entryStore (P := Tryz.prog) (T := 117) hs1 (.bool v)
  rw [putK_putK, innerL_put] at hm2
  have hu : ∃ u, (getK (innerL q.2.2) x).getD (.bool false) = .bool u := by
    cases hg : getK (innerL q.2.2) x with
    | none => exact ⟨false, rfl⟩
    | some y =>
      simp only [getK, Option.map_eq_some_iff] at hg
      obtain ⟨e, he, rfl⟩ := hg
      have := List.mem_of_find?_eq_some he
      simp only [innerL, List.mem_map] at this
      obtain ⟨e0, -, rfl⟩ := this
      exact ⟨e0.2, rfl⟩
  obtain ⟨u, hu⟩ := hu
  have hm1 := hs1.map
  rw [hu, innerL_put] at hm1
  exact ⟨w1, st, _, w2, h1, h2, ⟨fun E => putE E x u, h.set hq (fun E => putE E x u) hm1 hg1⟩, h.set hq (fun E => putE E x v) hm2 (hg1.trans hg2), hg1.trans hg2⟩

def JoinS (p m : Nat) (qa qb : Int × Nat × List (Int × Bool)) (w : World) : Prop :=
  w.cell? ⟨p, 0, none⟩ = some (.map (some m)) ∧ (Instr.lookup 123 (.map (some m)) (.int .u64 qa.1) false).run Tryz.prog w = .ok (.map (some qa.2.1)) w ∧
    (Instr.lookup 123 (.map (some m)) (.int .u64 qb.1) false).run Tryz.prog w = .ok (.map (some qb.2.1)) w

theorem mem_set_some {Q : Gr} (a : Int) (f) {q : Int × Nat × List (Int × Bool)} (h : ∃ r ∈ Q, r.1 = q.1 ∧ r.2.1 = q.2.1) : ∃ r ∈ setQ Q a f, r.1 = q.1 ∧ r.2.1 = q.2.1 := by
  obtain ⟨r, hr, h1, h2⟩ := h
  refine ⟨_, List.mem_map_of_mem hr, ?_, ?_⟩ <;> split <;> assumption

theorem GrAt.joinS {w : World} {p m : Nat} {Q : Gr} (h : GrAt w p m Q) {qa qb : Int × Nat × List (Int × Bool)} (ha : ∃ r ∈ Q, r.1 = qa.1 ∧ r.2.1 = qa.2.1) (hb : ∃ r ∈ Q, r.1 = qb.1 ∧ r.2.1 = qb.2.1) : JoinS p m qa qb w := by
  obtain ⟨r, hr, h1, h2⟩ := ha
  obtain ⟨s, hs, h3, h4⟩ := hb
  refine ⟨h.get, ?_, ?_⟩
  · rw [← h1, ← h2]; exact h.look hr
  · rw [← h3, ← h4]; exact h.look hs

set_option maxHeartbeats 4000000 in
theorem gJoin (w : World) (p m : Nat) (Q : Gr) (qa qb : Int × Nat × List (Int × Bool)) (v : Bool) (h : GrAt w p m Q) (hqa : qa ∈ Q) (hqb : qb ∈ Q) (hab : qa.1 ≠ qb.1) :
    Calls Tryz.prog 84 #[.pointer (some ⟨p, 0, none⟩), .int .u64 qa.1, .int .u64 qb.1, .bool v] w fun e w' => e = .returned (.tuple #[]) ∧ GrAt w' p m (joinQ Q qa.1 qb.1 v) ∧ Mod (fun j => j = qa.2.1 ∨ j = qb.2.1) w w' := by
  obtain ⟨W, hW⟩ : ∃ W, W = w.drew := ⟨_, rfl⟩
  have h0 : GrAt W p m Q := by rw [hW]; exact h.kept (fun _ _ => rfl)
  obtain ⟨w1, st1, z1, w2, e1, s1, ⟨f1, G1⟩, G2, g2⟩ := h0.put hqa qb.1 v
  obtain ⟨w3, st2, z2, w4, e2, s2, ⟨f2, G3⟩, G4, g4⟩ := G2.put (mem_set_ne hqb (Ne.symm hab)) qa.1 v
  have ka : ∃ r ∈ Q, r.1 = qa.1 ∧ r.2.1 = qa.2.1 := ⟨qa, hqa, rfl, rfl⟩
  have kb : ∃ r ∈ Q, r.1 = qb.1 ∧ r.2.1 = qb.2.1 := ⟨qb, hqb, rfl, rfl⟩
  have S0 := Lib.hid (h0.joinS ka kb)
  have S1 := Lib.hid (G1.joinS (mem_set_some _ _ ka) (mem_set_some _ _ kb))
  have S2 := Lib.hid (G2.joinS (mem_set_some _ _ ka) (mem_set_some _ _ kb))
  have S3 := Lib.hid (G3.joinS (mem_set_some _ _ (mem_set_some _ _ ka)) (mem_set_some _ _ (mem_set_some _ _ kb)))
  have S4 := Lib.hid (G4.joinS (mem_set_some _ _ (mem_set_some _ _ ka)) (mem_set_some _ _ (mem_set_some _ _ kb)))
  have GG := Lib.hid G4
  have MM := Lib.hid (show Mod (fun j => j = qa.2.1 ∨ j = qb.2.1) w w4 by
    have hg0 : w.grownBy W none := by rw [hW]; exact ⟨rfl, rfl, rfl, Nat.le_refl _, fun _ _ _ => rfl⟩
    refine ⟨(g4.os.trans g2.os).trans hg0.os, (g4.tape.trans g2.tape).trans hg0.tape, (g4.output.trans g2.output).trans hg0.output, Nat.le_trans hg0.size (Nat.le_trans g2.size g4.size), fun k hk hn => ?_⟩
    have h1 := hg0.size
    have h2 := g2.size
    exact (g4.block k (by omega) (fun e => hn (.inr (by cases e; rfl)))).trans ((g2.block k (by omega) (fun e => hn (.inl (by cases e; rfl)))).trans (hg0.block k hk (by simp))))
  have HW := Lib.hid hW
  clear hW h h0 G1 G2 G3 G4 g2 g4 ka kb hqa hqb
  go_enter Tryz.func84, Tryz.ntmps84
  refine region_go (fun w' => w'.cell? ⟨p, 0, none⟩ = some (.map (some m)) ∧ (Instr.lookup 123 (.map (some m)) (.int .u64 qa.1) false).run Tryz.prog w' = .ok (.map (some qa.2.1)) w' ∧ (Instr.lookup 123 (.map (some m)) (.int .u64 qb.1) false).run Tryz.prog w' = .ok (.map (some qb.2.1)) w') (by kernel_rfl) ?hS0 (fun hH => ?_)
  case hS0 =>
    rw [← HW.out]; exact S0.out
  rw [← HW.out] at hH ⊢
  refine kY 0 hH ?_
  repeat simp only [Act.put, uA1, uB1, uC1]
  refine kY 1 hH ?_
  repeat simp only [Act.put, uA1, uB1, uC1]
  refine kY 2 hH ?_
  repeat simp only [Act.put, uA1, uB1, uC1]
  refine kY 3 hH ?_
  repeat simp only [Act.put, uA1, uB1, uC1]
  refine kY 4 hH ?_
  repeat simp only [Act.put, uA1, uB1, uC1]
  refine kY 5 hH ?_
  repeat simp only [Act.put, uA1, uB1, uC1]
  refine kY 6 hH ?_
  repeat simp only [Act.put, uA1, uB1, uC1]
  refine kY 7 hH ?_
  repeat simp only [Act.put, uA1, uB1, uC1]
  refine kY 8 hH ?_
  repeat simp only [Act.put, uA1, uB1, uC1]
  refine kY 9 hH ?_
  repeat simp only [Act.put, uA1, uB1, uC1]
  refine kY 10 hH ?_
  repeat simp only [Act.put, uA1, uB1, uC1]
  refine kY 11 hH ?_
  repeat simp only [Act.put, uA1, uB1, uC1]
  refine kY 12 hH ?_
  repeat simp only [Act.put, uA1, uB1, uC1]
  refine kY 13 hH ?_
  repeat simp only [Act.put, uA1, uB1, uC1]
  refine kY 14 hH ?_
  repeat simp only [Act.put, uA1, uB1, uC1]
  refine kY 15 hH ?_
  repeat simp only [Act.put, uA1, uB1, uC1]
  refine spk 16 rfl (by decide +kernel) (by rfl) (fun K' hK => ?_)
  go_simp
  try dsimp only
  refine hK.out _ _ ?hS (fun hH' => ?_)
  case hS =>
    exact S1.out
  clear hK K' hH; have hH := hH'; clear hH'; repeat simp only [Act.put, uA1, uB1, uC1]
  refine kY 17 hH ?_
  repeat simp only [Act.put, uA1, uB1, uC1]
  refine spk 18 rfl (by decide +kernel) (by rfl) (fun K' hK => ?_)
  go_simp
  try dsimp only
  refine hK.out _ _ ?hS (fun hH' => ?_)
  case hS =>
    exact S2.out
  clear hK K' hH; have hH := hH'; clear hH'; repeat simp only [Act.put, uA1, uB1, uC1]
  refine spk 19 rfl (by decide +kernel) (by rfl) (fun K' hK => ?_)
  go_simp
  try dsimp only
  refine hK.out _ _ ?hS (fun hH' => ?_)
  case hS =>
    exact S3.out
  clear hK K' hH; have hH := hH'; clear hH'; repeat simp only [Act.put, uA1, uB1, uC1]
  refine kY 20 hH ?_
  repeat simp only [Act.put, uA1, uB1, uC1]
  refine spk 21 rfl (by decide +kernel) (by rfl) (fun K' hK => ?_)
  go_simp
  try dsimp only
  refine hK.out _ _ ?hS (fun hH' => ?_)
  case hS =>
    exact S4.out
  clear hK K' hH; have hH := hH'; clear hH'; repeat simp only [Act.put, uA1, uB1, uC1]
  refine wpAnyH_done (by decide +kernel) ?_ _
  go_wp2
  go_end0
  exact ⟨rfl, GG.out, MM.out⟩

end Go.Proofs.YtpjbkaibgajpcaaGreat

namespace Go.Proofs.YtpjbkaibgajpcaaGreat
open Go.RowKit Go.ChangeMaps
set_option maxRecDepth 20000

def edgeO (E : List (Int × Bool)) (x : Int) : Option Bool := (E.find? fun e => decide (e.1 = x)).map (·.2)

theorem getK_inner (E : List (Int × Bool)) (x : Int) : getK (innerL E) x = (edgeO E x).map Value.bool := by
  unfold getK innerL edgeO
  rw [List.find?_map, Option.map_map, Option.map_map]
  rfl

theorem GrAt.edge {w : World} {p m : Nat} {Q : Gr} (h : GrAt w p m Q) {q : Int × Nat × List (Int × Bool)} (hq : q ∈ Q) (x : Int) (c : Bool) :
    (Instr.lookup 117 (.map (some q.2.1)) (.int .u64 x) c).run Tryz.prog w = .ok (if c then .tuple #[.bool ((edgeO q.2.2 x).getD false), .bool (edgeO q.2.2 x).isSome] else .bool ((edgeO q.2.2 x).getD false)) w := by
  have hl := run_look KO64 Tryz.underlying117 (h.inner q hq) (zeroB w) x c
  rw [getK_inner] at hl
  have e1 : ((edgeO q.2.2 x).map Value.bool).getD (.bool false) = .bool ((edgeO q.2.2 x).getD false) := by cases edgeO q.2.2 x <;> rfl
  rw [e1, Option.isSome_map] at hl
  exact hl

theorem pair_ok {Q : Gr} {a b : Int} (h : pairZ Q a b = 0) : a ≠ b ∧ hasB Q a = true ∧ hasB Q b = true := by
  unfold pairZ at h
  split at h
  · cases h
  · next hab =>
    split at h
    · next h1 =>
      rw [Bool.and_eq_true] at h1
      exact ⟨hab, h1⟩
    · cases h

def BlocksOf (Q : Gr) (j : Nat) : Prop := ∃ q ∈ Q, j = q.2.1

def bindG (Q : Gr) (a b : Int) : Int × Gr :=
  if pairZ Q a b ≠ 0 then (pairZ Q a b, Q) else
  match Q.find? (fun q => decide (q.1 = a)) with
  | some q => if (edgeO q.2.2 b).getD false then (7, Q) else (0, joinQ Q a b true)
  | none => (6, Q)

def linkG (Q : Gr) (a b : Int) : Int × Gr :=
  if pairZ Q a b ≠ 0 then (pairZ Q a b, Q) else
  match Q.find? (fun q => decide (q.1 = a)) with
  | some q => if (edgeO q.2.2 b).isSome then (7, Q) else (0, joinQ Q a b false)
  | none => (6, Q)

set_option maxRecDepth 100000 in
set_option maxHeartbeats 4000000 in
theorem gBind (w : World) (p m : Nat) (Q : Gr) (a b : Int) (h : GrAt w p m Q) :
    Calls Tryz.prog 60 #[.pointer (some ⟨p, 0, none⟩), .int .u64 a, .int .u64 b] w fun e w' =>
      e = .returned (.int .i64 (bindG Q a b).1) ∧ GrAt w' p m (bindG Q a b).2 ∧ Mod (BlocksOf Q) w w' := by
  have cP := gPair w p m Q a b h
  have hc := h.get
  by_cases hp : pairZ Q a b = 0
  · obtain ⟨hab, ha, hb⟩ := pair_ok hp
    obtain ⟨qa, hqa, rfl, hfa, -⟩ := getK_outer_some ha
    obtain ⟨qb, hqb, rfl, hfb, -⟩ := getK_outer_some hb
    have hl := h.look hqa
    have he := h.edge hqa qb.1 false
    simp only [Bool.false_eq_true, if_false] at he
    rw [hp] at cP
    unfold bindG
    rw [if_neg (by simp [hp]), hfa]
    simp only
    cases hx : (edgeO qa.2.2 qb.1).getD false with
    | true =>
      rw [hx] at he
      simp only [if_true]
      have HH := Lib.hid h
      clear h
      go_enter Tryz.func60, Tryz.ntmps60
      go_wp2_with (first | (go_at_call 83; refine cP.mono ?_; rintro e w' ⟨rfl, rfl⟩))
      go_ret
      exact ⟨rfl, HH.out, Mod.refl _ _⟩
    | false =>
      rw [hx] at he
      simp only [Bool.false_eq_true, if_false]
      have cJ := gJoin w p m Q qa qb true h hqa hqb hab
      clear h
      go_enter Tryz.func60, Tryz.ntmps60
      go_wp2_with (first
        | (go_at_call 83; refine cP.mono ?_; rintro e w' ⟨rfl, rfl⟩)
        | (go_at_call 84; refine cJ.mono ?_; rintro e w2 ⟨rfl, hG, hM⟩; have HG := Lib.hid hG; have HM := Lib.hid hM; clear hG hM))
      go_ret
      exact ⟨rfl, HG.out, HM.out.mono (fun k _ hk => hk.elim (fun e => ⟨qa, hqa, e⟩) (fun e => ⟨qb, hqb, e⟩))⟩
  · unfold bindG
    rw [if_pos (by simpa using hp)]
    generalize pairZ Q a b = z at hp cP ⊢
    have hz : decide (z = 0) = false := by simpa using hp
    have HH := Lib.hid h
    clear h
    go_enter Tryz.func60, Tryz.ntmps60
    go_wp2_with (first | (go_at_call 83; refine cP.mono ?_; rintro e w' ⟨rfl, rfl⟩))
    go_ret
    exact ⟨rfl, HH.out, Mod.refl _ _⟩

end Go.Proofs.YtpjbkaibgajpcaaGreat

namespace Go.Proofs.YtpjbkaibgajpcaaGreat
open Go.RowKit Go.ChangeMaps
set_option maxRecDepth 20000

set_option maxRecDepth 100000 in
set_option maxHeartbeats 4000000 in
theorem gLink (w : World) (p m : Nat) (Q : Gr) (a b : Int) (h : GrAt w p m Q) :
    Calls Tryz.prog 61 #[.pointer (some ⟨p, 0, none⟩), .int .u64 a, .int .u64 b] w fun e w' =>
      e = .returned (.int .i64 (linkG Q a b).1) ∧ GrAt w' p m (linkG Q a b).2 ∧ Mod (BlocksOf Q) w w' := by
  have cP := gPair w p m Q a b h
  have hc := h.get
  by_cases hp : pairZ Q a b = 0
  · obtain ⟨hab, ha, hb⟩ := pair_ok hp
    obtain ⟨qa, hqa, rfl, hfa, -⟩ := getK_outer_some ha
    obtain ⟨qb, hqb, rfl, hfb, -⟩ := getK_outer_some hb
    have hl := h.look hqa
    have he := h.edge hqa qb.1 true
    simp only [if_true] at he
    rw [hp] at cP
    unfold linkG
    rw [if_neg (by simp [hp]), hfa]
    simp only
    generalize (edgeO qa.2.2 qb.1).getD false = nd at he
    cases hx : (edgeO qa.2.2 qb.1).isSome with
    | true =>
      rw [hx] at he
      simp only [if_true]
      have HH := Lib.hid h
      clear h
      go_enter Tryz.func61, Tryz.ntmps61
      go_wp2_with (first | (go_at_call 83; refine cP.mono ?_; rintro e w' ⟨rfl, rfl⟩))
      go_ret
      exact ⟨rfl, HH.out, Mod.refl _ _⟩
    | false =>
      rw [hx] at he
      simp only [Bool.false_eq_true, if_false]
      have cJ := gJoin w p m Q qa qb false h hqa hqb hab
      clear h
      go_enter Tryz.func61, Tryz.ntmps61
      go_wp2_with (first
        | (go_at_call 83; refine cP.mono ?_; rintro e w' ⟨rfl, rfl⟩)
        | (go_at_call 84; refine cJ.mono ?_; rintro e w2 ⟨rfl, hG, hM⟩; have HG := Lib.hid hG; have HM := Lib.hid hM; clear hG hM))
      go_ret
      exact ⟨rfl, HG.out, HM.out.mono (fun k _ hk => hk.elim (fun e => ⟨qa, hqa, e⟩) (fun e => ⟨qb, hqb, e⟩))⟩
  · unfold linkG
    rw [if_pos (by simpa using hp)]
    generalize pairZ Q a b = z at hp cP ⊢
    have hz : decide (z = 0) = false := by simpa using hp
    have HH := Lib.hid h
    clear h
    go_enter Tryz.func61, Tryz.ntmps61
    go_wp2_with (first | (go_at_call 83; refine cP.mono ?_; rintro e w' ⟨rfl, rfl⟩))
    go_ret
    exact ⟨rfl, HH.out, Mod.refl _ _⟩

end Go.Proofs.YtpjbkaibgajpcaaGreat

namespace Go.Proofs.YtpjbkaibgajpcaaGreat
open Go.RowKit Go.ChangeMaps
set_option maxRecDepth 20000

def delE (E : List (Int × Bool)) (x : Int) : List (Int × Bool) := E.filter fun e => decide (e.1 ≠ x)
def cutQ (Q : Gr) (a b : Int) : Gr := setQ (setQ Q a fun E => delE E b) b fun E => delE E a

def cutG (Q : Gr) (a b : Int) : Int × Gr :=
  if pairZ Q a b ≠ 0 then (pairZ Q a b, Q) else
  match Q.find? (fun q => decide (q.1 = a)) with
  | some q => match edgeO q.2.2 b with
    | none => (6, Q)
    | some true => (10, Q)
    | some false => (0, cutQ Q a b)
  | none => (6, Q)

theorem GrAt.del {w : World} {p m : Nat} {Q : Gr} (h : GrAt w p m Q) {q : Int × Nat × List (Int × Bool)} (hq : q ∈ Q) (x : Int) :
    ∃ w1, (∀ ty, (Builtin.delete_ #[117, 36] ty #[.map (some q.2.1), .int .u64 x]).run Tryz.prog w = .ok (.tuple #[]) w1) ∧ GrAt w1 p m (setQ Q q.1 fun E => delE E x) ∧ w.grownBy w1 (some q.2.1) := by
  obtain ⟨w1, h1, hm1, hg1, -⟩ := run_del KO64 Tryz.underlying117 (h.inner q hq) x
  rw [innerL_del] at hm1
  exact ⟨w1, h1, h.set hq (fun E => delE E x) hm1 hg1, hg1⟩

set_option maxRecDepth 100000 in
set_option maxHeartbeats 4000000 in
theorem gCut (w : World) (p m : Nat) (Q : Gr) (a b : Int) (h : GrAt w p m Q) :
    Calls Tryz.prog 87 #[.pointer (some ⟨p, 0, none⟩), .int .u64 a, .int .u64 b] w fun e w' =>
      e = .returned (.int .i64 (cutG Q a b).1) ∧ GrAt w' p m (cutG Q a b).2 ∧ Mod (BlocksOf Q) w w' := by
  have cP := gPair w p m Q a b h
  have hc := h.get
  by_cases hp : pairZ Q a b = 0
  · obtain ⟨hab, ha, hb⟩ := pair_ok hp
    obtain ⟨qa, hqa, rfl, hfa, -⟩ := getK_outer_some ha
    obtain ⟨qb, hqb, rfl, hfb, -⟩ := getK_outer_some hb
    have hl := h.look hqa
    have he := h.edge hqa qb.1 true
    simp only [if_true] at he
    rw [hp] at cP
    unfold cutG
    rw [if_neg (by simp [hp]), hfa]
    simp only
    cases hx : edgeO qa.2.2 qb.1 with
    | none =>
      rw [hx] at he
      simp only [Option.getD_none, Option.isSome_none] at he
      have HH := Lib.hid h
      clear h
      go_enter Tryz.func87, Tryz.ntmps87
      go_wp2_with (first | (go_at_call 83; refine cP.mono ?_; rintro e w' ⟨rfl, rfl⟩))
      go_ret
      exact ⟨rfl, HH.out, Mod.refl _ _⟩
    | some nd =>
      rw [hx] at he
      simp only [Option.getD_some, Option.isSome_some] at he
      cases nd with
      | true =>
        have HH := Lib.hid h
        clear h
        go_enter Tryz.func87, Tryz.ntmps87
        go_wp2_with (first | (go_at_call 83; refine cP.mono ?_; rintro e w' ⟨rfl, rfl⟩))
        go_ret
        exact ⟨rfl, HH.out, Mod.refl _ _⟩
      | false =>
        obtain ⟨w1, d1, G1, g1⟩ := h.del hqa qb.1
        have hqb1 := mem_set_ne (f := fun E => delE E qb.1) hqb (Ne.symm hab)
        obtain ⟨w2, d2, G2, g2⟩ := G1.del hqb1 qa.1
        have hc1 := G1.get
        have hl1 := G1.look hqb1
        have GG := Lib.hid G2
        have MM := Lib.hid (show Mod (BlocksOf Q) w w2 from ⟨g2.os.trans g1.os, g2.tape.trans g1.tape, g2.output.trans g1.output, Nat.le_trans g1.size g2.size, fun k hk hn => by
          have := g1.size
          exact (g2.block k (by omega) (fun e => hn ⟨qb, hqb, by cases e; rfl⟩)).trans (g1.block k hk (fun e => hn ⟨qa, hqa, by cases e; rfl⟩))⟩)
        clear h G1 G2 g1 g2 hqb1
        go_enter Tryz.func87, Tryz.ntmps87
        go_wp2_with (first | (go_at_call 83; refine cP.mono ?_; rintro e w' ⟨rfl, rfl⟩))
        go_ret
        exact ⟨rfl, GG.out, MM.out⟩
  · unfold cutG
    rw [if_pos (by simpa using hp)]
    generalize pairZ Q a b = z at hp cP ⊢
    have hz : decide (z = 0) = false := by simpa using hp
    have HH := Lib.hid h
    clear h
    go_enter Tryz.func87, Tryz.ntmps87
    go_wp2_with (first | (go_at_call 83; refine cP.mono ?_; rintro e w' ⟨rfl, rfl⟩))
    go_ret
    exact ⟨rfl, HH.out, Mod.refl _ _⟩

end Go.Proofs.YtpjbkaibgajpcaaGreat

namespace Go.Proofs.YtpjbkaibgajpcaaGreat
open Go.RowKit Go.ChangeMaps
set_option maxRecDepth 20000

theorem gLen (w : World) (p m : Nat) (Q : Gr) (h : GrAt w p m Q) :
    Calls Tryz.prog 40 #[.pointer (some ⟨p, 0, none⟩)] w fun e w' => e = .returned (.int .i64 Q.length) ∧ w' = w := by
  have hc := h.get
  have hl := fun ty => run_len (P := Tryz.prog) Tryz.underlying123 h.outer ty
  have hQ : (outerL Q).length = Q.length := by simp [outerL]
  rw [hQ] at hl
  clear h
  go_enter Tryz.func40, Tryz.ntmps40
  go_wp2_with fail
  go_ret
  exact ⟨rfl, rfl⟩

end Go.Proofs.YtpjbkaibgajpcaaGreat
