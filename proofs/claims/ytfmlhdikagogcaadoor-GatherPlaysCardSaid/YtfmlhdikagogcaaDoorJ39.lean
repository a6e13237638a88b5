/-
  An argument that is the document's note.
  gather's law: GatherPlays: what holds of the gather at each step.
-/
import Derived.Test.YtfmlhdikagogcaaDoorJ09
import Derived.Test.YtfmlhdikagogcaaDoorJ13
import Derived.Test.YtfmlhdikagogcaaDoorJ27
import Derived.Test.YtfmlhdikagogcaaDoorJ37
import Derived.Test.YtfmlhdikagogcaaDoorJ38
namespace Go.Proofs.YtfmlhdikagogcaaDoor
open Go.ChangeShapes Go.WideShapes Go.ChangeAt Go.RowKit Go.Deep
set_option maxRecDepth 20000

theorem Recs.toF {w : World} {v : Value} {l : List (Int × List Int)} (h : Recs w v l) : RecsF w (fun _ => True) v l := by
  obtain ⟨p, cap, hv, h1, h2, h3, h4⟩ := h
  refine ⟨p, cap, hv, h1, h2, h3, fun i hi => ?_⟩
  obtain ⟨b, off, u, hp, c0, c1, hn⟩ := h4 i hi
  exact ⟨b, off, u, hp, trivial, c0, c1, hn, fun _ _ _ => trivial⟩

/-- its numbers fit their types -/
structure Nt.Fits (n : Nt) : Prop where
  kind : 0 ≤ n.kind ∧ n.kind ≤ 255
  txn : 0 ≤ n.txn ∧ n.txn ≤ 18446744073709551615
  batch : 0 ≤ n.batch ∧ n.batch ≤ 18446744073709551615
  stamp : 0 ≤ n.stamp ∧ n.stamp ≤ 18446744073709551615
  after : 0 ≤ n.after ∧ n.after ≤ 18446744073709551615
  mark : 0 ≤ n.mark ∧ n.mark ≤ 18446744073709551615
  query : 0 ≤ n.query ∧ n.query ≤ 18446744073709551615
  id : 0 ≤ n.id ∧ n.id ≤ 18446744073709551615
  k : -9223372036854775808 ≤ n.k ∧ n.k ≤ 9223372036854775807
  ef : -9223372036854775808 ≤ n.ef ∧ n.ef ≤ 9223372036854775807
  code : -9223372036854775808 ≤ n.code ∧ n.code ≤ 9223372036854775807
  who : -9223372036854775808 ≤ n.who ∧ n.who ≤ 9223372036854775807
  ops : ∀ r ∈ n.ops, 0 ≤ r.1 ∧ r.1 ≤ 18446744073709551615
  vec : ∀ x ∈ n.vec, -2147483648 ≤ x ∧ x ≤ 2147483647
  hits : ∀ r ∈ n.hits, r.Fits

section
variable {H : Type} {enc : TypeId × Value → H} {W : World}

theorem list16 {cs : List Value} (h : cs.length = 16) : ∃ a0 a1 a2 a3 a4 a5 a6 a7 a8 a9 a10 a11 a12 a13 a14 a15, cs = [a0, a1, a2, a3, a4, a5, a6, a7, a8, a9, a10, a11, a12, a13, a14, a15] := by
  match cs, h with
  | [a0, a1, a2, a3, a4, a5, a6, a7, a8, a9, a10, a11, a12, a13, a14, a15], _ => exact ⟨_, _, _, _, _, _, _, _, _, _, _, _, _, _, _, _, rfl⟩

theorem note_of_trod {fuel : Nat} {cs : List Value} {x : DataW H × List MemPlace} (hf : DataW.trod enc Tryd.prog W 0 (fun _ => true) true fuel 53 cs = some x) :
    ∃ n vp vo vv vh, cs = (Nt.cells n vp vo vv vh).toList ∧ NoteV W (fun _ => True) n vp vo vv vh ∧ n.Fits := by
  obtain ⟨xs, m, -, -, hl, hlen, hfs⟩ := DataW.trod_struct Tryd.underlying53 hf
  rw [show Tryd.prog.cellsOf 53 = 16 by kernel_rfl] at hl
  obtain ⟨a0, a1, a2, a3, a4, a5, a6, a7, a8, a9, a10, a11, a12, a13, a14, a15, rfl⟩ := list16 hl
  have hx : xs.length = 16 := hlen
  have hin : ∀ i, i < 16 → ∃ y, xs[i]? = some y := fun i hi => ⟨xs[i], List.getElem?_eq_getElem (by omega)⟩
  obtain ⟨y0, hy0⟩ := hin 0 (by omega)
  have t0 := (hfs 0 _ rfl).trans hy0
  obtain ⟨y1, hy1⟩ := hin 1 (by omega)
  have t1 := (hfs 1 _ rfl).trans hy1
  obtain ⟨y2, hy2⟩ := hin 2 (by omega)
  have t2 := (hfs 2 _ rfl).trans hy2
  obtain ⟨y3, hy3⟩ := hin 3 (by omega)
  have t3 := (hfs 3 _ rfl).trans hy3
  obtain ⟨y4, hy4⟩ := hin 4 (by omega)
  have t4 := (hfs 4 _ rfl).trans hy4
  obtain ⟨y5, hy5⟩ := hin 5 (by omega)
  have t5 := (hfs 5 _ rfl).trans hy5
  obtain ⟨y6, hy6⟩ := hin 6 (by omega)
  have t6 := (hfs 6 _ rfl).trans hy6
  obtain ⟨y7, hy7⟩ := hin 7 (by omega)
  have t7 := (hfs 7 _ rfl).trans hy7
  obtain ⟨y8, hy8⟩ := hin 8 (by omega)
  have t8 := (hfs 8 _ rfl).trans hy8
  obtain ⟨y9, hy9⟩ := hin 9 (by omega)
  have t9 := (hfs 9 _ rfl).trans hy9
  obtain ⟨y10, hy10⟩ := hin 10 (by omega)
  have t10 := (hfs 10 _ rfl).trans hy10
  obtain ⟨y11, hy11⟩ := hin 11 (by omega)
  have t11 := (hfs 11 _ rfl).trans hy11
  obtain ⟨y12, hy12⟩ := hin 12 (by omega)
  have t12 := (hfs 12 _ rfl).trans hy12
  obtain ⟨y13, hy13⟩ := hin 13 (by omega)
  have t13 := (hfs 13 _ rfl).trans hy13
  obtain ⟨y14, hy14⟩ := hin 14 (by omega)
  have t14 := (hfs 14 _ rfl).trans hy14
  obtain ⟨y15, hy15⟩ := hin 15 (by omega)
  have t15 := (hfs 15 _ rfl).trans hy15
  obtain ⟨z0, q0, _, w0⟩ := DataW.trod_int Tryd.underlying5 (by simpa [show Tryd.prog.cellsOf 5 = 1 by kernel_rfl] using t0)
  obtain ⟨z1, q1, _, w1⟩ := DataW.trod_int Tryd.underlying29 (by simpa [show Tryd.prog.cellsOf 29 = 1 by kernel_rfl] using t1)
  obtain ⟨z2, q2, _, w2⟩ := DataW.trod_int Tryd.underlying29 (by simpa [show Tryd.prog.cellsOf 29 = 1 by kernel_rfl] using t2)
  obtain ⟨z3, q3, _, w3⟩ := DataW.trod_int Tryd.underlying29 (by simpa [show Tryd.prog.cellsOf 29 = 1 by kernel_rfl] using t3)
  obtain ⟨z4, q4, _, w4⟩ := DataW.trod_int Tryd.underlying29 (by simpa [show Tryd.prog.cellsOf 29 = 1 by kernel_rfl] using t4)
  obtain ⟨z5, q5, _, w5⟩ := DataW.trod_int Tryd.underlying29 (by simpa [show Tryd.prog.cellsOf 29 = 1 by kernel_rfl] using t5)
  obtain ⟨z6, q6, _, w6⟩ := DataW.trod_int Tryd.underlying29 (by simpa [show Tryd.prog.cellsOf 29 = 1 by kernel_rfl] using t6)
  obtain ⟨z7, q7, _, w7⟩ := DataW.trod_int Tryd.underlying29 (by simpa [show Tryd.prog.cellsOf 29 = 1 by kernel_rfl] using t7)
  obtain ⟨z8, q8, _, w8⟩ := DataW.trod_int Tryd.underlying3 (by simpa [show Tryd.prog.cellsOf 3 = 1 by kernel_rfl] using t8)
  obtain ⟨z9, q9, _, w9⟩ := DataW.trod_int Tryd.underlying3 (by simpa [show Tryd.prog.cellsOf 3 = 1 by kernel_rfl] using t9)
  obtain ⟨z10, q10, _, w10⟩ := DataW.trod_int Tryd.underlying26 (by simpa [show Tryd.prog.cellsOf 26 = 1 by kernel_rfl] using t10)
  obtain ⟨z11, q11, _, w11⟩ := DataW.trod_int Tryd.underlying3 (by simpa [show Tryd.prog.cellsOf 3 = 1 by kernel_rfl] using t11)
  obtain ⟨vp, ps, q12, hp, -⟩ := nums_of_trod Tryd.underlying33 Tryd.underlying3 (by kernel_rfl) (by simpa [show Tryd.prog.cellsOf 33 = 1 by kernel_rfl] using t12)
  obtain ⟨vo, os, q13, ho, wo⟩ := recs_of_trod Tryd.underlying34 Tryd.underlying105 (by kernel_rfl) ⟨rfl, rfl⟩ Tryd.underlying29 (by kernel_rfl) ⟨rfl, rfl⟩ Tryd.underlying32 (by kernel_rfl) Tryd.underlying21 (by kernel_rfl) (by simpa [show Tryd.prog.cellsOf 34 = 1 by kernel_rfl] using t13)
  obtain ⟨vv, vs, q14, hv, wv⟩ := nums_of_trod Tryd.underlying32 Tryd.underlying21 (by kernel_rfl) (by simpa [show Tryd.prog.cellsOf 32 = 1 by kernel_rfl] using t14)
  obtain ⟨vh, hs, q15, hh, wh⟩ := hits_of_trod Tryd.underlying35 Tryd.underlying40 (by kernel_rfl) ⟨rfl, rfl⟩ Tryd.underlying29 (by kernel_rfl) ⟨rfl, rfl⟩ Tryd.underlying29 (by kernel_rfl) ⟨rfl, rfl⟩ Tryd.underlying32 (by kernel_rfl) Tryd.underlying21 (by kernel_rfl) (by simpa [show Tryd.prog.cellsOf 35 = 1 by kernel_rfl] using t15)
  simp only [List.cons.injEq, and_true] at q0 q1 q2 q3 q4 q5 q6 q7 q8 q9 q10 q11 q12 q13 q14 q15
  subst q0 q1 q2 q3 q4 q5 q6 q7 q8 q9 q10 q11 q12 q13 q14 q15
  simp [Lit.wf, IntKind.min, IntKind.max, IntKind.signed, IntKind.bits] at w0 w1 w2 w3 w4 w5 w6 w7 w8 w9 w10 w11 wo wv
  exact ⟨⟨z0, z1, z2, z3, z4, z5, z6, z7, z8, z9, z10, z11, ps, os, vs, hs⟩, a12, a13, a14, a15, rfl, ⟨hp, ho.toF, hv, hh⟩, ⟨w0, w1, w2, w3, w4, w5, w6, w7, w8, w9, w10, w11, fun r hr => (wo r.1 r.2 hr).1, wv, wh⟩⟩

/-- an argument that is a note -/
theorem open_note {base : Nat} {v : Value} {d : DataW H} {ps : List MemPlace}
    (hok : Value.okWide Tryd.prog W .any base 53 v) (h : DataW.Trod enc Tryd.prog W 0 (fun _ => true) true 53 v d ps) :
    ∃ n vp vo vv vh, v = .agg (Nt.cells n vp vo vv vh) ∧ NoteV W (fun _ => True) n vp vo vv vh ∧ n.Fits := by
  obtain ⟨cs, rfl, -⟩ := okWide_struct Tryd.underlying53 hok
  obtain ⟨fuel, hf⟩ := h
  obtain ⟨n, vp, vo, vv, vh, hc, hn, hfit⟩ := note_of_trod hf
  exact ⟨n, vp, vo, vv, vh, by rw [show cs = _ from Array.ext' (by simpa [Value.cells] using hc)], hn, hfit⟩

end

end Go.Proofs.YtfmlhdikagogcaaDoor

namespace Go.Proofs.YtfmlhdikagogcaaDoor
open Go.RowKit
set_option maxRecDepth 20000

theorem oddB_false {frm : Int} {n : Nt} {k : Int} (h : oddB frm n k = false) : n.kind = k ∧ rightN n = true := by
  unfold oddB at h
  simp only [Bool.or_eq_false_iff] at h
  exact ⟨by simpa using h.1.1.1, by simpa using h.1.1.2⟩

/-- a question has no parts of its own, nor ops -/
def BareN (n : Nt) : Prop := n.parts = [] ∧ n.ops = []

/-- sound questions -/
def DOk (g : Gz) : Prop := ∀ q ∈ g.l, QOk q ∧ BareN q.note

theorem askQ_dok {g : Gz} (hg : GOk g) {frm stamp mark : Int} {n : Nt} (ho : oddB frm n 8 = false) : QOk (askQ g frm n stamp mark) ∧ BareN (askQ g frm n stamp mark).note := by
  obtain ⟨hk, hr⟩ := oddB_false ho
  obtain ⟨⟨a1, a2, -⟩, -⟩ := right_query hr hk
  refine ⟨⟨?_, by simp [askQ], fun x hx => absurd hx (by simp [askQ])⟩, ⟨a1, a2⟩⟩
  unfold askQ
  simp only
  split
  · simp
  · show List.Pairwise (· ≠ ·) _
    rw [List.pairwise_map]
    refine List.Pairwise.imp ?_ List.pairwise_lt_range
    intro a b h e
    omega

theorem askZ_dok {g : Gz} (hg : GOk g) (hd : DOk g) (frm : Int) (n : Nt) (stamp mark : Int) : DOk (askZ g frm n stamp mark).2 := by
  unfold askZ
  cases ho : oddB frm n 8
  · rw [if_neg (by simp)]
    cases hf : g.l.find? (isQ frm n) with
    | some q => exact hd
    | none =>
      simp only
      split
      · exact hd
      · split
        · exact hd
        · intro q hq
          rcases List.mem_append.1 hq with hq | hq
          · exact hd q hq
          · rw [List.mem_singleton.1 hq]; exact askQ_dok hg ho
  · rw [if_pos rfl]; exact hd

theorem hearZ_dok {g : Gz} (hd : DOk g) (frm : Int) (n : Nt) : DOk (hearZ g frm n).2 := by
  unfold hearZ
  cases ho : oddB frm n 10
  · rw [if_neg (by simp)]
    cases hf : g.l.findIdx? (hearP n) with
    | none => exact hd
    | some k =>
      simp only
      cases hk : g.l[k]? with
      | none => exact hd
      | some q =>
        simp only
        have hq : q ∈ g.l := List.mem_of_getElem? hk
        have hdrop : DOk (dropZ g k) := fun x hx => hd x (List.mem_of_mem_eraseIdx hx)
        unfold hearAt
        cases hc : (hasTold q.told frm || !(q.parts.any fun y => decide (frm = y)))
        · rw [if_neg (by simp)]
          rw [Bool.or_eq_false_iff, Bool.not_eq_false'] at hc
          obtain ⟨y, hy, he⟩ := List.any_eq_true.1 hc.2
          have hm : frm ∈ q.parts := by rw [of_decide_eq_true he]; exact hy
          split
          · exact hdrop
          · split
            · intro x hx
              rcases List.mem_or_eq_of_mem_set hx with hx | rfl
              · exact hd x hx
              · exact ⟨(hd q hq).1.told hc.1 hm, (hd q hq).2⟩
            · exact hdrop
        · rw [if_pos rfl]; exact hd
  · rw [if_pos rfl]; exact hd

/-- mail without parts or ops, not too much -/
def BareL (l : List (Int × Nt)) : Prop := (∀ m ∈ l, BareN m.2) ∧ l.length ≤ 100

theorem BareL.nil : BareL [] := ⟨fun m h => absurd h (by simp), by simp⟩
theorem BareL.res (a s q c : Int) (h : List Hz) : BareL [(a, resN s q c h)] := ⟨fun m hm => by rw [List.mem_singleton.1 hm]; exact ⟨rfl, rfl⟩, by simp⟩

theorem looks_bare {q : Qs} (hb : BareN q.note) (hl : q.parts.length ≤ 4) : (∀ m ∈ looksZ q, BareN m.2) ∧ (looksZ q).length ≤ 4 := by
  refine ⟨fun m hm => ?_, ?_⟩
  · obtain ⟨p, -, rfl⟩ := List.mem_map.1 hm
    exact hb
  · unfold looksZ
    rw [List.length_map]
    exact Nat.le_trans (List.length_filter_le _ _) hl

theorem askZ_bare {g : Gz} (hg : GOk g) (hd : DOk g) (frm : Int) (n : Nt) (stamp mark : Int) : BareL (askZ g frm n stamp mark).1 := by
  unfold askZ
  cases ho : oddB frm n 8
  · rw [if_neg (by simp)]
    cases hf : g.l.find? (isQ frm n) with
    | some q =>
      have hq := List.mem_of_find?_eq_some hf
      obtain ⟨a, b⟩ := looks_bare (hd q hq).2 (hg.each q hq).1
      exact ⟨a, by simp only; omega⟩
    | none =>
      simp only
      split
      · exact BareL.res _ _ _ _ _
      · split
        · exact BareL.res _ _ _ _ _
        · obtain ⟨a, b⟩ := looks_bare (askQ_dok hg ho (stamp := stamp) (mark := mark)).2 (askQ_ok hg ho).1
          exact ⟨a, by simp only; omega⟩
  · rw [if_pos rfl]; exact BareL.nil

theorem hearZ_bare (g : Gz) (frm : Int) (n : Nt) : BareL (hearZ g frm n).1 := by
  unfold hearZ
  split
  · exact BareL.nil
  · split
    · exact BareL.nil
    · split
      · exact BareL.nil
      · unfold hearAt
        split
        · exact BareL.nil
        · split
          · exact BareL.res _ _ _ _ _
          · split
            · exact BareL.nil
            · exact BareL.res _ _ _ _ _

theorem wake_bare {g : Gz} (hg : GOk g) (hd : DOk g) : BareL (wakeL g) := by
  refine ⟨fun m hm => ?_, ?_⟩
  · obtain ⟨q, hq, hm⟩ := List.mem_flatMap.1 hm
    exact (looks_bare (hd q hq).2 (hg.each q hq).1).1 m hm
  · have h : ∀ l : List Qs, (∀ q ∈ l, q ∈ g.l) → (l.flatMap looksZ).length ≤ l.length * 4 := by
      intro l hl
      induction l with
      | nil => simp
      | cons q l ih =>
        have h1 := (looks_bare (hd q (hl q (by simp))).2 (hg.each q (hl q (by simp))).1).2
        have h2 := ih (fun x hx => hl x (by simp [hx]))
        simp only [List.flatMap_cons, List.length_append, List.length_cons]
        omega
    have := h g.l (fun q hq => hq)
    have := hg.most
    unfold wakeL
    omega

theorem quit_bare {g : Gz} (hg : GOk g) : BareL (quitL g) := by
  refine ⟨fun m hm => ?_, by unfold quitL; rw [List.length_map]; have := hg.most; omega⟩
  obtain ⟨q, -, rfl⟩ := List.mem_map.1 hm
  exact ⟨rfl, rfl⟩

theorem few_fits {n : Nt} (h : n.Fits) : (fewN n).Fits := by
  refine ⟨h.kind, h.txn, h.batch, h.stamp, h.after, h.mark, h.query, h.id, h.k, h.ef, h.code, h.who, fun r hr => ?_, fun x hx => ?_, fun r hr => ?_⟩
  · obtain ⟨y, hy, rfl⟩ := List.mem_map.1 (show r ∈ (n.ops.take 18).map _ from hr)
    exact h.ops y (List.mem_of_mem_take hy)
  · exact h.vec x (List.mem_of_mem_take hx)
  · obtain ⟨y, hy, rfl⟩ := List.mem_map.1 (show r ∈ (n.hits.take 18).map _ from hr)
    obtain ⟨a1, a2, a3, a4, a5⟩ := h.hits y (List.mem_of_mem_take hy)
    exact ⟨a1, a2, a3, a4, fun x hx => a5 x (List.mem_of_mem_take hx)⟩

theorem few_len (n : Nt) : (fewN n).parts.length ≤ 6 ∧ (fewN n).ops.length ≤ 18 ∧ (fewN n).vec.length ≤ 10 ∧ (fewN n).hits.length ≤ 18 := by
  refine ⟨?_, ?_, ?_, ?_⟩
  · show (n.parts.take 6).length ≤ 6; rw [List.length_take]; omega
  · show (fewZ 18 n.ops).length ≤ 18; rw [fewZ_length]; omega
  · show (n.vec.take 10).length ≤ 10; rw [List.length_take]; omega
  · show (hitsZ 18 n.hits).length ≤ 18; rw [hitsZ_length]; omega

theorem few_idem (n : Nt) : fewN (fewN n) = fewN n := by
  unfold fewN
  simp only [List.take_take, Nat.min_self]
  congr 1
  · unfold fewZ
    simp only [← List.map_take, List.take_take, Nat.min_self, List.map_map]
    congr 1
    funext r
    simp [List.take_take]
  · unfold hitsZ
    simp only [← List.map_take, List.take_take, Nat.min_self, List.map_map]
    congr 1
    funext r
    simp [List.take_take]

/-- nothing of a note is read from a gather's own block -/
theorem Nums.notIn {w : World} {c : Nat} {cs : Array Value} {t : TypeId} {fr : Nat × Nat} (hg : w.heap[c]? = some (.cells cs t fr)) {k : IntKind} (hno : ∀ (j : Nat) (x : Int), cs[j]? ≠ some (.int k x)) {v : Value} {xs : List Int} (h : Nums w k v xs) {G : Nat → Prop} (hl : LiesIn G v xs.length) : LiesIn (fun j => G j ∧ j ≠ c) v xs.length := by
  intro hn b hb
  refine ⟨hl hn b hb, ?_⟩
  rintro rfl
  obtain ⟨p, cap, rfl, -, -, -, h4⟩ := h.slice
  obtain ⟨b', off, rfl, hc⟩ := h4 0 hn
  have e : b' = b := by simpa [Value.ownBlock] using hb
  subst e
  rw [cells_get hg] at hc
  exact hno _ _ hc

theorem HitsF.notIn {w : World} {c : Nat} {a b l : Int} {v : Value} {t : TypeId} {fr : Nat × Nat} (hv : ∃ p n k, v = .slice p n k) (hg : w.heap[c]? = some (.cells #[.int .i64 a, .int .i64 b, .int .u64 l, v] t fr)) {G : Nat → Prop} {u : Value} {hs : List Hz} (h : HitsF w G u hs) : HitsF w (fun j => G j ∧ j ≠ c) u hs := by
  obtain ⟨vp, vn, vk, rfl⟩ := hv
  obtain ⟨p, cap, hvv, h1, h2, h3, h4⟩ := h
  refine ⟨p, cap, hvv, h1, h2, h3, fun i hi => ?_⟩
  obtain ⟨b', off, x, hp, hG, c0, c1, c2, hn, hl⟩ := h4 i hi
  refine ⟨b', off, x, hp, ⟨hG, ?_⟩, c0, c1, c2, hn, Nums.notIn hg ?_ hn hl⟩
  · rintro rfl
    rw [cells_get hg] at c0 c1
    generalize off + i * 3 = o at c0 c1
    match o with
    | 0 => cases c0
    | 1 => cases c0
    | 2 => cases c1
    | 3 => cases c0
    | o + 4 => simp at c0
  · intro j x hx
    match j with
    | 0 => cases hx
    | 1 => cases hx
    | 2 => cases hx
    | 3 => cases hx
    | j + 4 => simp at hx

theorem MailF.notIn {w : World} {c : Nat} {a b l : Int} {v : Value} {t : TypeId} {fr : Nat × Nat} (hv : ∃ p n k, v = .slice p n k) (hg : w.heap[c]? = some (.cells #[.int .i64 a, .int .i64 b, .int .u64 l, v] t fr)) {G : Nat → Prop} {rs : List Mv} (h : MailF w G rs) (hb : ∀ r ∈ rs, BareN r.note) : MailF w (fun j => G j ∧ j ≠ c) rs := by
  intro r hr
  obtain ⟨e1, e2⟩ := hb r hr
  obtain ⟨hN, hp, hvv⟩ := h r hr
  have ho := hN.ops
  rw [e2] at ho
  obtain ⟨p, cap, ev, k1, k2, k3, -⟩ := ho
  refine ⟨⟨hN.parts, ?_, hN.vec, hN.hits.notIn hv hg⟩, fun hn => absurd hn (by rw [e1]; simp), Nums.notIn hg ?_ hN.vec hvv⟩
  · rw [e2]
    exact ⟨p, cap, ev, k1, k2, k3, fun i hi => absurd hi (by simp)⟩
  · obtain ⟨vp, vn, vk, rfl⟩ := hv
    intro j x hx
    match j with
    | 0 => cases hx
    | 1 => cases hx
    | 2 => cases hx
    | 3 => cases hx
    | j + 4 => simp at hx

end Go.Proofs.YtfmlhdikagogcaaDoor
