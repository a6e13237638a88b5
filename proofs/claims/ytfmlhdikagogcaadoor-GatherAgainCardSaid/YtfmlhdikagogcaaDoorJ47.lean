/-
  gather: an ID is asked of its own shard alone: what the calls answer.
  An argument that is a script of questions and answers.
  gather: GatherOnce: the gather and the map beside it.
  gather: GatherAgain: the gather beside blocks that it leaves alone; the few'd note fits.
-/
import Derived.Test.YtfmlhdikagogcaaDoorJ43
import Derived.Test.YtfmlhdikagogcaaDoorJ46
import Derived.Test.YtfmlhdikagogcaaDoorJ09
import Derived.Test.YtfmlhdikagogcaaDoorJ27
import Derived.Test.YtfmlhdikagogcaaDoorJ18
import Derived.ArgAppend
import Derived.Test.YtfmlhdikagogcaaDoorJ11
import Derived.Test.YtfmlhdikagogcaaDoorJ45
import Derived.Test.YtfmlhdikagogcaaDoorJ21
namespace Go.Proofs.YtfmlhdikagogcaaDoor
open Go.RowKit
set_option maxRecDepth 20000

def nG (id : Int) : Nt := ⟨8, 0, 0, 0, 0, 0, 3, id, 0, 0, 0, 0, [], [], [], []⟩
def nGL (id : Int) : Nt := ⟨9, 0, 0, 7, 0, 2, 1, id, 0, 0, 0, 0, [], [], [], []⟩
def nGS (code : Int) (hits : List Hz) : Nt := ⟨10, 0, 0, 0, 0, 0, 1, 0, 0, 0, code, 0, [], [], [], hits⟩
def gG (n id : Int) : Gz := ⟨n, 2, 1, [⟨nGL id, 5, 3, [1 + homeZ id n], []⟩]⟩

theorem right_get (id : Int) (h : 0 ≤ id ∧ id ≤ 1099511627776) : rightN (nG id) = true := by
  have h1 : fitsB (nG id) = true := by
    unfold fitsB
    have : (nG id).flags = [false, false, false, false, false, true, decide (0 < id), false, false, false, false, false, false, false, false] := rfl
    rw [this]
    rw [show (nG id).kind = 8 from rfl]
    cases decide (0 < id) <;> decide +kernel
  have h2 : boundedB (nG id) = true := by
    unfold boundedB numsB lensB partsB bareB
    simp [nG, h.2]
  unfold rightN
  rw [h1, h2]
  rfl

theorem right_told (code : Int) (hits : List Hz) (hc : 0 ≤ code ∧ code ≤ 13) (hl : hits.length ≤ 16) (hh : ∀ h ∈ hits, badHit h = false) : rightN (nGS code hits) = true := by
  have h1 : fitsB (nGS code hits) = true := by
    unfold fitsB
    have : (nGS code hits).flags = [false, false, false, false, false, true, false, false, false, code != 0, false, false, false, false, decide (0 < hits.length)] := rfl
    rw [this]
    rw [show (nGS code hits).kind = 10 from rfl]
    cases (code != 0) <;> cases decide (0 < hits.length) <;> decide +kernel
  have h2 : boundedB (nGS code hits) = true := by
    have h3 : hits.any badHit = false := by rw [List.any_eq_false]; intro x hx; rw [hh x hx]; simp
    unfold boundedB
    rw [show (nGS code hits).hits = hits from rfl, h3]
    unfold numsB lensB partsB bareB
    simp [nGS, hc.1, hc.2, hl]
  unfold rightN
  rw [h1, h2]
  rfl

theorem get_ask (n id : Int) (h : 0 ≤ id ∧ id ≤ 1099511627776) : askZ ⟨n, 2, 0, []⟩ 5 (nG id) 7 2 = ([(1 + homeZ id n, nGL id)], gG n id) := by
  have ho : oddB 5 (nG id) 8 = false := by unfold oddB; rw [right_get id h]; rfl
  unfold askZ
  rw [ho]
  rfl

theorem get_hear (n id code : Int) (hits : List Hz) (hn : 1 ≤ n ∧ n ≤ 4) (hc : 0 ≤ code ∧ code ≤ 13) (hl : hits.length ≤ 16) (hh : ∀ h ∈ hits, badHit h = false) (hz : code ≠ 0 → hits = []) : hearZ (gG n id) (1 + homeZ id n) (nGS code hits) = ([(5, resN 7 3 code hits)], ⟨n, 2, 1, []⟩) := by
  have hr := home_range id n hn.1
  have ho : oddB (1 + homeZ id n) (nGS code hits) 10 = false := by
    unfold oddB
    rw [right_told code hits hc hl hh, decide_eq_false (show ¬ 1 + homeZ id n < 0 by omega), decide_eq_false (show ¬ 16 ≤ 1 + homeZ id n by omega)]
    rfl
  have h0 : hearZ (gG n id) (1 + homeZ id n) (nGS code hits) = hearAt (gG n id) 0 ⟨nGL id, 5, 3, [1 + homeZ id n], []⟩ (1 + homeZ id n) (nGS code hits) := by
    unfold hearZ
    rw [ho]
    rfl
  rw [h0]
  unfold hearAt
  have h1 : (hasTold ([] : List (Int × List Hz)) (1 + homeZ id n) || !([1 + homeZ id n].any fun y => decide (1 + homeZ id n = y))) = false := by simp [hasTold]
  simp only [h1]
  by_cases h2 : code = 0
  · subst h2
    simp [nGS, nGL, dropZ, gG, answerZ, toldOf, resN]
  · rw [hz h2]
    simp [nGS, nGL, dropZ, gG, h2]

theorem ok_get (n id : Int) (hn : 1 ≤ n ∧ n ≤ 4) (h : 0 ≤ id ∧ id ≤ 1099511627776) : GOk (gG n id) := by
  have := askZ_ok (ok_new n 2 0 hn) 5 (nG id) 7 2
  rwa [get_ask n id h] at this

theorem askT (B c : Nat) (F R : Nat → Prop) (g : Gz) (n : Nt) (vp vo vv vh : Value) (E : Nat → Prop) (frm stamp mark : Int) (w : World) (hT : Tab w) (hG : GAt w B c F R g) (hB : B ≤ w.heap.size) (hok : GOk g) (hv : NoteV w E n vp vo vv vh) (hkd : 0 ≤ n.kind ∧ n.kind ≤ 255) (hlen : n.parts.length ≤ 1000000 ∧ n.ops.length ≤ 1000000 ∧ n.vec.length ≤ 1000000 ∧ n.hits.length ≤ 1000000) {l : List (Int × Nt)} {g' : Gz} (hz : askZ g frm n stamp mark = (l, g')) :
    Calls Tryd.prog 11 #[.pointer (some ⟨c, 0, none⟩), .int .i64 frm, .agg (n.cells vp vo vv vh), .int .u64 stamp, .int .u64 mark] w (GTold w B c F R (fun _ => False) l g') := by
  have := ask B c F R E g n vp vo vv vh frm stamp mark w hT hG hB hok hv hkd hlen
  rw [hz] at this
  exact this

theorem hearT (B c : Nat) (F R E : Nat → Prop) (g : Gz) (n : Nt) (vp vo vv vh : Value) (frm : Int) (w : World) (hT : Tab w) (hG : GAt w B c F R g) (hB : B ≤ w.heap.size) (hok : GOk g) (hv : NoteV w E n vp vo vv vh) (hkd : 0 ≤ n.kind ∧ n.kind ≤ 255) (hlen : n.parts.length ≤ 1000000 ∧ n.ops.length ≤ 1000000 ∧ n.vec.length ≤ 1000000 ∧ n.hits.length ≤ 1000000) (hE : ∀ k, E k → k < w.heap.size ∧ ¬ F k) {l : List (Int × Nt)} {g' : Gz} (hz : hearZ g frm n = (l, g')) :
    Calls Tryd.prog 13 #[.pointer (some ⟨c, 0, none⟩), .int .i64 frm, .agg (n.cells vp vo vv vh)] w (GTold w B c F R E l g') := by
  have := hear B c F R E g n vp vo vv vh frm w hT hG hB hok hv hkd hlen hE
  rw [hz] at this
  exact this

theorem rowI32 : RowTy Tryd.prog 32 21 1 4 (.int .i32 0) := ⟨Tryd.underlying32, infoI32, rfl, by decide⟩

/-- two more behind a slice that has no room -/
theorem run_two {w : World} {xs : List Int} {vp : Option Addr} {vc mm : Nat} (h : Nums w .i32 (.slice vp xs.length vc) xs) (hm : mm ≤ xs.length) (hs : mm ≤ 2) :
    ∃ g c w', (∀ ty, (Builtin.append_ #[32, 32] ty #[.slice vp mm mm, .slice (some ⟨w.heap.size, 0, none⟩) 2 2]).run Tryd.prog (w.alloc (.cells #[.int .i32 0, .int .i32 0] 21)) = .ok (.slice (some ⟨g, 0, none⟩) (mm + 2) c) w') ∧
      w'.ownsRow w.heap.size 21 1 (.slice (some ⟨g, 0, none⟩) (mm + 2) c) (mm + 2) ((xs.take mm ++ [0, 0]).map (Value.int .i32)) ∧ Below w.heap.size w w' := by
  have hsrc := own_fresh w 21 1 2 #[.int .i32 0, .int .i32 0] rfl (by decide)
  have hb := (Below.refl w.heap.size w).alloc (Nat.le_refl _) (.cells #[.int .i32 0, .int .i32 0] 21)
  cases vp with
  | none =>
    obtain ⟨p', c', hv, h1, -, h3, -⟩ := h.slice
    obtain ⟨rfl, -, rfl⟩ := Value.slice.inj hv
    have hx : xs.length = 0 := by have := h3 rfl; omega
    obtain rfl : mm = 0 := by omega
    obtain ⟨q, k, c, w', hr, ho, hg, -⟩ := run_app rowI32 (World.ownsRow_nil (w.alloc (.cells #[.int .i32 0, .int .i32 0] 21)) w.heap.size 21 1) (by simp) (SrcAt.of_own hsrc) (by simp [Value.oneCell']) (by simp [maxLen]) (by decide)
    obtain ⟨g, cap, hv, -, -⟩ := ho.form (by omega)
    obtain ⟨rfl, rfl, rfl⟩ := Value.slice.inj hv
    exact ⟨g, _, w', hr, by simpa using ho, hb.grown hg (by simp) (fun b e => by cases e)⟩
  | some a =>
    obtain ⟨i0, hi, hz0, hz1, hz2⟩ := info_parts infoI32
    have hcell : ∀ j u, ((xs.take mm).map (Value.int .i32))[j]? = some u → (w.alloc (.cells #[.int .i32 0, .int .i32 0] 21)).cell? (a.add j) = some u := by
      intro j u hj
      rw [List.getElem?_map, Option.map_eq_some_iff] at hj
      obtain ⟨x, hx, rfl⟩ := hj
      have hj1 : j < xs.length := by
        have := (List.getElem?_eq_some_iff.1 hx).1
        simp at this
        omega
      obtain ⟨b, off, e, hc⟩ := h.elem hj1
      cases e
      have e2 : x = xs[j] := by
        have := (List.getElem?_eq_some_iff.1 hx).2
        rw [← this, List.getElem_take]
      rw [e2, Addr.add_lit]
      exact below_cells hb hc
    obtain ⟨v', w', hr, ho, hg⟩ := run_append_arg_grows (P := Tryd.prog) (w.alloc (.cells #[.int .i32 0, .int .i32 0] 21)) 32 0 21 i0 (.int .i32 0) 1 4 Tryd.underlying32 hi hz0 hz1 hz2 rfl (by decide) a mm mm ((xs.take mm).map (Value.int .i32)) (by simp; omega) hcell ⟨w.heap.size, 0, none⟩ 2 2 [.int .i32 0, .int .i32 0] rfl
      (World.news_of_block (cs := #[.int .i32 0, .int .i32 0]) (t := 21) (fr := (0, 0)) (heap_alloc_new w _)) (by omega) (by simp [maxLen]; omega) (by omega)
    obtain ⟨q, k, c, rfl⟩ := own_form ho
    obtain ⟨g, cap, hv, -, -⟩ := ho.form (by omega)
    obtain ⟨rfl, rfl, rfl⟩ := Value.slice.inj hv
    exact ⟨g, _, w', fun ty => hr, own_mono (by simpa using ho) (by simp), hb.grown hg (by simp) (fun b e => by cases e)⟩

end Go.Proofs.YtfmlhdikagogcaaDoor

namespace Go.Proofs.YtfmlhdikagogcaaDoor
open Go.ChangeShapes Go.WideShapes Go.ChangeAt Go.RowKit Go.Deep
set_option maxRecDepth 20000

/-- one call of a script -/
structure Og where
  act : Int
  frm : Int
  note : Nt
  stamp : Int
  mark : Int

def Og.cells (o : Og) (vp vo vv vh : Value) : List Value := .int .u8 o.act :: .int .i64 o.frm :: ((o.note.cells vp vo vv vh).toList ++ [.int .u64 o.stamp, .int .u64 o.mark])

structure Og.Fits (o : Og) : Prop where
  act : 0 ≤ o.act ∧ o.act ≤ 255
  frm : -9223372036854775808 ≤ o.frm ∧ o.frm ≤ 9223372036854775807
  note : o.note.Fits
  stamp : 0 ≤ o.stamp ∧ o.stamp ≤ 18446744073709551615
  mark : 0 ≤ o.mark ∧ o.mark ≤ 18446744073709551615

/-- a slice of calls reads so -/
def ScriptG (w : World) (v : Value) (l : List Og) : Prop :=
  ∃ p cap, v = .slice p l.length cap ∧ l.length ≤ cap ∧ cap ≤ 9223372036854775807 ∧ (p = none → cap = 0) ∧
    ∀ i (hi : i < l.length), ∃ b off vp vo vv vh, p = some ⟨b, off, none⟩ ∧ (∀ j u, (l[i].cells vp vo vv vh)[j]? = some u → w.cell? ⟨b, off + i * 20 + j, none⟩ = some u) ∧ NoteV w (fun _ => True) l[i].note vp vo vv vh

theorem NoteV.downto {w w' : World} {n : Nt} {vp vo vv vh : Value} {F : Nat → Prop} (h : NoteV w F n vp vo vv vh) (hb : Below w.heap.size w w') : NoteV w' F n vp vo vv vh := h.below hb

theorem ScriptG.below {w w' : World} {v : Value} {l : List Og} (h : ScriptG w v l) (hb : Below w.heap.size w w') : ScriptG w' v l := by
  obtain ⟨p, cap, hv, h1, h2, h3, h4⟩ := h
  refine ⟨p, cap, hv, h1, h2, h3, fun i hi => ?_⟩
  obtain ⟨b, off, vp, vo, vv, vh, hp, hc, hn⟩ := h4 i hi
  exact ⟨b, off, vp, vo, vv, vh, hp, fun j u hj => below_cells hb (hc j u hj), hn.below hb⟩

theorem ScriptG.elem {w : World} {p : Option Addr} {n cap : Nat} {l : List Og} (h : ScriptG w (.slice p n cap) l) {i : Nat} (hi : i < l.length) :
    ∃ b off vp vo vv vh, p = some ⟨b, off, none⟩ ∧ (∀ j u, (l[i].cells vp vo vv vh)[j]? = some u → w.cell? ⟨b, off + i * 20 + j, none⟩ = some u) ∧ NoteV w (fun _ => True) l[i].note vp vo vv vh := by
  obtain ⟨p', cap', hv, _, _, _, h⟩ := h
  simp only [Value.slice.injEq] at hv
  obtain ⟨rfl, _, _⟩ := hv
  exact h i hi

section
variable {H : Type} {enc : TypeId × Value → H} {W : World}

theorem cells_all {a : Addr} {n : Nat} {cs : List Value} (h : W.cells? 0 a n = some cs) : cs.length = n ∧ ∀ j, j < n → W.cell? (a.add j) = cs[j]? := by
  unfold World.cells? at h
  simp only [Nat.zero_le, if_true] at h
  exact ⟨by simpa using mapM_some_length h, fun j hj => mapM_some_get h j j (by simp [hj])⟩

theorem list20 {cs : List Value} (h : cs.length = 20) : ∃ a0 a1 c s m, cs = a0 :: a1 :: (c ++ [s, m]) ∧ c.length = 16 := by
  match cs, h with
  | [a0, a1, b0, b1, b2, b3, b4, b5, b6, b7, b8, b9, b10, b11, b12, b13, b14, b15, s, m], _ => exact ⟨a0, a1, [b0, b1, b2, b3, b4, b5, b6, b7, b8, b9, b10, b11, b12, b13, b14, b15], s, m, rfl, rfl⟩

theorem op_of_trod {fuel : Nat} {cs : List Value} {x : DataW H × List MemPlace} (hf : DataW.trod enc Tryd.prog W 0 (fun _ => true) true fuel 61 cs = some x) :
    ∃ o vp vo vv vh, cs = Og.cells o vp vo vv vh ∧ NoteV W (fun _ => True) o.note vp vo vv vh ∧ o.Fits := by
  obtain ⟨xs, m, -, -, hl, hlen, hfs⟩ := DataW.trod_struct Tryd.underlying61 hf
  rw [show Tryd.prog.cellsOf 61 = 20 by kernel_rfl] at hl
  obtain ⟨a0, a1, c, s, mk, rfl, hc⟩ := list20 hl
  have hx : xs.length = 5 := hlen
  have hin : ∀ i, i < 5 → ∃ y, xs[i]? = some y := fun i hi => ⟨xs[i], List.getElem?_eq_getElem (by omega)⟩
  obtain ⟨y0, hy0⟩ := hin 0 (by omega)
  have t0 := (hfs 0 _ rfl).trans hy0
  obtain ⟨y1, hy1⟩ := hin 1 (by omega)
  have t1 := (hfs 1 _ rfl).trans hy1
  obtain ⟨y2, hy2⟩ := hin 2 (by omega)
  have t2 := (hfs 2 _ rfl).trans hy2
  obtain ⟨y3, hy3⟩ := hin 3 (by omega)
  have t3 := (hfs 3 _ rfl).trans hy3
  obtain ⟨y4, hy4⟩ := hin 4 (by omega)
  have t4 := (hfs 4 _ rfl).trans hy4
  obtain ⟨z0, q0, _, w0⟩ := DataW.trod_int Tryd.underlying5 (by simpa [show Tryd.prog.cellsOf 5 = 1 by kernel_rfl] using t0)
  obtain ⟨z1, q1, _, w1⟩ := DataW.trod_int Tryd.underlying3 (by simpa [show Tryd.prog.cellsOf 3 = 1 by kernel_rfl] using t1)
  have e2 : ((a0 :: a1 :: (c ++ [s, mk])).drop 2).take 16 = c := by simp [hc]
  have e3 : ((a0 :: a1 :: (c ++ [s, mk])).drop 18).take 1 = [s] := by simp [List.drop_append, hc]
  have h17 : c.drop 17 = [] := List.drop_of_length_le (by omega)
  have e4 : ((a0 :: a1 :: (c ++ [s, mk])).drop 19).take 1 = [mk] := by simp [List.drop_append, hc, h17]
  have t2' : DataW.trod enc Tryd.prog W 0 (fun _ => true) true m 53 (((a0 :: a1 :: (c ++ [s, mk])).drop 2).take 16) = some y2 := by rw [← show Tryd.prog.cellsOf 53 = 16 by kernel_rfl]; exact t2
  have t3' : DataW.trod enc Tryd.prog W 0 (fun _ => true) true m 29 (((a0 :: a1 :: (c ++ [s, mk])).drop 18).take 1) = some y3 := by rw [← show Tryd.prog.cellsOf 29 = 1 by kernel_rfl]; exact t3
  have t4' : DataW.trod enc Tryd.prog W 0 (fun _ => true) true m 29 (((a0 :: a1 :: (c ++ [s, mk])).drop 19).take 1) = some y4 := by rw [← show Tryd.prog.cellsOf 29 = 1 by kernel_rfl]; exact t4
  rw [e2] at t2'
  rw [e3] at t3'
  rw [e4] at t4'
  obtain ⟨n, vp, vo, vv, vh, hcs, hn, hfit⟩ := note_of_trod t2'
  obtain ⟨z3, q3, _, w3⟩ := DataW.trod_int Tryd.underlying29 t3'
  obtain ⟨z4, q4, _, w4⟩ := DataW.trod_int Tryd.underlying29 t4'
  simp only [List.cons.injEq, and_true] at q0 q1 q3 q4
  subst q0 q1 q3 q4 hcs
  simp [Lit.wf, IntKind.min, IntKind.max, IntKind.signed, IntKind.bits] at w0 w1 w3 w4
  exact ⟨⟨z0, z1, n, z3, z4⟩, vp, vo, vv, vh, rfl, hn, ⟨w0, w1, hfit, w3, w4⟩⟩

/-- an argument that is a script -/
theorem open_scriptG {base : Nat} {v : Value} {d : DataW H} {ps : List MemPlace}
    (hok : Value.okWide Tryd.prog W .any base 58 v) (h : DataW.Trod enc Tryd.prog W 0 (fun _ => true) true 58 v d ps) :
    ∃ l, ScriptG W v l ∧ ∀ r ∈ l, r.Fits := by
  obtain ⟨a0, len0, cap0, rfl⟩ := okWide_slice Tryd.underlying58 hok
  obtain ⟨fuel, hf⟩ := h
  have hce : Tryd.prog.cellsOf 61 = 20 := by kernel_rfl
  rcases open_slice Tryd.underlying58 hf with ⟨hcs, _⟩ | ⟨a, len, cap, m, n, D, Pl, hcs, _, hl, hm, hmm, _, hel⟩
  · simp [Value.cells] at hcs
    obtain ⟨rfl, rfl, rfl⟩ := hcs
    exact ⟨[], ⟨none, 0, rfl, by simp, by simp, by simp, fun i hi => absurd hi (by simp)⟩, by simp⟩
  · simp only [if_true] at hmm
    subst hmm
    rw [hce] at hel
    have each : ∀ i, i < len → ∃ o : Og, ∃ vp vo vv vh, (∀ j u, (o.cells vp vo vv vh)[j]? = some u → W.cell? (a.add (i * 20 + j)) = some u) ∧ NoteV W (fun _ => True) o.note vp vo vv vh ∧ o.Fits := by
      intro i hi
      obtain ⟨cs', hcs', htr⟩ := hel i (by omega)
      obtain ⟨hlen, hg⟩ := cells_all hcs'
      obtain ⟨o, vp, vo, vv, vh, rfl, hn, hfit⟩ := op_of_trod htr
      refine ⟨o, vp, vo, vv, vh, fun j u hj => ?_, hn, hfit⟩
      have hj20 : j < 20 := by rw [← hlen]; exact (List.getElem?_eq_some_iff.1 hj).1
      rw [← hj, ← hg j hj20, add_add]
    obtain ⟨l, hll, hp⟩ := exists_list len each
    simp [Value.cells] at hcs
    obtain ⟨rfl, rfl, rfl⟩ := hcs
    refine ⟨l, ⟨some a, cap0, by rw [hll], by omega, by simpa [maxLen] using hm, by simp, fun i hi => ?_⟩, fun o ho => ?_⟩
    · obtain ⟨vp, vo, vv, vh, hc, hn, _⟩ := hp i hi
      obtain ⟨_, _, _, _, h0, _⟩ := hp 0 (by omega)
      have h00 := h0 0 _ rfl
      obtain ⟨b, off, spot⟩ := a
      obtain rfl : spot = none := by
        simpa [Addr.add] using World.cell?_spot h00
      refine ⟨b, off, vp, vo, vv, vh, rfl, fun j u hj => ?_, hn⟩
      have := hc j u hj
      rw [Addr.add_lit, ← Nat.add_assoc] at this
      exact this
    · obtain ⟨i, hi, rfl⟩ := List.mem_iff_getElem.1 ho
      obtain ⟨_, _, _, _, _, _, hfit⟩ := hp i hi
      exact hfit

end

end Go.Proofs.YtfmlhdikagogcaaDoor

namespace Go.Proofs.YtfmlhdikagogcaaDoor
open Go.RowKit
set_option maxRecDepth 20000

theorem Mod.of_grown {w w' : World} {mb : Nat} (h : w.grownBy w' (some mb)) : Mod (fun k => k = mb) w w' :=
  (Mod.refl (fun k => k = mb) w).grown h (fun k e => .inl (Option.some.inj e).symm)

theorem GIn.other {w w' : World} {B c mb : Nat} {F R : Nat → Prop} {g : Gz} {lv : Value} {Q : List Qp} (h : GIn w B c F R g lv Q) (hm : Mod (fun k => k = mb) w w') (hF : ¬ F mb) (hR : ¬ R mb) : GIn w' B c F R g lv Q := by
  have hf : ∀ k, F k → w'.heap[k]? = w.heap[k]? := fun k hk => hm.block k (h.low k hk).2 (fun e => hF (e ▸ hk))
  have hr : Agree R w w' := fun k hk => hm.block k (h.apart k hk).1 (fun e => hR (e ▸ hk))
  exact ⟨(hf c h.here).trans h.obj, own_agree h.row (fun k e => hf k (h.lvF k e).1), h.len, fun i h1 h2 => (h.each i h1 h2).agree hr (hf _ (h.mbF _ (List.getElem_mem h1)).1), h.bs, h.mbs, h.lvF, h.mbF, h.here, fun k hk => ⟨(h.low k hk).1, Nat.lt_of_lt_of_le (h.low k hk).2 hm.size⟩, fun k hk => ⟨Nat.lt_of_lt_of_le (h.apart k hk).1 hm.size, (h.apart k hk).2⟩⟩

/-- the gather, and a map of open questions apart from it -/
def OState (W0 : World) (c mb : Nat) (g : Gz) (L : List KV) (w : World) : Prop :=
  ∃ F R : Nat → Prop, GAt w W0.heap.size c F R g ∧ ¬ F mb ∧ ¬ R mb ∧ MapAt w pairV mb L ∧ W0.heap.size ≤ mb ∧ Below W0.heap.size W0 w

theorem OState.below {W0 w w' : World} {c mb : Nat} {g : Gz} {L : List KV} (h : OState W0 c mb g L w) (hb : Below w.heap.size w w') : OState W0 c mb g L w' := by
  obtain ⟨F, R, hG, hF, hR, hM, hB, hW⟩ := h
  exact ⟨F, R, hG.below hb, hF, hR, hM.kept (hb.block mb hM.lt), hB, hW.trans (hb.mono hW.size)⟩

theorem OState.lt {W0 w : World} {c mb : Nat} {g : Gz} {L : List KV} (h : OState W0 c mb g L w) : mb < w.heap.size := by
  obtain ⟨F, R, hG, hF, hR, hM, hB, hW⟩ := h
  exact hM.lt

theorem OState.map {W0 w : World} {c mb : Nat} {g : Gz} {L : List KV} (h : OState W0 c mb g L w) : MapAt w pairV mb L := by
  obtain ⟨F, R, hG, hF, hR, hM, hB, hW⟩ := h
  exact hM

theorem OState.since {W0 w : World} {c mb : Nat} {g : Gz} {L : List KV} (h : OState W0 c mb g L w) : Below W0.heap.size W0 w := by
  obtain ⟨F, R, hG, hF, hR, hM, hB, hW⟩ := h
  exact hW

theorem OState.has {W0 w : World} {c mb : Nat} {g : Gz} {L : List KV} (h : OState W0 c mb g L w) : GHas w W0.heap.size c g := by
  obtain ⟨F, R, hG, hF, hR, hM, hB, hW⟩ := h
  exact ⟨F, R, hG⟩

/-- the map is written -/
theorem OState.put {W0 w w' : World} {c mb : Nat} {g : Gz} {L L' : List KV} (h : OState W0 c mb g L w) (hm : MapAt w' pairV mb L') (hg : w.grownBy w' (some mb)) : OState W0 c mb g L' w' := by
  obtain ⟨F, R, ⟨lv, Q, hG⟩, hF, hR, hM, hB, hW⟩ := h
  exact ⟨F, R, ⟨lv, Q, hG.other (Mod.of_grown hg) hF hR⟩, hF, hR, hm, hB, hW.grown hg hW.size (fun b e => (Option.some.inj e) ▸ hB)⟩

theorem NoteV.one16 {w : World} {F : Nat → Prop} {n : Nt} {vp vo vv vh : Value} (h : NoteV w F n vp vo vv vh) : (n.cells vp vo vv vh).all (·.oneCell') = true := by
  obtain ⟨p0, q0, rfl, -, -, -, -⟩ := h.parts.slice
  obtain ⟨p1, q1, rfl, -, -, -, -⟩ := id h.ops
  obtain ⟨p2, q2, rfl, -, -, -, -⟩ := h.vec.slice
  obtain ⟨p3, q3, rfl, -, -, -, -⟩ := id h.hits
  simp [Nt.cells, Value.oneCell']

theorem MailF.oneEach {w : World} {F : Nat → Prop} {rs : List Mv} (h : MailF w F rs) : ∀ r ∈ rs, r.cells.toArray.all (·.oneCell') = true := fun r hr => by
  have := (h r hr).read.one16
  rw [Array.all_eq_true_iff_forall_mem] at this ⊢
  intro u hu
  simp only [Mv.cells, List.mem_toArray, List.mem_cons, Array.mem_toList_iff] at hu
  rcases hu with rfl | hu
  · rfl
  · exact this u hu

/-- what a call told: the list's row, apart from the map -/
def ToldAt (W0 : World) (c mb : Nat) (g' : Gz) (L : List KV) (l : List (Int × Nt)) (w : World) (v : Value) (w' : World) : Prop :=
  ∃ rs : List Mv, w'.ownsRow w.heap.size 44 17 v rs.length (flatM rs) ∧ rs.map Mv.says = l ∧ (∀ r ∈ rs, r.cells.toArray.all (·.oneCell') = true) ∧ OState W0 c mb g' L w'

/-- a call of the gather's -/
theorem GTold.once {W0 w w' : World} {c mb : Nat} {F R E : Nat → Prop} {g' : Gz} {L : List KV} {l : List (Int × Nt)} {r : Ending} (h : GTold w W0.heap.size c F R E l g' r w') (hF : ¬ F mb) (hR : ¬ R mb) (hE : ¬ E mb) (hM : MapAt w pairV mb L) (hB : W0.heap.size ≤ mb) (hW : Below W0.heap.size W0 w) (hl : ∀ k, F k → W0.heap.size ≤ k) :
    ∃ v, r = .returned v ∧ ToldAt W0 c mb g' L l w v w' := by
  have hb := h.below hW.size hl
  obtain ⟨v, rs, G, F', R', rfl, ho, hs, hmf, -, -, hG, hm, hF', hR'⟩ := h
  have hlt := hM.lt
  exact ⟨v, rfl, rs, ho, hs, hmf.oneEach, F', R', hG, fun h => by rcases hF' mb h with h | h; exact hF h; omega, fun h => by rcases hR' mb h with h | h | h; exact hR h; exact hE h; omega, hM.kept (hm.block mb hlt hF), hB, hW.trans hb⟩

theorem askO {W0 wE w : World} {c mb : Nat} {g : Gz} {L : List KV} (h0 : OState W0 c mb g L wE) (hbE : Below wE.heap.size wE w) (hT : Tab W0) (hok : GOk g) (E : Nat → Prop) (n : Nt) (vp vo vv vh : Value) (frm stamp mark : Int) (hv : NoteV w E n vp vo vv vh) (hkd : 0 ≤ n.kind ∧ n.kind ≤ 255) (hlen : n.parts.length ≤ 1000000 ∧ n.ops.length ≤ 1000000 ∧ n.vec.length ≤ 1000000 ∧ n.hits.length ≤ 1000000) :
    Calls Tryd.prog 11 #[.pointer (some ⟨c, 0, none⟩), .int .i64 frm, .agg (n.cells vp vo vv vh), .int .u64 stamp, .int .u64 mark] w fun e w' => (∃ v, e = .returned v ∧ ToldAt W0 c mb (askZ g frm n stamp mark).2 L (askZ g frm n stamp mark).1 w v w') ∧ ∀ k, wE.heap.size ≤ k → k < w.heap.size → w'.heap[k]? = w.heap[k]? := by
  obtain ⟨F, R, hG, hF, hR, hM, hB, hW⟩ := h0
  have hGw := hG.below hbE
  have hWw := hW.trans (hbE.mono hW.size)
  refine (ask W0.heap.size c F R E g n vp vo vv vh frm stamp mark w (hT.below hWw) hGw hWw.size hok hv hkd hlen).mono fun e w' hh => ⟨hh.once hF hR (fun h => h) (hM.kept (hbE.block mb hM.lt)) hB hWw (fun k hk => (hG.low k hk).1), fun k h1 h2 => ?_⟩
  obtain ⟨v, rs, G, F', R', -, -, -, -, -, -, -, hm, -⟩ := hh
  exact hm.block k h2 (fun hf => by have := (hG.low k hf).2; omega)

theorem hearO {W0 w : World} {c mb : Nat} {g : Gz} {L : List KV} (hT : Tab W0) (hok : GOk g) (E : Nat → Prop) (n : Nt) (vp vo vv vh : Value) (frm : Int) (hv : NoteV w E n vp vo vv vh) (hkd : 0 ≤ n.kind ∧ n.kind ≤ 255) (hlen : n.parts.length ≤ 1000000 ∧ n.ops.length ≤ 1000000 ∧ n.vec.length ≤ 1000000 ∧ n.hits.length ≤ 1000000)
    (wE : World) (hEl : ∀ k, E k → wE.heap.size ≤ k ∧ k < w.heap.size) (h0 : OState W0 c mb g L wE) (hbE : Below wE.heap.size wE w) :
    Calls Tryd.prog 13 #[.pointer (some ⟨c, 0, none⟩), .int .i64 frm, .agg (n.cells vp vo vv vh)] w fun e w' => ∃ v, e = .returned v ∧ ToldAt W0 c mb (hearZ g frm n).2 L (hearZ g frm n).1 w v w' := by
  obtain ⟨F, R, hG, hF, hR, hM, hB, hW⟩ := h0
  have hlt := hM.lt
  have hGw := hG.below hbE
  have hWw := hW.trans (hbE.mono hW.size)
  exact (hear W0.heap.size c F R E g n vp vo vv vh frm w (hT.below hWw) hGw hWw.size hok hv hkd hlen (fun k hk => ⟨(hEl k hk).2, fun hf => by have := (hG.low k hf).2; have := (hEl k hk).1; omega⟩)).mono fun e w' hh => hh.once hF hR (fun h => by have := (hEl mb h).1; omega) (hM.kept (hbE.block mb hlt)) hB hWw (fun k hk => (hG.low k hk).1)

theorem quitO {W0 w : World} {c mb : Nat} {g : Gz} {L : List KV} (h : OState W0 c mb g L w) (hok : GOk g) :
    Calls Tryd.prog 16 #[.pointer (some ⟨c, 0, none⟩)] w fun e w' => ∃ v, e = .returned v ∧ ToldAt W0 c mb {g with l := []} L (quitL g) w v w' := by
  obtain ⟨F, R, hG, hF, hR, hM, hB, hW⟩ := h
  exact (quit W0.heap.size c F R g w hG hW.size (by have := hok.most; omega)).mono fun e w' hh => hh.once hF hR (fun h => h) hM hB hW (fun k hk => (hG.low k hk).1)

theorem wakeO {W0 w : World} {c mb : Nat} {g : Gz} {L : List KV} (h : OState W0 c mb g L w) (hok : GOk g) :
    Calls Tryd.prog 21 #[.pointer (some ⟨c, 0, none⟩)] w fun e w' => ∃ v, e = .returned v ∧ ToldAt W0 c mb g L (wakeL g) w v w' := by
  obtain ⟨F, R, hG, hF, hR, hM, hB, hW⟩ := h
  exact (wake W0.heap.size c F R g w hG hW.size hok).mono fun e w' hh => hh.once hF hR (fun h => h) hM hB hW (fun k hk => (hG.low k hk).1)

theorem lenO {W0 w : World} {c mb : Nat} {g : Gz} {L : List KV} (h : OState W0 c mb g L w) :
    Calls Tryd.prog 15 #[.pointer (some ⟨c, 0, none⟩)] w fun e w' => e = .returned (.int .i64 g.l.length) ∧ w = w' := by
  obtain ⟨F, R, hG, hF, hR, hM, hB, hW⟩ := h
  exact glen W0.heap.size c F R g w hG

/-- it begins -/
theorem OState.start {W0 w1 : World} {c : Nat} {g : Gz} (h : GHas w1 W0.heap.size c g) (hb : Below W0.heap.size W0 w1) : OState W0 c w1.heap.size g [] (w1.alloc (.map #[] 0)) := by
  obtain ⟨F, R, hG⟩ := h
  have hba := (Below.refl w1.heap.size w1).alloc (Nat.le_refl _) (.map #[] 0)
  have hlow := hG.low
  obtain ⟨lv, Q, hI⟩ := id hG
  exact ⟨F, R, hG.below hba, fun h => by have := (hlow _ h).2; omega, fun h => by have := (hI.apart _ h).1; omega, MapAt.made w1, hb.size, hb.trans (hba.mono hb.size)⟩

end Go.Proofs.YtfmlhdikagogcaaDoor

namespace Go.Proofs.YtfmlhdikagogcaaDoor
open Go.RowKit
set_option maxRecDepth 20000

/-- a guarded load of a whole struct, in a block of its own -/
theorem wpList_rowG {P : Program} {ops : Array Oper} {rest : List Oper} {o : Oper} {a : Act} {w : World} {Q : Exit → Act → World → Prop} (ty : TypeId) (x : Operand) (ho : o.op = .load ty x) (hw : Region.wanted o (yielded ops a.tmps) = true)
    (g : Nat) (hx : a.eval x = .pointer (some ⟨g, 0, none⟩)) (t : TypeId) (cs : Array Value) (fr : Nat × Nat) (d : TypeDesc) (hg : w.heap[g]? = some (.cells cs t fr))
    (hu : P.underlying ty = some d) (hd : (match d with | .struct _ | .array _ _ => true | _ => false) = true) (hi : (P.info? ty).map (·.size) = some cs.size)
    (h : wpList P ops Q rest (a.put o.dst (.agg cs)) w) : wpList P ops Q (o :: rest) a w :=
  wpList_step fun K hK => by rw [if_pos hw]; exact wp_load_row ty x ho g hx t cs fr d hg hu hd hi (hK _ _ h)

/-- a gather, and blocks apart from it -/
def AgS (B c : Nat) (K : Nat → Prop) (g : Gz) (w : World) : Prop := ∃ F R : Nat → Prop, GAt w B c F R g ∧ ∀ k, K k → k < w.heap.size ∧ ¬ F k

theorem AgS.below {B c : Nat} {K : Nat → Prop} {g : Gz} {w w' : World} (h : AgS B c K g w) (hb : Below w.heap.size w w') : AgS B c K g w' := by
  obtain ⟨F, R, hG, hK⟩ := h
  exact ⟨F, R, hG.below hb, fun k hk => ⟨Nat.lt_of_lt_of_le (hK k hk).1 hb.size, (hK k hk).2⟩⟩

theorem AgS.grow {B c : Nat} {K : Nat → Prop} {g : Gz} {w w' : World} (h : AgS B c K g w) (hb : Below w.heap.size w w') : AgS B c (fun k => K k ∨ (w.heap.size ≤ k ∧ k < w'.heap.size)) g w' := by
  obtain ⟨F, R, hG, hK⟩ := h
  refine ⟨F, R, hG.below hb, fun k hk => ?_⟩
  rcases hk with hk | hk
  · exact ⟨Nat.lt_of_lt_of_le (hK k hk).1 hb.size, (hK k hk).2⟩
  · exact ⟨hk.2, fun hf => by have := (hG.low k hf).2; omega⟩

/-- what a call tells -/
def AgT (w : World) (B c : Nat) (K : Nat → Prop) (l : List (Int × Nt)) (g' : Gz) (r : Ending) (w' : World) : Prop :=
  ∃ v rs, r = .returned v ∧ w'.ownsRow w.heap.size 44 17 v rs.length (flatM rs) ∧ rs.map Mv.says = l ∧ AgS B c (fun k => K k ∨ v.ownBlock = some k) g' w' ∧ Agree K w w' ∧ Below B w w' ∧ (∀ r ∈ rs, r.cells.toArray.all (·.oneCell') = true)

theorem GTold.ag {w w' : World} {B c : Nat} {F R E K : Nat → Prop} {l : List (Int × Nt)} {g g' : Gz} {r : Ending} (h : GTold w B c F R E l g' r w') (hG : GAt w B c F R g) (hK : ∀ k, K k → k < w.heap.size ∧ ¬ F k) (hB : B ≤ w.heap.size) : AgT w B c K l g' r w' := by
  have hb := h.below hB (fun k hk => (hG.low k hk).1)
  obtain ⟨v, rs, G, F', R', h1, h2, h3, h4, h5, h6, h7, h8, h9, -⟩ := h
  refine ⟨v, rs, h1, h2, h3, ⟨F', R', h7, fun k hk => ?_⟩, Agree.of_mod h8 (fun k hk => (hK k hk).1) (fun k hk => (hK k hk).2), hb, h4.oneEach⟩
  rcases hk with hk | hk
  · exact ⟨Nat.lt_of_lt_of_le (hK k hk).1 h8.size, fun hf => (h9 k hf).elim (hK k hk).2 (fun h => by have := (hK k hk).1; omega)⟩
  · exact ⟨(h2.lt k hk).2, h6 k hk⟩

theorem askA (B c : Nat) (K : Nat → Prop) (g : Gz) (n : Nt) (vp vo vv vh : Value) (E : Nat → Prop) (frm stamp mark : Int) (w : World) (hT : Tab w) (hG : AgS B c K g w) (hB : B ≤ w.heap.size) (hok : GOk g) (hv : NoteV w E n vp vo vv vh) (hkd : 0 ≤ n.kind ∧ n.kind ≤ 255) (hlen : n.parts.length ≤ 1000000 ∧ n.ops.length ≤ 1000000 ∧ n.vec.length ≤ 1000000 ∧ n.hits.length ≤ 1000000) {l : List (Int × Nt)} {g' : Gz} (hz : askZ g frm n stamp mark = (l, g')) :
    Calls Tryd.prog 11 #[.pointer (some ⟨c, 0, none⟩), .int .i64 frm, .agg (n.cells vp vo vv vh), .int .u64 stamp, .int .u64 mark] w (AgT w B c K l g') := by
  obtain ⟨F, R, hG, hK⟩ := hG
  exact (askT B c F R g n vp vo vv vh E frm stamp mark w hT hG hB hok hv hkd hlen hz).mono fun e w' h => h.ag hG hK hB

theorem hearA (B c : Nat) (K : Nat → Prop) (g : Gz) (x frm : Int) (w : World) (hT : Tab w) (hG : AgS B c K g w) (hB : B ≤ w.heap.size) (hok : GOk g) {l : List (Int × Nt)} {g' : Gz} (hz : hearZ g frm (seenN x) = (l, g')) :
    Calls Tryd.prog 13 #[.pointer (some ⟨c, 0, none⟩), .int .i64 frm, .agg #[.int .u8 10, .int .u64 0, .int .u64 0, .int .u64 0, .int .u64 0, .int .u64 0, .int .u64 x, .int .u64 0, .int .i64 0, .int .i64 0, .int .i64 0, .int .i64 0, .slice none 0 0, .slice none 0 0, .slice none 0 0, .slice none 0 0]] w (AgT w B c K l g') := by
  obtain ⟨F, R, hG, hK⟩ := hG
  exact (hearT B c F R (fun _ => False) g (seenN x) (.slice none 0 0) (.slice none 0 0) (.slice none 0 0) (.slice none 0 0) frm w hT hG hB hok ⟨Nums.nil _ _, RecsF.nil _ _, Nums.nil _ _, HitsF.nil _ _⟩ (by simp [seenN]) (by simp [seenN]) (fun _ h => h.elim) hz).mono fun e w' h => h.ag hG hK hB

theorem wakeA (B c : Nat) (K : Nat → Prop) (g : Gz) (w : World) (hG : AgS B c K g w) (hB : B ≤ w.heap.size) (hok : GOk g) :
    Calls Tryd.prog 21 #[.pointer (some ⟨c, 0, none⟩)] w (AgT w B c K (wakeL g) g) := by
  obtain ⟨F, R, hG, hK⟩ := hG
  exact (wake B c F R g w hG hB hok).mono fun e w' h => h.ag hG hK hB

theorem lenA (B c : Nat) (K : Nat → Prop) (g : Gz) (w : World) (hG : AgS B c K g w) :
    Calls Tryd.prog 15 #[.pointer (some ⟨c, 0, none⟩)] w fun e w' => e = .returned (.int .i64 g.l.length) ∧ w = w' := by
  obtain ⟨F, R, hG, hK⟩ := hG
  exact glen B c F R g w hG

theorem oldA (B c : Nat) (K : Nat → Prop) (g : Gz) (s : Int) (w : World) (hG : AgS B c K g w) (hl : g.l.length ≤ 1000) :
    Calls Tryd.prog 22 #[.pointer (some ⟨c, 0, none⟩), .int .u64 s] w fun e w' => e = .returned (.int .u64 (oldZ g.l s)) ∧ w = w' := by
  obtain ⟨F, R, hG, hK⟩ := hG
  exact oldest B c F R g s w hG hl

theorem fewN_fits {n : Nt} (h : n.Fits) : ({fewN n with kind := 8} : Nt).Fits := by
  refine ⟨by simp, h.txn, h.batch, h.stamp, h.after, h.mark, h.query, h.id, h.k, h.ef, h.code, h.who, fun r hr => ?_, fun x hx => ?_, fun r hr => ?_⟩
  · obtain ⟨y, hy, rfl⟩ := List.mem_map.1 (show r ∈ (n.ops.take 18).map _ from hr)
    exact h.ops y (List.mem_of_mem_take hy)
  · exact h.vec x (List.mem_of_mem_take hx)
  · obtain ⟨y, hy, rfl⟩ := List.mem_map.1 (show r ∈ (n.hits.take 18).map _ from hr)
    obtain ⟨a1, a2, a3, a4, a5⟩ := h.hits y (List.mem_of_mem_take hy)
    exact ⟨a1, a2, a3, a4, fun x hx => a5 x (List.mem_of_mem_take hx)⟩

theorem fewN_len' (n : Nt) : (fewN n).parts.length ≤ 6 ∧ (fewN n).ops.length ≤ 18 ∧ (fewN n).vec.length ≤ 10 ∧ (fewN n).hits.length ≤ 18 := by
  refine ⟨?_, ?_, ?_, ?_⟩
  · show (n.parts.take 6).length ≤ 6; rw [List.length_take]; omega
  · show (fewZ 18 n.ops).length ≤ 18; rw [fewZ_length]; omega
  · show (n.vec.take 10).length ≤ 10; rw [List.length_take]; omega
  · show (hitsZ 18 n.hits).length ≤ 18; rw [hitsZ_length]; omega

theorem mod_setRow (w : World) (g : Nat) (cs : Array Value) : Mod (fun k => k = g) w (w.setRow g cs) := ⟨rfl, rfl, rfl, by simp [World.setRow], fun k _ hne => setRow_other w g k cs hne⟩

theorem mod_setCell (w : World) (g j : Nat) (v : Value) : Mod (fun k => k = g) w (w.setCell ⟨g, j, none⟩ v) := ⟨rfl, rfl, rfl, by simp, fun k _ hne => set_other rfl hne j v⟩

theorem Mod.thenF {F : Nat → Prop} {w w1 w2 : World} (h : Mod F w w1) (h' : Mod F w1 w2) : Mod F w w2 := ⟨h'.os.trans h.os, h'.tape.trans h.tape, h'.output.trans h.output, Nat.le_trans h.size h'.size, fun k hk hn => (h'.block k (Nat.lt_of_lt_of_le hk h.size) hn).trans (h.block k hk hn)⟩

theorem GAt.other {w w' : World} {B c mb : Nat} {F R : Nat → Prop} {g : Gz} (h : GAt w B c F R g) (hm : Mod (fun k => k = mb) w w') (hF : ¬ F mb) (hR : ¬ R mb) : GAt w' B c F R g := by
  obtain ⟨lv, Q, h⟩ := h
  exact ⟨lv, Q, h.other hm hF hR⟩

theorem seen_get {w : World} {b : Nat} {t : TypeId} {fr : Nat × Nat} (h : w.heap[b]? = some (.cells #[.int .u8 10, .int .u64 0, .int .u64 0, .int .u64 0, .int .u64 0, .int .u64 0, .int .u64 1, .int .u64 0, .int .i64 0, .int .i64 0, .int .i64 0, .int .i64 0, .slice none 0 0, .slice none 0 0, .slice none 0 0, .slice none 0 0] t fr)) : (w.cell? ⟨b, 0, none⟩ = some (.int .u8 10) ∧ w.cell? ⟨b, 1, none⟩ = some (.int .u64 0) ∧ w.cell? ⟨b, 2, none⟩ = some (.int .u64 0) ∧ w.cell? ⟨b, 3, none⟩ = some (.int .u64 0) ∧ w.cell? ⟨b, 4, none⟩ = some (.int .u64 0)) ∧ (w.cell? ⟨b, 5, none⟩ = some (.int .u64 0) ∧ w.cell? ⟨b, 6, none⟩ = some (.int .u64 1) ∧ w.cell? ⟨b, 7, none⟩ = some (.int .u64 0) ∧ w.cell? ⟨b, 8, none⟩ = some (.int .i64 0) ∧ w.cell? ⟨b, 9, none⟩ = some (.int .i64 0)) ∧ (w.cell? ⟨b, 10, none⟩ = some (.int .i64 0) ∧ w.cell? ⟨b, 11, none⟩ = some (.int .i64 0) ∧ w.cell? ⟨b, 12, none⟩ = some (.slice none 0 0) ∧ w.cell? ⟨b, 13, none⟩ = some (.slice none 0 0) ∧ w.cell? ⟨b, 14, none⟩ = some (.slice none 0 0)) ∧ w.cell? ⟨b, 15, none⟩ = some (.slice none 0 0) := by
  simp [World.cell?, h]

theorem AgS.mono {B c : Nat} {K K' : Nat → Prop} {g : Gz} {w : World} (h : AgS B c K g w) (hs : ∀ k, K' k → K k) : AgS B c K' g w := by
  obtain ⟨F, R, hG, hK⟩ := h
  exact ⟨F, R, hG, fun k hk => hK k (hs k hk)⟩

/-- all that the law's walk holds -/
structure AgW (w : World) (B c : Nat) (K : Nat → Prop) (n : Nt) (vp vo vv vh : Value) (sb : Nat) (g : Gz) (W : World) : Prop where
  ag : AgS B c K g W
  note : NoteM W K n vp vo vv vh
  own : W.heap[w.heap.size]? = some (.cells (n.cells vp vo vv vh) 53 (0, 0))
  seen : W.heap[sb]? = some (.cells #[.int .u8 10, .int .u64 0, .int .u64 0, .int .u64 0, .int .u64 0, .int .u64 0, .int .u64 1, .int .u64 0, .int .i64 0, .int .i64 0, .int .i64 0, .int .i64 0, .slice none 0 0, .slice none 0 0, .slice none 0 0, .slice none 0 0] 37 (0, 0))
  since : Below w.heap.size w W
  size : B ≤ W.heap.size
  lt : w.heap.size < B
  has : K sb

theorem AgW.below {w W W' : World} {B c : Nat} {K : Nat → Prop} {n : Nt} {vp vo vv vh : Value} {sb : Nat} {g : Gz} (h : AgW w B c K n vp vo vv vh sb g W) (hb : Below W.heap.size W W') : AgW w B c K n vp vo vv vh sb g W' :=
  ⟨h.ag.below hb, h.note.below hb, (hb.block _ (lt_block h.own)).trans h.own, (hb.block _ (lt_block h.seen)).trans h.seen, h.since.trans (hb.mono h.since.size), Nat.le_trans h.size hb.size, h.lt, h.has⟩

theorem AgW.told {w W W' : World} {B c : Nat} {K : Nat → Prop} {n : Nt} {vp vo vv vh : Value} {sb : Nat} {g g' : Gz} {l : List (Int × Nt)} {r : Ending} (h : AgW w B c K n vp vo vv vh sb g W) (ht : AgT W B c K l g' r W') :
    ∃ v rs, r = .returned v ∧ W'.ownsRow W.heap.size 44 17 v rs.length (flatM rs) ∧ rs.map Mv.says = l ∧ AgW w B c K n vp vo vv vh sb g' W' ∧ AgS B c (fun k => K k ∨ v.ownBlock = some k) g' W' ∧ (∀ r ∈ rs, r.cells.toArray.all (·.oneCell') = true) := by
  obtain ⟨v, rs, h1, h2, h3, h4, h5, h6, h7⟩ := ht
  exact ⟨v, rs, h1, h2, h3, ⟨h4.mono fun k hk => .inl hk, h.note.agree h5, (h6.block _ h.lt).trans h.own, (h5 _ h.has).trans h.seen, h.since.trans (h6.mono (Nat.le_of_lt h.lt)), Nat.le_trans h.size h6.size, h.lt, h.has⟩, h4, h7⟩

/-- a call beside a row of mail -/
theorem AgW.beside {w W W' : World} {B c e : Nat} {K : Nat → Prop} {n : Nt} {vp vo vv vh v : Value} {sb : Nat} {g g' : Gz} {l : List (Int × Nt)} {rs : List Mv} {r : Ending} (h : AgW w B c K n vp vo vv vh sb g W) (hr : W.ownsRow e 44 17 v rs.length (flatM rs)) (ht : AgT W B c (fun k => K k ∨ v.ownBlock = some k) l g' r W') :
    ∃ u ss, r = .returned u ∧ W'.ownsRow W.heap.size 44 17 u ss.length (flatM ss) ∧ ss.map Mv.says = l ∧ AgW w B c K n vp vo vv vh sb g' W' ∧ W'.ownsRow e 44 17 v rs.length (flatM rs) := by
  obtain ⟨u, ss, h1, h2, h3, h4, h5, h6, -⟩ := ht
  have h5' : Agree K W W' := fun k hk => h5 k (.inl hk)
  exact ⟨u, ss, h1, h2, h3, ⟨h4.mono fun k hk => .inl (.inl hk), h.note.agree h5', (h6.block _ h.lt).trans h.own, (h5' _ h.has).trans h.seen, h.since.trans (h6.mono (Nat.le_of_lt h.lt)), Nat.le_trans h.size h6.size, h.lt, h.has⟩, own_agree hr fun k e => h5 k (.inr e)⟩

end Go.Proofs.YtfmlhdikagogcaaDoor
