/-
  The document's Right, of vectors.
  A region that draws its order, its operations behind a name: each step's goal is small.
  gather: an ID is asked of its own shard alone: what the calls answer.
  An argument that is the document's note.
  An argument that is a script of questions and answers.
  gather: GatherOnce: the gather and the map beside it.
-/
import Derived.Test.YtfmlhdikagogcaaDoorJ04
import Derived.Test.YtfmlhdikagogcaaDoorJ10
import Derived.Test.YtfmlhdikagogcaaDoorJ42
import Derived.Test.YtfmlhdikagogcaaDoorJ45
import Derived.Test.YtfmlhdikagogcaaDoorJ25
import Derived.ArgAppend
import Derived.Test.YtfmlhdikagogcaaDoorJ02
import Derived.Test.YtfmlhdikagogcaaDoorJ06
import Derived.Test.YtfmlhdikagogcaaDoorJ43
import Derived.Test.YtfmlhdikagogcaaDoorJ44
namespace Go.Proofs.YtfmlhdikagogcaaDoor
open Go.RowKit
set_option maxRecDepth 20000

theorem refRight (xs : List Int) (v : Value) (w : World) (h : Nums w .i32 v xs) :
    Calls Tryd.prog 18 #[v] w fun e w' => e = .returned (.bool (rightB xs)) ∧ w = w' := by
  obtain ⟨p, cap, rfl, hcap, hbig, -, hc⟩ := h.slice
  have hl : xs.length ≤ 9223372036854775807 := by omega
  clear hcap hbig
  have H := Lib.hid h
  clear h hc
  go_enter Tryd.func18, Tryd.ntmps18
  go_wp2
  go_loop [4, 7] (fun _ i => ∃ k : Nat, k ≤ xs.length ∧ i = .int .i64 k ∧ ∀ j (h : j < xs.length), j < k → outR xs[j] = false) (fun _ i => xs.length - (intOf i).toNat)
  case atStart => exact ⟨0, by omega, rfl, by omega⟩
  case round =>
    obtain ⟨k, hk, rfl, hall⟩ := hrel
    have A := Lib.hid hall
    clear hall
    by_cases hlt : k < xs.length
    · obtain ⟨b, off, rfl, hcell⟩ := H.out.elem hlt
      by_cases h1 : 268435456 < xs[k]
      · go_wp2
        go_ret
        exact ⟨ret_bool (by have : xs.any outR = true := by rw [List.any_eq_true]; exact ⟨_, List.getElem_mem hlt, by simp [outR, h1]⟩
                            simp [rightB, this]), rfl⟩
      · by_cases h2 : xs[k] < -268435456
        · go_wp2
          go_ret
          exact ⟨ret_bool (by have : xs.any outR = true := by rw [List.any_eq_true]; exact ⟨_, List.getElem_mem hlt, by simp [outR, h2]⟩
                              simp [rightB, this]), rfl⟩
        · go_wp2
          go_round
          case rel => exact ⟨k + 1, by omega, by go_num, fun j h hj => by
            by_cases e : j = k
            · subst e; simp [outR]; omega
            · exact A.out j h (by omega)⟩
          case measure => simp [intOf]; omega
    · have hany : xs.any outR = false := by
        simp only [List.any_eq_false]
        intro x hx
        obtain ⟨i, hi, rfl⟩ := List.mem_iff_getElem.1 hx
        simp [A.out i hi (by omega)]
      have Y := Lib.hid hany
      clear hany
      by_cases h1 : 1 ≤ xs.length
      · go_wp2
        go_ret
        exact ⟨ret_bool (by have h0 : 0 < xs.length := by omega
                            simp [rightB, Y.out, h0]; omega), rfl⟩
      · go_wp2
        go_ret
        exact ⟨ret_bool (by simp [rightB]; omega), rfl⟩

end Go.Proofs.YtfmlhdikagogcaaDoor

namespace Go.Proofs.YtfmlhdikagogcaaDoor
open Go.RowKit
set_option maxRecDepth 20000

section
variable {P : Program} {ops O : Array Oper} {Q : Exit → Act → World → Prop} {md : Region.Mode} {S : World → Prop}

/-- an equation that no tactic opens -/
structure OpsAre (O ops : Array Oper) : Prop where
  eq : O = ops

theorem tkNH (i : Nat) {oi : Oper} {fuel : Nat} {listed : Array Bool} {a : Act} {w : World} (hO : OpsAre O ops) (hS : S w) (hi : ops.toList[i]? = some oi) (hQ : ∀ c a w, Q (.panic c) (a.put oi.dst undef) w → Q (.panic c) a w)
    (hc : canTake md ops listed i = true) (hw : Region.wanted oi (yielded ops a.tmps) = false)
    (h : wpAnyH P md O Q S fuel (listed.setIfInBounds i true) (a.put oi.dst undef) w) : wpAnyH P md O Q S (fuel + 1) listed a w := by
  obtain ⟨rfl⟩ := hO
  exact tkN i hS hi hQ hc hw h

theorem tkYH (i : Nat) {oi : Oper} {v : Value} {fuel : Nat} {listed : Array Bool} {a : Act} {w : World} (hO : OpsAre O ops) (hS : S w) (hi : ops.toList[i]? = some oi) (hQ : ∀ c a w, Q (.panic c) (a.put oi.dst v) w → Q (.panic c) a w)
    (hc : canTake md ops listed i = true) (hw : Region.wanted oi (yielded ops a.tmps) = true) (hy : ∀ w, S w → (execOp a.eval oi).run P w = .ok (.value v) w)
    (h : wpAnyH P md O Q S fuel (listed.setIfInBounds i true) (a.put oi.dst v) w) : wpAnyH P md O Q S (fuel + 1) listed a w := by
  obtain ⟨rfl⟩ := hO
  exact tkY i hS hi hQ hc hw hy h

theorem spkH (i : Nat) {oi : Oper} {fuel : Nat} {listed : Array Bool} {a : Act} {w : World} (hO : OpsAre O ops) (hi : ops.toList[i]? = some oi)
    (hr : Region.ready md ops listed = [i]) (hw : Region.wanted oi (yielded ops a.tmps) = true)
    (h : ∀ K' : Act → World → Prop, Shut (∀ a w, S w → (S w → wpAnyH P md O Q S fuel (listed.setIfInBounds i true) a w) → K' a w) → oi.wp P a w K' Q) : wpAnyH P md O Q S (fuel + 1) listed a w := by
  obtain ⟨rfl⟩ := hO
  exact spk i hi hr hw h

theorem spBH (i j : Nat) {oi oj : Oper} {fuel : Nat} {listed : Array Bool} {a : Act} {w : World} (hO : OpsAre O ops) (hi : ops.toList[i]? = some oi) (hj : ops.toList[j]? = some oj)
    (hr : Region.ready md ops listed = [i, j]) (hwi : Region.wanted oi (yielded ops a.tmps) = true) (hwj : Region.wanted oj (yielded ops a.tmps) = true)
    (h : ∀ K' : Act → World → Prop, Shut (∀ a w, S w → (S w → wpAnyH P md O Q S fuel (listed.setIfInBounds i true) a w) → K' a w) → oi.wp P a w K' Q)
    (h' : ∀ K' : Act → World → Prop, Shut (∀ a w, S w → (S w → wpAnyH P md O Q S fuel (listed.setIfInBounds j true) a w) → K' a w) → oj.wp P a w K' Q) : wpAnyH P md O Q S (fuel + 1) listed a w := by
  obtain ⟨rfl⟩ := hO
  exact spB i j hi hj hr hwi hwj h h'

theorem doneH {fuel : Nat} {listed : Array Bool} {a : Act} {w : World} (hO : OpsAre O ops) (hr : Region.ready md ops listed = []) (h : Q .normal a w) : wpAnyH P md O Q S fuel listed a w := by
  obtain ⟨rfl⟩ := hO
  exact wpAnyH_done hr h _

theorem region_goH {id : Nat} {a : Act} {w : World} (S : World → Prop) (n : Nat) (hm : P.follows .mixedOrders = true) (hn : ops.size = n) (hS : S w.drew)
    (h : ∀ O, OpsAre O ops → S w.drew → wpAnyH P .any O Q S n (Array.replicate n false) a w.drew) : (Code.region id ops true).wp P Q a w := by
  subst hn
  exact region_go S hm hS (h ops ⟨rfl⟩)
end

end Go.Proofs.YtfmlhdikagogcaaDoor

namespace Go.Proofs.YtfmlhdikagogcaaDoor
open Go.RowKit
set_option maxRecDepth 20000

def nG (id : Int) : Nt := ⟨8, 0, 0, 0, 0, 0, 3, id, 0, 0, 0, 0, [], [], [], []⟩
def nGL (id : Int) : Nt := ⟨9, 0, 0, 7, 0, 2, 1, id, 0, 0, 0, 0, [], [], [], []⟩
def nGS (code : Int) (hits : List Hz) : Nt := ⟨10, 0, 0, 0, 0, 0, 1, 0, 0, 0, code, 0, [], [], [], hits⟩
def gG (n id : Int) : Gz := ⟨n, 2, 1, [⟨nGL id, 5, 3, [1 + homeZ id n], []⟩]⟩

theorem right_get (id : Int) (h : 0 ≤ id ∧ id ≤ 1099511627776) : rightN (nG id) = true := by
  have h1 : fitsB (nG id) = true := by
    unfold fitsB
    have : (nG id).flags = [false, false, false, false, false, true, decide (0 < id), false, false, false, false, false, false, false, false] := rfl
    rw [this]
    rw [show (nG id).kind = 8 from rfl]
    cases decide (0 < id) <;> decide +kernel
  have h2 : boundedB (nG id) = true := by
    unfold boundedB numsB lensB partsB bareB
    simp [nG, h.2]
  unfold rightN
  rw [h1, h2]
  rfl

theorem right_told (code : Int) (hits : List Hz) (hc : 0 ≤ code ∧ code ≤ 13) (hl : hits.length ≤ 16) (hh : ∀ h ∈ hits, badHit h = false) : rightN (nGS code hits) = true := by
  have h1 : fitsB (nGS code hits) = true := by
    unfold fitsB
    have : (nGS code hits).flags = [false, false, false, false, false, true, false, false, false, code != 0, false, false, false, false, decide (0 < hits.length)] := rfl
    rw [this]
    rw [show (nGS code hits).kind = 10 from rfl]
    cases (code != 0) <;> cases decide (0 < hits.length) <;> decide +kernel
  have h2 : boundedB (nGS code hits) = true := by
    have h3 : hits.any badHit = false := by rw [List.any_eq_false]; intro x hx; rw [hh x hx]; simp
    unfold boundedB
    rw [show (nGS code hits).hits = hits from rfl, h3]
    unfold numsB lensB partsB bareB
    simp [nGS, hc.1, hc.2, hl]
  unfold rightN
  rw [h1, h2]
  rfl

theorem get_ask (n id : Int) (h : 0 ≤ id ∧ id ≤ 1099511627776) : askZ ⟨n, 2, 0, []⟩ 5 (nG id) 7 2 = ([(1 + homeZ id n, nGL id)], gG n id) := by
  have ho : oddB 5 (nG id) 8 = false := by unfold oddB; rw [right_get id h]; rfl
  unfold askZ
  rw [ho]
  rfl

theorem get_hear (n id code : Int) (hits : List Hz) (hn : 1 ≤ n ∧ n ≤ 4) (hc : 0 ≤ code ∧ code ≤ 13) (hl : hits.length ≤ 16) (hh : ∀ h ∈ hits, badHit h = false) (hz : code ≠ 0 → hits = []) : hearZ (gG n id) (1 + homeZ id n) (nGS code hits) = ([(5, resN 7 3 code hits)], ⟨n, 2, 1, []⟩) := by
  have hr := home_range id n hn.1
  have ho : oddB (1 + homeZ id n) (nGS code hits) 10 = false := by
    unfold oddB
    rw [right_told code hits hc hl hh, decide_eq_false (show ¬ 1 + homeZ id n < 0 by omega), decide_eq_false (show ¬ 16 ≤ 1 + homeZ id n by omega)]
    rfl
  have h0 : hearZ (gG n id) (1 + homeZ id n) (nGS code hits) = hearAt (gG n id) 0 ⟨nGL id, 5, 3, [1 + homeZ id n], []⟩ (1 + homeZ id n) (nGS code hits) := by
    unfold hearZ
    rw [ho]
    rfl
  rw [h0]
  unfold hearAt
  have h1 : (hasTold ([] : List (Int × List Hz)) (1 + homeZ id n) || !([1 + homeZ id n].any fun y => decide (1 + homeZ id n = y))) = false := by simp [hasTold]
  simp only [h1]
  by_cases h2 : code = 0
  · subst h2
    simp [nGS, nGL, dropZ, gG, answerZ, toldOf, resN]
  · rw [hz h2]
    simp [nGS, nGL, dropZ, gG, h2]

theorem ok_get (n id : Int) (hn : 1 ≤ n ∧ n ≤ 4) (h : 0 ≤ id ∧ id ≤ 1099511627776) : GOk (gG n id) := by
  have := askZ_ok (ok_new n 2 0 hn) 5 (nG id) 7 2
  rwa [get_ask n id h] at this

theorem askT (B c : Nat) (F R : Nat → Prop) (g : Gz) (n : Nt) (vp vo vv vh : Value) (E : Nat → Prop) (frm stamp mark : Int) (w : World) (hT : Tab w) (hG : GAt w B c F R g) (hB : B ≤ w.heap.size) (hok : GOk g) (hv : NoteV w E n vp vo vv vh) (hkd : 0 ≤ n.kind ∧ n.kind ≤ 255) (hlen : n.parts.length ≤ 1000000 ∧ n.ops.length ≤ 1000000 ∧ n.vec.length ≤ 1000000 ∧ n.hits.length ≤ 1000000) {l : List (Int × Nt)} {g' : Gz} (hz : askZ g frm n stamp mark = (l, g')) :
    Calls Tryd.prog 11 #[.pointer (some ⟨c, 0, none⟩), .int .i64 frm, .agg (n.cells vp vo vv vh), .int .u64 stamp, .int .u64 mark] w (GTold w B c F R (fun _ => False) l g') := by
  have := ask B c F R E g n vp vo vv vh frm stamp mark w hT hG hB hok hv hkd hlen
  rw [hz] at this
  exact this

theorem hearT (B c : Nat) (F R E : Nat → Prop) (g : Gz) (n : Nt) (vp vo vv vh : Value) (frm : Int) (w : World) (hT : Tab w) (hG : GAt w B c F R g) (hB : B ≤ w.heap.size) (hok : GOk g) (hv : NoteV w E n vp vo vv vh) (hkd : 0 ≤ n.kind ∧ n.kind ≤ 255) (hlen : n.parts.length ≤ 1000000 ∧ n.ops.length ≤ 1000000 ∧ n.vec.length ≤ 1000000 ∧ n.hits.length ≤ 1000000) (hE : ∀ k, E k → k < w.heap.size ∧ ¬ F k) {l : List (Int × Nt)} {g' : Gz} (hz : hearZ g frm n = (l, g')) :
    Calls Tryd.prog 13 #[.pointer (some ⟨c, 0, none⟩), .int .i64 frm, .agg (n.cells vp vo vv vh)] w (GTold w B c F R E l g') := by
  have := hear B c F R E g n vp vo vv vh frm w hT hG hB hok hv hkd hlen hE
  rw [hz] at this
  exact this

theorem rowI32 : RowTy Tryd.prog 32 21 1 4 (.int .i32 0) := ⟨Tryd.underlying32, infoI32, rfl, by decide⟩

/-- two more behind a slice that has no room -/
theorem run_two {w : World} {xs : List Int} {vp : Option Addr} {vc mm : Nat} (h : Nums w .i32 (.slice vp xs.length vc) xs) (hm : mm ≤ xs.length) (hs : mm ≤ 2) :
    ∃ g c w', (∀ ty, (Builtin.append_ #[32, 32] ty #[.slice vp mm mm, .slice (some ⟨w.heap.size, 0, none⟩) 2 2]).run Tryd.prog (w.alloc (.cells #[.int .i32 0, .int .i32 0] 21)) = .ok (.slice (some ⟨g, 0, none⟩) (mm + 2) c) w') ∧
      w'.ownsRow w.heap.size 21 1 (.slice (some ⟨g, 0, none⟩) (mm + 2) c) (mm + 2) ((xs.take mm ++ [0, 0]).map (Value.int .i32)) ∧ Below w.heap.size w w' := by
  have hsrc := own_fresh w 21 1 2 #[.int .i32 0, .int .i32 0] rfl (by decide)
  have hb := (Below.refl w.heap.size w).alloc (Nat.le_refl _) (.cells #[.int .i32 0, .int .i32 0] 21)
  cases vp with
  | none =>
    obtain ⟨p', c', hv, h1, -, h3, -⟩ := h.slice
    obtain ⟨rfl, -, rfl⟩ := Value.slice.inj hv
    have hx : xs.length = 0 := by have := h3 rfl; omega
    obtain rfl : mm = 0 := by omega
    obtain ⟨q, k, c, w', hr, ho, hg, -⟩ := run_app rowI32 (World.ownsRow_nil (w.alloc (.cells #[.int .i32 0, .int .i32 0] 21)) w.heap.size 21 1) (by simp) (SrcAt.of_own hsrc) (by simp [Value.oneCell']) (by simp [maxLen]) (by decide)
    obtain ⟨g, cap, hv, -, -⟩ := ho.form (by omega)
    obtain ⟨rfl, rfl, rfl⟩ := Value.slice.inj hv
    exact ⟨g, _, w', hr, by simpa using ho, hb.grown hg (by simp) (fun b e => by cases e)⟩
  | some a =>
    obtain ⟨i0, hi, hz0, hz1, hz2⟩ := info_parts infoI32
    have hcell : ∀ j u, ((xs.take mm).map (Value.int .i32))[j]? = some u → (w.alloc (.cells #[.int .i32 0, .int .i32 0] 21)).cell? (a.add j) = some u := by
      intro j u hj
      rw [List.getElem?_map, Option.map_eq_some_iff] at hj
      obtain ⟨x, hx, rfl⟩ := hj
      have hj1 : j < xs.length := by
        have := (List.getElem?_eq_some_iff.1 hx).1
        simp at this
        omega
      obtain ⟨b, off, e, hc⟩ := h.elem hj1
      cases e
      have e2 : x = xs[j] := by
        have := (List.getElem?_eq_some_iff.1 hx).2
        rw [← this, List.getElem_take]
      rw [e2, Addr.add_lit]
      exact below_cells hb hc
    obtain ⟨v', w', hr, ho, hg⟩ := run_append_arg_grows (P := Tryd.prog) (w.alloc (.cells #[.int .i32 0, .int .i32 0] 21)) 32 0 21 i0 (.int .i32 0) 1 4 Tryd.underlying32 hi hz0 hz1 hz2 rfl (by decide) a mm mm ((xs.take mm).map (Value.int .i32)) (by simp; omega) hcell ⟨w.heap.size, 0, none⟩ 2 2 [.int .i32 0, .int .i32 0] rfl
      (World.news_of_block (cs := #[.int .i32 0, .int .i32 0]) (t := 21) (fr := (0, 0)) (heap_alloc_new w _)) (by omega) (by simp [maxLen]; omega) (by omega)
    obtain ⟨q, k, c, rfl⟩ := own_form ho
    obtain ⟨g, cap, hv, -, -⟩ := ho.form (by omega)
    obtain ⟨rfl, rfl, rfl⟩ := Value.slice.inj hv
    exact ⟨g, _, w', fun ty => hr, own_mono (by simpa using ho) (by simp), hb.grown hg (by simp) (fun b e => by cases e)⟩

end Go.Proofs.YtfmlhdikagogcaaDoor

namespace Go.Proofs.YtfmlhdikagogcaaDoor
open Go.ChangeShapes Go.WideShapes Go.ChangeAt Go.RowKit Go.Deep
set_option maxRecDepth 20000

theorem Recs.toF {w : World} {v : Value} {l : List (Int × List Int)} (h : Recs w v l) : RecsF w (fun _ => True) v l := by
  obtain ⟨p, cap, hv, h1, h2, h3, h4⟩ := h
  refine ⟨p, cap, hv, h1, h2, h3, fun i hi => ?_⟩
  obtain ⟨b, off, u, hp, c0, c1, hn⟩ := h4 i hi
  exact ⟨b, off, u, hp, trivial, c0, c1, hn, fun _ _ _ => trivial⟩

/-- its numbers fit their types -/
structure Nt.Fits (n : Nt) : Prop where
  kind : 0 ≤ n.kind ∧ n.kind ≤ 255
  txn : 0 ≤ n.txn ∧ n.txn ≤ 18446744073709551615
  batch : 0 ≤ n.batch ∧ n.batch ≤ 18446744073709551615
  stamp : 0 ≤ n.stamp ∧ n.stamp ≤ 18446744073709551615
  after : 0 ≤ n.after ∧ n.after ≤ 18446744073709551615
  mark : 0 ≤ n.mark ∧ n.mark ≤ 18446744073709551615
  query : 0 ≤ n.query ∧ n.query ≤ 18446744073709551615
  id : 0 ≤ n.id ∧ n.id ≤ 18446744073709551615
  k : -9223372036854775808 ≤ n.k ∧ n.k ≤ 9223372036854775807
  ef : -9223372036854775808 ≤ n.ef ∧ n.ef ≤ 9223372036854775807
  code : -9223372036854775808 ≤ n.code ∧ n.code ≤ 9223372036854775807
  who : -9223372036854775808 ≤ n.who ∧ n.who ≤ 9223372036854775807
  ops : ∀ r ∈ n.ops, 0 ≤ r.1 ∧ r.1 ≤ 18446744073709551615
  vec : ∀ x ∈ n.vec, -2147483648 ≤ x ∧ x ≤ 2147483647
  hits : ∀ r ∈ n.hits, r.Fits

section
variable {H : Type} {enc : TypeId × Value → H} {W : World}

theorem list16 {cs : List Value} (h : cs.length = 16) : ∃ a0 a1 a2 a3 a4 a5 a6 a7 a8 a9 a10 a11 a12 a13 a14 a15, cs = [a0, a1, a2, a3, a4, a5, a6, a7, a8, a9, a10, a11, a12, a13, a14, a15] := by
  match cs, h with
  | [a0, a1, a2, a3, a4, a5, a6, a7, a8, a9, a10, a11, a12, a13, a14, a15], _ => exact ⟨_, _, _, _, _, _, _, _, _, _, _, _, _, _, _, _, rfl⟩

theorem note_of_trod {fuel : Nat} {cs : List Value} {x : DataW H × List MemPlace} (hf : DataW.trod enc Tryd.prog W 0 (fun _ => true) true fuel 53 cs = some x) :
    ∃ n vp vo vv vh, cs = (Nt.cells n vp vo vv vh).toList ∧ NoteV W (fun _ => True) n vp vo vv vh ∧ n.Fits := by
  obtain ⟨xs, m, -, -, hl, hlen, hfs⟩ := DataW.trod_struct Tryd.underlying53 hf
  rw [show Tryd.prog.cellsOf 53 = 16 by kernel_rfl] at hl
  obtain ⟨a0, a1, a2, a3, a4, a5, a6, a7, a8, a9, a10, a11, a12, a13, a14, a15, rfl⟩ := list16 hl
  have hx : xs.length = 16 := hlen
  have hin : ∀ i, i < 16 → ∃ y, xs[i]? = some y := fun i hi => ⟨xs[i], List.getElem?_eq_getElem (by omega)⟩
  obtain ⟨y0, hy0⟩ := hin 0 (by omega)
  have t0 := (hfs 0 _ rfl).trans hy0
  obtain ⟨y1, hy1⟩ := hin 1 (by omega)
  have t1 := (hfs 1 _ rfl).trans hy1
  obtain ⟨y2, hy2⟩ := hin 2 (by omega)
  have t2 := (hfs 2 _ rfl).trans hy2
  obtain ⟨y3, hy3⟩ := hin 3 (by omega)
  have t3 := (hfs 3 _ rfl).trans hy3
  obtain ⟨y4, hy4⟩ := hin 4 (by omega)
  have t4 := (hfs 4 _ rfl).trans hy4
  obtain ⟨y5, hy5⟩ := hin 5 (by omega)
  have t5 := (hfs 5 _ rfl).trans hy5
  obtain ⟨y6, hy6⟩ := hin 6 (by omega)
  have t6 := (hfs 6 _ rfl).trans hy6
  obtain ⟨y7, hy7⟩ := hin 7 (by omega)
  have t7 := (hfs 7 _ rfl).trans hy7
  obtain ⟨y8, hy8⟩ := hin 8 (by omega)
  have t8 := (hfs 8 _ rfl).trans hy8
  obtain ⟨y9, hy9⟩ := hin 9 (by omega)
  have t9 := (hfs 9 _ rfl).trans hy9
  obtain ⟨y10, hy10⟩ := hin 10 (by omega)
  have t10 := (hfs 10 _ rfl).trans hy10
  obtain ⟨y11, hy11⟩ := hin 11 (by omega)
  have t11 := (hfs 11 _ rfl).trans hy11
  obtain ⟨y12, hy12⟩ := hin 12 (by omega)
  have t12 := (hfs 12 _ rfl).trans hy12
  obtain ⟨y13, hy13⟩ := hin 13 (by omega)
  have t13 := (hfs 13 _ rfl).trans hy13
  obtain ⟨y14, hy14⟩ := hin 14 (by omega)
  have t14 := (hfs 14 _ rfl).trans hy14
  obtain ⟨y15, hy15⟩ := hin 15 (by omega)
  have t15 := (hfs 15 _ rfl).trans hy15
  obtain ⟨z0, q0, _, w0⟩ := DataW.trod_int Tryd.underlying5 (by simpa [show Tryd.prog.cellsOf 5 = 1 by kernel_rfl] using t0)
  obtain ⟨z1, q1, _, w1⟩ := DataW.trod_int Tryd.underlying29 (by simpa [show Tryd.prog.cellsOf 29 = 1 by kernel_rfl] using t1)
  obtain ⟨z2, q2, _, w2⟩ := DataW.trod_int Tryd.underlying29 (by simpa [show Tryd.prog.cellsOf 29 = 1 by kernel_rfl] using t2)
  obtain ⟨z3, q3, _, w3⟩ := DataW.trod_int Tryd.underlying29 (by simpa [show Tryd.prog.cellsOf 29 = 1 by kernel_rfl] using t3)
  obtain ⟨z4, q4, _, w4⟩ := DataW.trod_int Tryd.underlying29 (by simpa [show Tryd.prog.cellsOf 29 = 1 by kernel_rfl] using t4)
  obtain ⟨z5, q5, _, w5⟩ := DataW.trod_int Tryd.underlying29 (by simpa [show Tryd.prog.cellsOf 29 = 1 by kernel_rfl] using t5)
  obtain ⟨z6, q6, _, w6⟩ := DataW.trod_int Tryd.underlying29 (by simpa [show Tryd.prog.cellsOf 29 = 1 by kernel_rfl] using t6)
  obtain ⟨z7, q7, _, w7⟩ := DataW.trod_int Tryd.underlying29 (by simpa [show Tryd.prog.cellsOf 29 = 1 by kernel_rfl] using t7)
  obtain ⟨z8, q8, _, w8⟩ := DataW.trod_int Tryd.underlying3 (by simpa [show Tryd.prog.cellsOf 3 = 1 by kernel_rfl] using t8)
  obtain ⟨z9, q9, _, w9⟩ := DataW.trod_int Tryd.underlying3 (by simpa [show Tryd.prog.cellsOf 3 = 1 by kernel_rfl] using t9)
  obtain ⟨z10, q10, _, w10⟩ := DataW.trod_int Tryd.underlying26 (by simpa [show Tryd.prog.cellsOf 26 = 1 by kernel_rfl] using t10)
  obtain ⟨z11, q11, _, w11⟩ := DataW.trod_int Tryd.underlying3 (by simpa [show Tryd.prog.cellsOf 3 = 1 by kernel_rfl] using t11)
  obtain ⟨vp, ps, q12, hp, -⟩ := nums_of_trod Tryd.underlying33 Tryd.underlying3 (by kernel_rfl) (by simpa [show Tryd.prog.cellsOf 33 = 1 by kernel_rfl] using t12)
  obtain ⟨vo, os, q13, ho, wo⟩ := recs_of_trod Tryd.underlying34 Tryd.underlying105 (by kernel_rfl) ⟨rfl, rfl⟩ Tryd.underlying29 (by kernel_rfl) ⟨rfl, rfl⟩ Tryd.underlying32 (by kernel_rfl) Tryd.underlying21 (by kernel_rfl) (by simpa [show Tryd.prog.cellsOf 34 = 1 by kernel_rfl] using t13)
  obtain ⟨vv, vs, q14, hv, wv⟩ := nums_of_trod Tryd.underlying32 Tryd.underlying21 (by kernel_rfl) (by simpa [show Tryd.prog.cellsOf 32 = 1 by kernel_rfl] using t14)
  obtain ⟨vh, hs, q15, hh, wh⟩ := hits_of_trod Tryd.underlying35 Tryd.underlying40 (by kernel_rfl) ⟨rfl, rfl⟩ Tryd.underlying29 (by kernel_rfl) ⟨rfl, rfl⟩ Tryd.underlying29 (by kernel_rfl) ⟨rfl, rfl⟩ Tryd.underlying32 (by kernel_rfl) Tryd.underlying21 (by kernel_rfl) (by simpa [show Tryd.prog.cellsOf 35 = 1 by kernel_rfl] using t15)
  simp only [List.cons.injEq, and_true] at q0 q1 q2 q3 q4 q5 q6 q7 q8 q9 q10 q11 q12 q13 q14 q15
  subst q0 q1 q2 q3 q4 q5 q6 q7 q8 q9 q10 q11 q12 q13 q14 q15
  simp [Lit.wf, IntKind.min, IntKind.max, IntKind.signed, IntKind.bits] at w0 w1 w2 w3 w4 w5 w6 w7 w8 w9 w10 w11 wo wv
  exact ⟨⟨z0, z1, z2, z3, z4, z5, z6, z7, z8, z9, z10, z11, ps, os, vs, hs⟩, a12, a13, a14, a15, rfl, ⟨hp, ho.toF, hv, hh⟩, ⟨w0, w1, w2, w3, w4, w5, w6, w7, w8, w9, w10, w11, fun r hr => (wo r.1 r.2 hr).1, wv, wh⟩⟩

/-- an argument that is a note -/
theorem open_note {base : Nat} {v : Value} {d : DataW H} {ps : List MemPlace}
    (hok : Value.okWide Tryd.prog W .any base 53 v) (h : DataW.Trod enc Tryd.prog W 0 (fun _ => true) true 53 v d ps) :
    ∃ n vp vo vv vh, v = .agg (Nt.cells n vp vo vv vh) ∧ NoteV W (fun _ => True) n vp vo vv vh ∧ n.Fits := by
  obtain ⟨cs, rfl, -⟩ := okWide_struct Tryd.underlying53 hok
  obtain ⟨fuel, hf⟩ := h
  obtain ⟨n, vp, vo, vv, vh, hc, hn, hfit⟩ := note_of_trod hf
  exact ⟨n, vp, vo, vv, vh, by rw [show cs = _ from Array.ext' (by simpa [Value.cells] using hc)], hn, hfit⟩

end

end Go.Proofs.YtfmlhdikagogcaaDoor

namespace Go.Proofs.YtfmlhdikagogcaaDoor
open Go.ChangeShapes Go.WideShapes Go.ChangeAt Go.RowKit Go.Deep
set_option maxRecDepth 20000

/-- one call of a script -/
structure Og where
  act : Int
  frm : Int
  note : Nt
  stamp : Int
  mark : Int

def Og.cells (o : Og) (vp vo vv vh : Value) : List Value := .int .u8 o.act :: .int .i64 o.frm :: ((o.note.cells vp vo vv vh).toList ++ [.int .u64 o.stamp, .int .u64 o.mark])

structure Og.Fits (o : Og) : Prop where
  act : 0 ≤ o.act ∧ o.act ≤ 255
  frm : -9223372036854775808 ≤ o.frm ∧ o.frm ≤ 9223372036854775807
  note : o.note.Fits
  stamp : 0 ≤ o.stamp ∧ o.stamp ≤ 18446744073709551615
  mark : 0 ≤ o.mark ∧ o.mark ≤ 18446744073709551615

/-- a slice of calls reads so -/
def ScriptG (w : World) (v : Value) (l : List Og) : Prop :=
  ∃ p cap, v = .slice p l.length cap ∧ l.length ≤ cap ∧ cap ≤ 9223372036854775807 ∧ (p = none → cap = 0) ∧
    ∀ i (hi : i < l.length), ∃ b off vp vo vv vh, p = some ⟨b, off, none⟩ ∧ (∀ j u, (l[i].cells vp vo vv vh)[j]? = some u → w.cell? ⟨b, off + i * 20 + j, none⟩ = some u) ∧ NoteV w (fun _ => True) l[i].note vp vo vv vh

theorem NoteV.downto {w w' : World} {n : Nt} {vp vo vv vh : Value} {F : Nat → Prop} (h : NoteV w F n vp vo vv vh) (hb : Below w.heap.size w w') : NoteV w' F n vp vo vv vh := h.below hb

theorem ScriptG.below {w w' : World} {v : Value} {l : List Og} (h : ScriptG w v l) (hb : Below w.heap.size w w') : ScriptG w' v l := by
  obtain ⟨p, cap, hv, h1, h2, h3, h4⟩ := h
  refine ⟨p, cap, hv, h1, h2, h3, fun i hi => ?_⟩
  obtain ⟨b, off, vp, vo, vv, vh, hp, hc, hn⟩ := h4 i hi
  exact ⟨b, off, vp, vo, vv, vh, hp, fun j u hj => below_cells hb (hc j u hj), hn.below hb⟩

theorem ScriptG.elem {w : World} {p : Option Addr} {n cap : Nat} {l : List Og} (h : ScriptG w (.slice p n cap) l) {i : Nat} (hi : i < l.length) :
    ∃ b off vp vo vv vh, p = some ⟨b, off, none⟩ ∧ (∀ j u, (l[i].cells vp vo vv vh)[j]? = some u → w.cell? ⟨b, off + i * 20 + j, none⟩ = some u) ∧ NoteV w (fun _ => True) l[i].note vp vo vv vh := by
  obtain ⟨p', cap', hv, _, _, _, h⟩ := h
  simp only [Value.slice.injEq] at hv
  obtain ⟨rfl, _, _⟩ := hv
  exact h i hi

section
variable {H : Type} {enc : TypeId × Value → H} {W : World}

theorem cells_all {a : Addr} {n : Nat} {cs : List Value} (h : W.cells? 0 a n = some cs) : cs.length = n ∧ ∀ j, j < n → W.cell? (a.add j) = cs[j]? := by
  unfold World.cells? at h
  simp only [Nat.zero_le, if_true] at h
  exact ⟨by simpa using mapM_some_length h, fun j hj => mapM_some_get h j j (by simp [hj])⟩

theorem list20 {cs : List Value} (h : cs.length = 20) : ∃ a0 a1 c s m, cs = a0 :: a1 :: (c ++ [s, m]) ∧ c.length = 16 := by
  match cs, h with
  | [a0, a1, b0, b1, b2, b3, b4, b5, b6, b7, b8, b9, b10, b11, b12, b13, b14, b15, s, m], _ => exact ⟨a0, a1, [b0, b1, b2, b3, b4, b5, b6, b7, b8, b9, b10, b11, b12, b13, b14, b15], s, m, rfl, rfl⟩

theorem op_of_trod {fuel : Nat} {cs : List Value} {x : DataW H × List MemPlace} (hf : DataW.trod enc Tryd.prog W 0 (fun _ => true) true fuel 61 cs = some x) :
    ∃ o vp vo vv vh, cs = Og.cells o vp vo vv vh ∧ NoteV W (fun _ => True) o.note vp vo vv vh ∧ o.Fits := by
  obtain ⟨xs, m, -, -, hl, hlen, hfs⟩ := DataW.trod_struct Tryd.underlying61 hf
  rw [show Tryd.prog.cellsOf 61 = 20 by kernel_rfl] at hl
  obtain ⟨a0, a1, c, s, mk, rfl, hc⟩ := list20 hl
  have hx : xs.length = 5 := hlen
  have hin : ∀ i, i < 5 → ∃ y, xs[i]? = some y := fun i hi => ⟨xs[i], List.getElem?_eq_getElem (by omega)⟩
  obtain ⟨y0, hy0⟩ := hin 0 (by omega)
  have t0 := (hfs 0 _ rfl).trans hy0
  obtain ⟨y1, hy1⟩ := hin 1 (by omega)
  have t1 := (hfs 1 _ rfl).trans hy1
  obtain ⟨y2, hy2⟩ := hin 2 (by omega)
  have t2 := (hfs 2 _ rfl).trans hy2
  obtain ⟨y3, hy3⟩ := hin 3 (by omega)
  have t3 := (hfs 3 _ rfl).trans hy3
  obtain ⟨y4, hy4⟩ := hin 4 (by omega)
  have t4 := (hfs 4 _ rfl).trans hy4
  obtain ⟨z0, q0, _, w0⟩ := DataW.trod_int Tryd.underlying5 (by simpa [show Tryd.prog.cellsOf 5 = 1 by kernel_rfl] using t0)
  obtain ⟨z1, q1, _, w1⟩ := DataW.trod_int Tryd.underlying3 (by simpa [show Tryd.prog.cellsOf 3 = 1 by kernel_rfl] using t1)
  have e2 : ((a0 :: a1 :: (c ++ [s, mk])).drop 2).take 16 = c := by simp [hc]
  have e3 : ((a0 :: a1 :: (c ++ [s, mk])).drop 18).take 1 = [s] := by simp [List.drop_append, hc]
  have h17 : c.drop 17 = [] := List.drop_of_length_le (by omega)
  have e4 : ((a0 :: a1 :: (c ++ [s, mk])).drop 19).take 1 = [mk] := by simp [List.drop_append, hc, h17]
  have t2' : DataW.trod enc Tryd.prog W 0 (fun _ => true) true m 53 (((a0 :: a1 :: (c ++ [s, mk])).drop 2).take 16) = some y2 := by rw [← show Tryd.prog.cellsOf 53 = 16 by kernel_rfl]; exact t2
  have t3' : DataW.trod enc Tryd.prog W 0 (fun _ => true) true m 29 (((a0 :: a1 :: (c ++ [s, mk])).drop 18).take 1) = some y3 := by rw [← show Tryd.prog.cellsOf 29 = 1 by kernel_rfl]; exact t3
  have t4' : DataW.trod enc Tryd.prog W 0 (fun _ => true) true m 29 (((a0 :: a1 :: (c ++ [s, mk])).drop 19).take 1) = some y4 := by rw [← show Tryd.prog.cellsOf 29 = 1 by kernel_rfl]; exact t4
  rw [e2] at t2'
  rw [e3] at t3'
  rw [e4] at t4'
  obtain ⟨n, vp, vo, vv, vh, hcs, hn, hfit⟩ := note_of_trod t2'
  obtain ⟨z3, q3, _, w3⟩ := DataW.trod_int Tryd.underlying29 t3'
  obtain ⟨z4, q4, _, w4⟩ := DataW.trod_int Tryd.underlying29 t4'
  simp only [List.cons.injEq, and_true] at q0 q1 q3 q4
  subst q0 q1 q3 q4 hcs
  simp [Lit.wf, IntKind.min, IntKind.max, IntKind.signed, IntKind.bits] at w0 w1 w3 w4
  exact ⟨⟨z0, z1, n, z3, z4⟩, vp, vo, vv, vh, rfl, hn, ⟨w0, w1, hfit, w3, w4⟩⟩

/-- an argument that is a script -/
theorem open_scriptG {base : Nat} {v : Value} {d : DataW H} {ps : List MemPlace}
    (hok : Value.okWide Tryd.prog W .any base 58 v) (h : DataW.Trod enc Tryd.prog W 0 (fun _ => true) true 58 v d ps) :
    ∃ l, ScriptG W v l ∧ ∀ r ∈ l, r.Fits := by
  obtain ⟨a0, len0, cap0, rfl⟩ := okWide_slice Tryd.underlying58 hok
  obtain ⟨fuel, hf⟩ := h
  have hce : Tryd.prog.cellsOf 61 = 20 := by kernel_rfl
  rcases open_slice Tryd.underlying58 hf with ⟨hcs, _⟩ | ⟨a, len, cap, m, n, D, Pl, hcs, _, hl, hm, hmm, _, hel⟩
  · simp [Value.cells] at hcs
    obtain ⟨rfl, rfl, rfl⟩ := hcs
    exact ⟨[], ⟨none, 0, rfl, by simp, by simp, by simp, fun i hi => absurd hi (by simp)⟩, by simp⟩
  · simp only [if_true] at hmm
    subst hmm
    rw [hce] at hel
    have each : ∀ i, i < len → ∃ o : Og, ∃ vp vo vv vh, (∀ j u, (o.cells vp vo vv vh)[j]? = some u → W.cell? (a.add (i * 20 + j)) = some u) ∧ NoteV W (fun _ => True) o.note vp vo vv vh ∧ o.Fits := by
      intro i hi
      obtain ⟨cs', hcs', htr⟩ := hel i (by omega)
      obtain ⟨hlen, hg⟩ := cells_all hcs'
      obtain ⟨o, vp, vo, vv, vh, rfl, hn, hfit⟩ := op_of_trod htr
      refine ⟨o, vp, vo, vv, vh, fun j u hj => ?_, hn, hfit⟩
      have hj20 : j < 20 := by rw [← hlen]; exact (List.getElem?_eq_some_iff.1 hj).1
      rw [← hj, ← hg j hj20, add_add]
    obtain ⟨l, hll, hp⟩ := exists_list len each
    simp [Value.cells] at hcs
    obtain ⟨rfl, rfl, rfl⟩ := hcs
    refine ⟨l, ⟨some a, cap0, by rw [hll], by omega, by simpa [maxLen] using hm, by simp, fun i hi => ?_⟩, fun o ho => ?_⟩
    · obtain ⟨vp, vo, vv, vh, hc, hn, _⟩ := hp i hi
      obtain ⟨_, _, _, _, h0, _⟩ := hp 0 (by omega)
      have h00 := h0 0 _ rfl
      obtain ⟨b, off, spot⟩ := a
      obtain rfl : spot = none := by
        simpa [Addr.add] using World.cell?_spot h00
      refine ⟨b, off, vp, vo, vv, vh, rfl, fun j u hj => ?_, hn⟩
      have := hc j u hj
      rw [Addr.add_lit, ← Nat.add_assoc] at this
      exact this
    · obtain ⟨i, hi, rfl⟩ := List.mem_iff_getElem.1 ho
      obtain ⟨_, _, _, _, _, _, hfit⟩ := hp i hi
      exact hfit

end

end Go.Proofs.YtfmlhdikagogcaaDoor

namespace Go.Proofs.YtfmlhdikagogcaaDoor
open Go.RowKit
set_option maxRecDepth 20000

theorem Mod.of_grown {w w' : World} {mb : Nat} (h : w.grownBy w' (some mb)) : Mod (fun k => k = mb) w w' :=
  (Mod.refl (fun k => k = mb) w).grown h (fun k e => .inl (Option.some.inj e).symm)

theorem GIn.other {w w' : World} {B c mb : Nat} {F R : Nat → Prop} {g : Gz} {lv : Value} {Q : List Qp} (h : GIn w B c F R g lv Q) (hm : Mod (fun k => k = mb) w w') (hF : ¬ F mb) (hR : ¬ R mb) : GIn w' B c F R g lv Q := by
  have hf : ∀ k, F k → w'.heap[k]? = w.heap[k]? := fun k hk => hm.block k (h.low k hk).2 (fun e => hF (e ▸ hk))
  have hr : Agree R w w' := fun k hk => hm.block k (h.apart k hk).1 (fun e => hR (e ▸ hk))
  exact ⟨(hf c h.here).trans h.obj, own_agree h.row (fun k e => hf k (h.lvF k e).1), h.len, fun i h1 h2 => (h.each i h1 h2).agree hr (hf _ (h.mbF _ (List.getElem_mem h1)).1), h.bs, h.mbs, h.lvF, h.mbF, h.here, fun k hk => ⟨(h.low k hk).1, Nat.lt_of_lt_of_le (h.low k hk).2 hm.size⟩, fun k hk => ⟨Nat.lt_of_lt_of_le (h.apart k hk).1 hm.size, (h.apart k hk).2⟩⟩

/-- the gather, and a map of open questions apart from it -/
def OState (W0 : World) (c mb : Nat) (g : Gz) (L : List KV) (w : World) : Prop :=
  ∃ F R : Nat → Prop, GAt w W0.heap.size c F R g ∧ ¬ F mb ∧ ¬ R mb ∧ MapAt w pairV mb L ∧ W0.heap.size ≤ mb ∧ Below W0.heap.size W0 w

theorem OState.below {W0 w w' : World} {c mb : Nat} {g : Gz} {L : List KV} (h : OState W0 c mb g L w) (hb : Below w.heap.size w w') : OState W0 c mb g L w' := by
  obtain ⟨F, R, hG, hF, hR, hM, hB, hW⟩ := h
  exact ⟨F, R, hG.below hb, hF, hR, hM.kept (hb.block mb hM.lt), hB, hW.trans (hb.mono hW.size)⟩

theorem OState.lt {W0 w : World} {c mb : Nat} {g : Gz} {L : List KV} (h : OState W0 c mb g L w) : mb < w.heap.size := by
  obtain ⟨F, R, hG, hF, hR, hM, hB, hW⟩ := h
  exact hM.lt

theorem OState.map {W0 w : World} {c mb : Nat} {g : Gz} {L : List KV} (h : OState W0 c mb g L w) : MapAt w pairV mb L := by
  obtain ⟨F, R, hG, hF, hR, hM, hB, hW⟩ := h
  exact hM

theorem OState.since {W0 w : World} {c mb : Nat} {g : Gz} {L : List KV} (h : OState W0 c mb g L w) : Below W0.heap.size W0 w := by
  obtain ⟨F, R, hG, hF, hR, hM, hB, hW⟩ := h
  exact hW

theorem OState.has {W0 w : World} {c mb : Nat} {g : Gz} {L : List KV} (h : OState W0 c mb g L w) : GHas w W0.heap.size c g := by
  obtain ⟨F, R, hG, hF, hR, hM, hB, hW⟩ := h
  exact ⟨F, R, hG⟩

/-- the map is written -/
theorem OState.put {W0 w w' : World} {c mb : Nat} {g : Gz} {L L' : List KV} (h : OState W0 c mb g L w) (hm : MapAt w' pairV mb L') (hg : w.grownBy w' (some mb)) : OState W0 c mb g L' w' := by
  obtain ⟨F, R, ⟨lv, Q, hG⟩, hF, hR, hM, hB, hW⟩ := h
  exact ⟨F, R, ⟨lv, Q, hG.other (Mod.of_grown hg) hF hR⟩, hF, hR, hm, hB, hW.grown hg hW.size (fun b e => (Option.some.inj e) ▸ hB)⟩

theorem NoteV.one16 {w : World} {F : Nat → Prop} {n : Nt} {vp vo vv vh : Value} (h : NoteV w F n vp vo vv vh) : (n.cells vp vo vv vh).all (·.oneCell') = true := by
  obtain ⟨p0, q0, rfl, -, -, -, -⟩ := h.parts.slice
  obtain ⟨p1, q1, rfl, -, -, -, -⟩ := id h.ops
  obtain ⟨p2, q2, rfl, -, -, -, -⟩ := h.vec.slice
  obtain ⟨p3, q3, rfl, -, -, -, -⟩ := id h.hits
  simp [Nt.cells, Value.oneCell']

theorem MailF.oneEach {w : World} {F : Nat → Prop} {rs : List Mv} (h : MailF w F rs) : ∀ r ∈ rs, r.cells.toArray.all (·.oneCell') = true := fun r hr => by
  have := (h r hr).read.one16
  rw [Array.all_eq_true_iff_forall_mem] at this ⊢
  intro u hu
  simp only [Mv.cells, List.mem_toArray, List.mem_cons, Array.mem_toList_iff] at hu
  rcases hu with rfl | hu
  · rfl
  · exact this u hu

/-- what a call told: the list's row, apart from the map -/
def ToldAt (W0 : World) (c mb : Nat) (g' : Gz) (L : List KV) (l : List (Int × Nt)) (w : World) (v : Value) (w' : World) : Prop :=
  ∃ rs : List Mv, w'.ownsRow w.heap.size 44 17 v rs.length (flatM rs) ∧ rs.map Mv.says = l ∧ (∀ r ∈ rs, r.cells.toArray.all (·.oneCell') = true) ∧ OState W0 c mb g' L w'

/-- a call of the gather's -/
theorem GTold.once {W0 w w' : World} {c mb : Nat} {F R E : Nat → Prop} {g' : Gz} {L : List KV} {l : List (Int × Nt)} {r : Ending} (h : GTold w W0.heap.size c F R E l g' r w') (hF : ¬ F mb) (hR : ¬ R mb) (hE : ¬ E mb) (hM : MapAt w pairV mb L) (hB : W0.heap.size ≤ mb) (hW : Below W0.heap.size W0 w) (hl : ∀ k, F k → W0.heap.size ≤ k) :
    ∃ v, r = .returned v ∧ ToldAt W0 c mb g' L l w v w' := by
  have hb := h.below hW.size hl
  obtain ⟨v, rs, G, F', R', rfl, ho, hs, hmf, -, -, hG, hm, hF', hR'⟩ := h
  have hlt := hM.lt
  exact ⟨v, rfl, rs, ho, hs, hmf.oneEach, F', R', hG, fun h => by rcases hF' mb h with h | h; exact hF h; omega, fun h => by rcases hR' mb h with h | h | h; exact hR h; exact hE h; omega, hM.kept (hm.block mb hlt hF), hB, hW.trans hb⟩

theorem askO {W0 wE w : World} {c mb : Nat} {g : Gz} {L : List KV} (h0 : OState W0 c mb g L wE) (hbE : Below wE.heap.size wE w) (hT : Tab W0) (hok : GOk g) (E : Nat → Prop) (n : Nt) (vp vo vv vh : Value) (frm stamp mark : Int) (hv : NoteV w E n vp vo vv vh) (hkd : 0 ≤ n.kind ∧ n.kind ≤ 255) (hlen : n.parts.length ≤ 1000000 ∧ n.ops.length ≤ 1000000 ∧ n.vec.length ≤ 1000000 ∧ n.hits.length ≤ 1000000) :
    Calls Tryd.prog 11 #[.pointer (some ⟨c, 0, none⟩), .int .i64 frm, .agg (n.cells vp vo vv vh), .int .u64 stamp, .int .u64 mark] w fun e w' => (∃ v, e = .returned v ∧ ToldAt W0 c mb (askZ g frm n stamp mark).2 L (askZ g frm n stamp mark).1 w v w') ∧ ∀ k, wE.heap.size ≤ k → k < w.heap.size → w'.heap[k]? = w.heap[k]? := by
  obtain ⟨F, R, hG, hF, hR, hM, hB, hW⟩ := h0
  have hGw := hG.below hbE
  have hWw := hW.trans (hbE.mono hW.size)
  refine (ask W0.heap.size c F R E g n vp vo vv vh frm stamp mark w (hT.below hWw) hGw hWw.size hok hv hkd hlen).mono fun e w' hh => ⟨hh.once hF hR (fun h => h) (hM.kept (hbE.block mb hM.lt)) hB hWw (fun k hk => (hG.low k hk).1), fun k h1 h2 => ?_⟩
  obtain ⟨v, rs, G, F', R', -, -, -, -, -, -, -, hm, -⟩ := hh
  exact hm.block k h2 (fun hf => by have := (hG.low k hf).2; omega)

theorem hearO {W0 w : World} {c mb : Nat} {g : Gz} {L : List KV} (hT : Tab W0) (hok : GOk g) (E : Nat → Prop) (n : Nt) (vp vo vv vh : Value) (frm : Int) (hv : NoteV w E n vp vo vv vh) (hkd : 0 ≤ n.kind ∧ n.kind ≤ 255) (hlen : n.parts.length ≤ 1000000 ∧ n.ops.length ≤ 1000000 ∧ n.vec.length ≤ 1000000 ∧ n.hits.length ≤ 1000000)
    (wE : World) (hEl : ∀ k, E k → wE.heap.size ≤ k ∧ k < w.heap.size) (h0 : OState W0 c mb g L wE) (hbE : Below wE.heap.size wE w) :
    Calls Tryd.prog 13 #[.pointer (some ⟨c, 0, none⟩), .int .i64 frm, .agg (n.cells vp vo vv vh)] w fun e w' => ∃ v, e = .returned v ∧ ToldAt W0 c mb (hearZ g frm n).2 L (hearZ g frm n).1 w v w' := by
  obtain ⟨F, R, hG, hF, hR, hM, hB, hW⟩ := h0
  have hlt := hM.lt
  have hGw := hG.below hbE
  have hWw := hW.trans (hbE.mono hW.size)
  exact (hear W0.heap.size c F R E g n vp vo vv vh frm w (hT.below hWw) hGw hWw.size hok hv hkd hlen (fun k hk => ⟨(hEl k hk).2, fun hf => by have := (hG.low k hf).2; have := (hEl k hk).1; omega⟩)).mono fun e w' hh => hh.once hF hR (fun h => by have := (hEl mb h).1; omega) (hM.kept (hbE.block mb hlt)) hB hWw (fun k hk => (hG.low k hk).1)

theorem quitO {W0 w : World} {c mb : Nat} {g : Gz} {L : List KV} (h : OState W0 c mb g L w) (hok : GOk g) :
    Calls Tryd.prog 16 #[.pointer (some ⟨c, 0, none⟩)] w fun e w' => ∃ v, e = .returned v ∧ ToldAt W0 c mb {g with l := []} L (quitL g) w v w' := by
  obtain ⟨F, R, hG, hF, hR, hM, hB, hW⟩ := h
  exact (quit W0.heap.size c F R g w hG hW.size (by have := hok.most; omega)).mono fun e w' hh => hh.once hF hR (fun h => h) hM hB hW (fun k hk => (hG.low k hk).1)

theorem wakeO {W0 w : World} {c mb : Nat} {g : Gz} {L : List KV} (h : OState W0 c mb g L w) (hok : GOk g) :
    Calls Tryd.prog 21 #[.pointer (some ⟨c, 0, none⟩)] w fun e w' => ∃ v, e = .returned v ∧ ToldAt W0 c mb g L (wakeL g) w v w' := by
  obtain ⟨F, R, hG, hF, hR, hM, hB, hW⟩ := h
  exact (wake W0.heap.size c F R g w hG hW.size hok).mono fun e w' hh => hh.once hF hR (fun h => h) hM hB hW (fun k hk => (hG.low k hk).1)

theorem lenO {W0 w : World} {c mb : Nat} {g : Gz} {L : List KV} (h : OState W0 c mb g L w) :
    Calls Tryd.prog 15 #[.pointer (some ⟨c, 0, none⟩)] w fun e w' => e = .returned (.int .i64 g.l.length) ∧ w = w' := by
  obtain ⟨F, R, hG, hF, hR, hM, hB, hW⟩ := h
  exact glen W0.heap.size c F R g w hG

/-- it begins -/
theorem OState.start {W0 w1 : World} {c : Nat} {g : Gz} (h : GHas w1 W0.heap.size c g) (hb : Below W0.heap.size W0 w1) : OState W0 c w1.heap.size g [] (w1.alloc (.map #[] 0)) := by
  obtain ⟨F, R, hG⟩ := h
  have hba := (Below.refl w1.heap.size w1).alloc (Nat.le_refl _) (.map #[] 0)
  have hlow := hG.low
  obtain ⟨lv, Q, hI⟩ := id hG
  exact ⟨F, R, hG.below hba, fun h => by have := (hlow _ h).2; omega, fun h => by have := (hI.apart _ h).1; omega, MapAt.made w1, hb.size, hb.trans (hba.mono hb.size)⟩

end Go.Proofs.YtfmlhdikagogcaaDoor
