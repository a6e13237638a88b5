/-
  graph's laws: the program's graph alone, told by the document's nodes and edges; the document's example.
  graph's laws: the document's example.
  How a law's contract closes its given row: the answer true, each argument as it read, nothing old turned.
-/
import Derived.Test.YtdbeekdnehojnaaJ33
import Derived.Test.YtdbeekdnehojnaaJ01
import Derived.ProofKit
namespace Go.Proofs.Ytdbeekdnehojnaa
open Go.RowKit Go.ChangeMaps

/-- the program's graph, of the call's own, is the document's -/
structure GP (B p m : Nat) (Q : Gr) (N : List Int) (E : Eg) (w : World) : Prop where
  g : GrAt w p m Q
  rel : Rel Q N E
  low : B ≤ p ∧ B ≤ m ∧ ∀ q ∈ Q, B ≤ q.2.1
  big : B ≤ w.heap.size

theorem GS.gp {B p m c : Nat} {Q : Gr} {N : List Int} {E : Eg} {w : World} (h : GS B p m c Q N E w) : GP B p m Q N E w := ⟨h.g, h.rel, h.low, h.big⟩

theorem GP.below {B p m : Nat} {Q : Gr} {N : List Int} {E : Eg} {w w' : World} (h : GP B p m Q N E w) (hb : Below w.heap.size w w') : GP B p m Q N E w' :=
  ⟨h.g.kept fun k hk => hb.block k hk, h.rel, h.low, Nat.le_trans h.big hb.size⟩

theorem GP.shut {B p m : Nat} {Q : Gr} {N : List Int} {E : Eg} {w : World} (h : GP B p m Q N E w) : ShutQ Q := h.rel.shut h.g.keys

theorem GP.len {B p m : Nat} {Q : Gr} {N : List Int} {E : Eg} {w : World} (h : GP B p m Q N E w) : Q.length = N.length := by
  have h1 := nodup_le h.g.keys fun x hx => (h.rel.keys x).1 hx
  have h2 := nodup_le (sorted_nodup h.rel.sorted) fun x hx => (h.rel.keys x).2 hx
  simp only [List.length_map] at h1 h2
  omega

theorem GP.to {B p m : Nat} {Q Q' : Gr} {N : List Int} {E E' : Eg} {w w' : World} (h : GP B p m Q N E w) (hn : SameN Q Q') (hr : Rel Q' N E') (hg : GrAt w' p m Q') (hm : Mod (BlocksOf Q) w w') : GP B p m Q' N E' w' ∧ Mod (Turn w B) w w' := by
  refine ⟨⟨hg, hr, ⟨h.low.1, h.low.2.1, fun q hq => ?_⟩, Nat.le_trans h.big hm.size⟩, hm.mono fun j _ hf => ⟨by obtain ⟨q, hq, e⟩ := hf; rw [e]; exact h.low.2.2 q hq, .inl (h.g.blocks_map j hf)⟩⟩
  have : q.2.1 ∈ Q'.map (fun q => q.2.1) := List.mem_map_of_mem (f := fun q => q.2.1) hq
  rw [hn.1, List.mem_map] at this
  obtain ⟨r, hr, e⟩ := this
  rw [← e]; exact h.low.2.2 r hr

theorem GP.bind {B p m : Nat} {Q : Gr} {N : List Int} {E : Eg} {w : World} (h : GP B p m Q N E w) (x y : Int) :
    Calls Try.prog 16 #[.pointer (some ⟨p, 0, none⟩), .int .u64 x, .int .u64 y] w fun e w1 => e = .returned (.int .i64 (bindD N E x y).1) ∧ (∃ Q', GP B p m Q' N (bindD N E x y).2 w1) ∧ Mod (Turn w B) w w1 := by
  refine (gBind w p m Q x y h.g).mono ?_
  rintro e w1 ⟨rfl, hg, hm⟩
  obtain ⟨h1, h2, h3⟩ := h.rel.bind x y
  have := h.to h3 h2 hg hm
  exact ⟨by rw [h1], ⟨_, this.1⟩, this.2⟩

theorem GP.link {B p m : Nat} {Q : Gr} {N : List Int} {E : Eg} {w : World} (h : GP B p m Q N E w) (x y : Int) :
    Calls Try.prog 27 #[.pointer (some ⟨p, 0, none⟩), .int .u64 x, .int .u64 y] w fun e w1 => e = .returned (.int .i64 (linkD N E x y).1) ∧ (∃ Q', GP B p m Q' N (linkD N E x y).2 w1) ∧ Mod (Turn w B) w w1 := by
  refine (gLink w p m Q x y h.g).mono ?_
  rintro e w1 ⟨rfl, hg, hm⟩
  obtain ⟨h1, h2, h3⟩ := h.rel.link x y
  have := h.to h3 h2 hg hm
  exact ⟨by rw [h1], ⟨_, this.1⟩, this.2⟩

theorem GP.cut {B p m : Nat} {Q : Gr} {N : List Int} {E : Eg} {w : World} (h : GP B p m Q N E w) (x y : Int) :
    Calls Try.prog 12 #[.pointer (some ⟨p, 0, none⟩), .int .u64 x, .int .u64 y] w fun e w1 => e = .returned (.int .i64 (cutD N E x y).1) ∧ (∃ Q', GP B p m Q' N (cutD N E x y).2 w1) ∧ Mod (Turn w B) w w1 := by
  refine (gCut w p m Q x y h.g).mono ?_
  rintro e w1 ⟨rfl, hg, hm⟩
  obtain ⟨h1, h2, h3⟩ := h.rel.cut x y
  have := h.to h3 h2 hg hm
  exact ⟨by rw [h1], ⟨_, this.1⟩, this.2⟩

/-- one node more -/
def addD (N : List Int) (x : Int) : Int × List Int := if x ∈ N then (7, N) else (0, putZ N x)

theorem GP.add {B p m : Nat} {Q : Gr} {N : List Int} {E : Eg} {w : World} (h : GP B p m Q N E w) (x : Int) :
    Calls Try.prog 18 #[.pointer (some ⟨p, 0, none⟩), .int .u64 x] w fun e w1 => e = .returned (.int .i64 (addD N x).1) ∧ (∃ Q', GP B p m Q' (addD N x).2 E w1) ∧ Mod (Turn w B) w w1 := by
  refine (gAdd w p m Q x h.g).mono ?_
  rintro e w1 (⟨hh, rfl, rfl⟩ | ⟨hh, rfl, hg, hm⟩)
  · have hx : x ∈ N := (h.rel.keys x).1 (hasB_iff.1 hh)
    have ha : addD N x = (7, N) := by unfold addD; rw [if_pos hx]
    rw [ha]
    exact ⟨rfl, ⟨Q, h⟩, Mod.refl _ _⟩
  · have hx : x ∉ N := fun hx => by rw [hasB_iff.2 ((h.rel.keys x).2 hx)] at hh; cases hh
    have ha : addD N x = (0, putZ N x) := by unfold addD; rw [if_neg hx]
    rw [ha]
    refine ⟨rfl, ⟨_, ⟨hg, h.rel.add hx _, ⟨h.low.1, h.low.2.1, fun q hq => ?_⟩, Nat.le_trans h.big hm.size⟩⟩, hm.mono fun j hj e => ⟨e ▸ h.low.2.1, .inl (e ▸ h.g.outer.isMap)⟩⟩
    rcases List.mem_append.1 hq with hq | hq
    · exact h.low.2.2 q hq
    · rw [List.mem_singleton.1 hq]; exact h.big

theorem GP.near {B p m : Nat} {Q : Gr} {N : List Int} {E : Eg} {w : World} (h : GP B p m Q N E w) (hl : N.length ≤ 100000) (x : Int) :
    Calls Try.prog 21 #[.pointer (some ⟨p, 0, none⟩), .int .u64 x] w (NewL w (nearD E x false)) := by
  have := gNear w p m Q x h.g (near_len h.g h.shut (by rw [h.len]; omega))
  rw [h.rel.near h.g.inn] at this
  exact this

theorem GP.soft {B p m : Nat} {Q : Gr} {N : List Int} {E : Eg} {w : World} (h : GP B p m Q N E w) (hl : N.length ≤ 100000) (x : Int) :
    Calls Try.prog 22 #[.pointer (some ⟨p, 0, none⟩), .int .u64 x] w (NewL w (nearD E x true)) := by
  have := gSoft w p m Q x h.g (near_len h.g h.shut (by rw [h.len]; omega))
  rw [h.rel.soft h.g.inn] at this
  exact this

theorem gReach_no (w : World) (p m : Nat) (Q : Gr) (k : Int) (h : GrAt w p m Q) (hb : hasB Q k = false) :
    Calls Try.prog 15 #[.pointer (some ⟨p, 0, none⟩), .int .u64 k] w fun e w' => e = .returned (.slice none 0 0) ∧ w' = w := by
  have cH := gHas w p m Q k h
  rw [hb] at cH
  clear h
  go_enter Try.func15, Try.ntmps15
  go_wp2_with (go_at_call 25; refine cH.mono ?_; rintro e w' ⟨rfl, rfl⟩)
  go_ret
  exact ⟨rfl, rfl⟩

theorem gReach_nil (w : World) (k : Int) :
    Calls Try.prog 15 #[.pointer none, .int .u64 k] w fun e w' => e = .returned (.slice none 0 0) ∧ w' = w := by
  have cH := gHas_nil w k
  go_enter Try.func15, Try.ntmps15
  go_wp2_with (go_at_call 25; refine cH.mono ?_; rintro e w' ⟨rfl, rfl⟩)
  go_ret
  exact ⟨rfl, rfl⟩

theorem NewL.nil {w : World} {e : Ending} (he : e = .returned (.slice none 0 0)) {w' : World} (hw : w' = w) : NewL w [] e w' := by
  subst hw
  exact ⟨_, he, ⟨rfl, .inl ⟨rfl, rfl⟩⟩, Below.refl _ _⟩

theorem GP.reach {B p m : Nat} {Q : Gr} {N : List Int} {E : Eg} {w : World} (h : GP B p m Q N E w) (hl : N.length ≤ 100000) (x : Int) :
    Calls Try.prog 15 #[.pointer (some ⟨p, 0, none⟩), .int .u64 x] w (NewL w (reachD N E x false)) := by
  unfold reachD
  cases hb : hasB Q x with
  | true =>
    rw [if_pos ((h.rel.keys x).1 (hasB_iff.1 hb))]
    refine (gReach w p m Q x h.g hb h.shut (by rw [h.len]; omega)).mono ?_
    rintro e w' ⟨L, hF, hN⟩
    rw [h.rel.reach hF] at hN
    exact hN
  | false =>
    rw [if_neg (fun hx => by rw [hasB_iff.2 ((h.rel.keys x).2 hx)] at hb; cases hb)]
    exact (gReach_no w p m Q x h.g hb).mono fun e w' hh => NewL.nil hh.1 hh.2

theorem GP.has {B p m : Nat} {Q : Gr} {N : List Int} {E : Eg} {w : World} (h : GP B p m Q N E w) (x : Int) :
    Calls Try.prog 25 #[.pointer (some ⟨p, 0, none⟩), .int .u64 x] w fun e w' => e = .returned (.bool (decide (x ∈ N))) ∧ w' = w := by
  have := gHas w p m Q x h.g
  rwa [show hasB Q x = decide (x ∈ N) from by rw [Bool.eq_iff_iff, hasB_iff, h.rel.keys, decide_eq_true_eq]] at this

theorem GP.keys {B p m : Nat} {Q : Gr} {N : List Int} {E : Eg} {w : World} (h : GP B p m Q N E w) (hl : N.length ≤ 100000) :
    Calls Try.prog 17 #[.pointer (some ⟨p, 0, none⟩)] w (NewL w N) := by
  have := gKeys w p m Q h.g (by rw [h.len]; omega)
  rw [sorted_ext (sortZ_sorted h.g.keys) h.rel.sorted fun x => by rw [mem_sortZ, h.rel.keys]] at this
  exact this

theorem GP.length {B p m : Nat} {Q : Gr} {N : List Int} {E : Eg} {w : World} (h : GP B p m Q N E w) :
    Calls Try.prog 20 #[.pointer (some ⟨p, 0, none⟩)] w fun e w' => e = .returned (.int .i64 N.length) ∧ w' = w := by
  have := gLen w p m Q h.g
  rwa [h.len] at this

/-- a new graph of these nodes -/
theorem mem_addAll0 {xs : List Int} {x : Int} : x ∈ addAll [] xs ↔ x ∈ xs := by rw [mem_addAll]; simp

theorem GP.new (w : World) (xs N : List Int) (v : Value) (hN : Nums w .u64 v xs) (hb : LiesIn (fun b => b < w.heap.size) v xs.length) (hn : xs.length ≤ 1000000) (hs : N.Pairwise (· < ·)) (hm : ∀ x, x ∈ xs ↔ x ∈ N) :
    Calls Try.prog 10 #[v] w fun e w' => ∃ p m Q, e = .returned (.pointer (some ⟨p, 0, none⟩)) ∧ GP w.heap.size p m Q N [] w' ∧ Below w.heap.size w w' := by
  refine (gNew w xs v hN hb hn).mono ?_
  rintro e w' ⟨p, m, Q, rfl, hG, hB⟩
  exact ⟨p, m, Q, rfl, ⟨hG.at_, Rel.start hs (fun k => by rw [hG.nodes, mem_addAll0, hm]) (fun q hq => (hG.bare q hq).1), ⟨hG.base.1, hG.base.2, fun q hq => (hG.bare q hq).2⟩, hB.size⟩, hB⟩

end Go.Proofs.Ytdbeekdnehojnaa

namespace Go.Proofs.Ytdbeekdnehojnaa
open Go.RowKit Go.ChangeMaps

theorem ex_lists : bindD [1, 2, 3] [] 1 2 = (0, [(1, 2, true)]) ∧ linkD [1, 2, 3] [(1, 2, true)] 2 3 = (0, [(1, 2, true), (2, 3, false)]) ∧ reachD [1, 2, 3] [(1, 2, true), (2, 3, false)] 1 false = [1, 2, 3] ∧
    cutD [1, 2, 3] [(1, 2, true), (2, 3, false)] 2 3 = (0, [(1, 2, true)]) ∧ cutD [1, 2, 3] [(1, 2, true)] 1 2 = (10, [(1, 2, true)]) ∧ reachD [1, 2, 3] [(1, 2, true)] 1 false = [1, 2] := by decide +kernel

set_option maxRecDepth 100000 in
set_option maxHeartbeats 4000000 in
theorem lawAwake (w : World) : Calls Try.prog 9 #[] w fun e w' => e = .returned (.bool true) ∧ Below w.heap.size w w' := by
  obtain ⟨e1, e2, e3, e4, e5, e6⟩ := ex_lists
  obtain ⟨W1, hW1⟩ : ∃ W1, W1 = w.alloc (.cells #[.int .u64 1, .int .u64 2, .int .u64 3] 31) := ⟨_, rfl⟩
  have hb1 : Below w.heap.size w W1 := by rw [hW1]; exact (Below.refl _ w).alloc (Nat.le_refl _) _
  have hx : W1.heap[w.heap.size]? = some (.cells #[.int .u64 1, .int .u64 2, .int .u64 3] 31 (0, 0)) := by rw [hW1]; exact heap_alloc_new _ _
  have hN : Nums W1 .u64 (.slice (some ⟨w.heap.size, 0, none⟩) 3 3) [1, 2, 3] := Nums.mk (xs := [1, 2, 3]) (by simp) (by simp) (by simp) (fun i hi => ⟨w.heap.size, 0, rfl, by
    have hi3 : i < 3 := hi
    rw [Nat.zero_add]
    simp only [World.cell?, hx]
    match i, hi3 with
    | 0, _ => rfl
    | 1, _ => rfl
    | 2, _ => rfl⟩)
  have cN := Lib.hid (GP.new W1 [1, 2, 3] [1, 2, 3] _ hN (fun _ b hb => by simp only [Value.ownBlock, Option.some.injEq] at hb; rw [← hb]; exact lt_block hx) (by simp) (by decide) (fun _ => Iff.rfl))
  have HW := Lib.hid hW1
  have HB1 := Lib.hid hb1
  clear hW1 hb1 hN hx
  go_enter Try.func9, Try.ntmps9
  go_wp2_with fail
  rw [← HW.out]
  with_reducible refine cN.out.mono ?_
  rintro e w2 ⟨p, m, Q, rfl, hG, hb2⟩
  have hB : W1.heap.size ≤ w2.heap.size := hG.big
  have HB2 := Lib.hid (HB1.out.trans (hb2.mono HB1.out.size))
  have c1 := hG.bind 1 2
  rw [e1] at c1
  clear hb2 hG
  go_wp2_with fail
  with_reducible refine c1.mono ?_
  rintro e w3 ⟨rfl, ⟨Q3, hG⟩, hm3⟩
  have B3 := Lib.hid (Turn.low hm3 hB)
  have c2 := hG.link 2 3
  rw [e2] at c2
  clear hG hm3
  go_wp2_with fail
  with_reducible refine c2.mono ?_
  rintro e w4 ⟨rfl, ⟨Q4, hG⟩, hm4⟩
  have B4 := Lib.hid (B3.out.trans (Turn.low hm4 (Nat.le_trans hB B3.out.size)))
  have c3 := hG.reach (by simp) 1
  rw [e3] at c3
  have HG := Lib.hid hG
  clear hG hm4
  go_wp2_with fail
  with_reducible refine c3.mono ?_
  rintro e w5 ⟨v5, rfl, h5, hb5⟩
  obtain ⟨p5, n5, k5, rfl⟩ := own_form h5
  obtain rfl : n5 = 3 := own_len h5
  have hB4 : W1.heap.size ≤ w4.heap.size := Nat.le_trans hB B4.out.size
  have G5 := HG.out.below hb5
  have B5 := Lib.hid (B4.out.trans (hb5.mono hB4))
  have c4 := G5.cut 2 3
  rw [e4] at c4
  clear h5 hb5 G5
  go_wp2_with fail
  with_reducible refine c4.mono ?_
  rintro e w6 ⟨rfl, ⟨Q6, hG⟩, hm6⟩
  have B6 := Lib.hid (B5.out.trans (Turn.low hm6 (Nat.le_trans hB B5.out.size)))
  have c5 := hG.cut 1 2
  rw [e5] at c5
  clear hG hm6
  go_wp2_with fail
  with_reducible refine c5.mono ?_
  rintro e w7 ⟨rfl, ⟨Q7, hG⟩, hm7⟩
  have B7 := Lib.hid (B6.out.trans (Turn.low hm7 (Nat.le_trans hB B6.out.size)))
  have c6 := hG.reach (by simp) 1
  rw [e6] at c6
  have hB7 : W1.heap.size ≤ w7.heap.size := Nat.le_trans hB B7.out.size
  clear hG hm7
  go_wp2_with fail
  with_reducible refine c6.mono ?_
  rintro e w8 ⟨v8, rfl, h8, hb8⟩
  obtain ⟨p8, n8, k8, rfl⟩ := own_form h8
  obtain rfl : n8 = 2 := own_len h8
  have B8 := Lib.hid (B7.out.trans (hb8.mono hB7))
  clear h8 hb8
  go_wp2_with fail
  go_ret
  exact ⟨rfl, HB2.out.trans (B8.out.mono HB1.out.size)⟩

end Go.Proofs.Ytdbeekdnehojnaa

namespace Go.Proofs.Ytdbeekdnehojnaa
open Go.ChangeShapes Go.WideShapes Go.ChangeAt Go.RowKit

theorem own : ownKnob Try.prog.godebug = none := by kernel_rfl
theorem laidOut : laidOutB Try.prog = true := by kernel_rfl

/-- a law's contract: whatever the world, it answers true, and nothing that was there has turned -/
def Law (f : FuncId) (args : Array Value) (w : World) : Prop := Calls Try.prog f args w fun e w' => e = .returned (.bool true) ∧ Below w.heap.size w w'

theorem trodAll_below {H : Type} {enc : TypeId × Value → H} {W W' : World} (hb : Below W.heap.size W W') : ∀ (ts : List TypeId) (vs : List Value) (ds : List (DataW H)) (ps : List MemPlace),
    (∀ t ∈ ts, Try.prog.readableRec t = true ∧ t < Try.prog.types.size) → DataW.TrodAll enc Try.prog W 0 (fun _ => true) true ts vs ds ps → (∀ x ∈ ps, x.block < W.heap.size) →
    DataW.TrodAll enc Try.prog W' 0 (fun b => decide (b < W.heap.size)) true ts vs ds ps
  | [], [], [], _, _, h, _ => h
  | t :: ts, v :: vs, d :: ds, ps, hr, h, hlt => by
    obtain ⟨p, q, h1, h2, rfl⟩ := h
    have ht := hr t (by simp)
    exact ⟨p, q, Below.trod laidOut ht.1 ht.2 h1 hb fun x hx => hlt x (by simp [hx]), trodAll_below hb ts vs ds q (fun t' ht' => hr t' (by simp [ht'])) h2 fun x hx => hlt x (by simp [hx]), rfl⟩
  | [], _ :: _, _, _, _, h, _ => h.elim
  | [], [], _ :: _, _, _, h, _ => h.elim
  | _ :: _, [], _, _, _, h, _ => h.elim
  | _ :: _, _ :: _, [], _, _, h, _ => h.elim

theorem law_post {H : Type} {enc : TypeId × Value → H} {f : Func} {s : ChangeSpec} {W W' : World} {args : Array Value} {ds : List (DataW H)} {before : List MemPlace}
    (hW : DataW.Whole enc Try.prog f.params.toList s.vars false W args.toList ds [] before) (hvars : s.vars = []) (hres : f.resultTypes = #[4])
    (h1 : (s.fn H (ds ++ [])).results = [.lit (.bool true)]) (h2 : (s.fn H (ds ++ [])).args = ds) (h3 : (s.fn H (ds ++ [])).vars = [])
    (hr : ∀ t ∈ f.params.toList, Try.prog.readableRec t = true ∧ t < Try.prog.types.size) (hb : Below W.heap.size W W') :
    s.post enc Try.prog f false true false false W args (.bool true) W' := by
  have hW' := hW
  obtain ⟨p, q, hA, hV, rfl, _, _⟩ := hW
  rw [hvars] at hV
  obtain ⟨_, rfl⟩ := trodVars_none hV
  refine ⟨ds, [], p ++ [], [], p, [], hW', ?_, ?_, ?_, hb.frame _, fun h => by cases h⟩
  · rw [h1, hres]; exact trodAll_mk1 (shut_bool Try.underlying4 true)
  · rw [h2]; exact trodAll_below hb _ _ _ _ hr hA fun x hx => hW'.lt x (by simp [hx])
  · rw [h3, hvars]; rfl

/-- an argument that is a slice of numbers reads so -/
theorem open_nums {H : Type} {enc : TypeId × Value → H} {W : World} {base t e : TypeId} {k : IntKind} {v : Value} {d : DataW H} {ps : List MemPlace}
    (ht : Try.prog.underlying t = some (.slice e)) (he : Try.prog.underlying e = some (.int k)) (hc : Try.prog.cellsOf e = 1)
    (hok : Value.okWide Try.prog W .any base t v) (h : DataW.Trod enc Try.prog W 0 (fun _ => true) true t v d ps) :
    ∃ xs : List Int, Nums W k v xs ∧ ∀ x ∈ xs, (Lit.int k x).wf = true := by
  obtain ⟨a0, len, cap, rfl⟩ := okWide_slice ht hok
  obtain ⟨fuel, hf⟩ := h
  rcases open_ints ht he hc hf with ⟨hcs, hx⟩ | ⟨a, len', cap', zs, hcs, _, hl, hm, hz, hx, hcell, hwz⟩
  · simp [Value.cells] at hcs
    obtain ⟨rfl, rfl, rfl⟩ := hcs
    exact ⟨[], Nums.mk (xs := []) (by simp) (by simp) (by simp) (by simp), by simp⟩
  · simp [Value.cells] at hcs
    obtain ⟨rfl, rfl, rfl⟩ := hcs
    simp only [if_true] at hz
    have hlen : (zs.take len).length = len := by simp; omega
    refine ⟨zs.take len, ?_, fun x hx => hwz x (List.mem_of_mem_take hx)⟩
    have key : Nums W k (.slice (some a) (zs.take len).length cap) (zs.take len) := by
      refine Nums.mk (by omega) (by simpa [maxLen] using hm) (by simp) fun i hi => ?_
      have hi' : i < zs.length := by omega
      have := hcell i hi'
      obtain ⟨b, off, spot⟩ := a
      obtain rfl : spot = none := by
        simpa [Addr.add] using World.cell?_spot (hcell 0 (by omega))
      rw [Addr.add_lit] at this
      refine ⟨b, off, rfl, ?_⟩
      rw [this]
      simp [List.getD, List.getElem?_eq_getElem hi']
    rw [hlen] at key
    exact key

end Go.Proofs.Ytdbeekdnehojnaa
