/-
  Are two lists of numbers alike (ref).
  graph's laws: both graphs in memory, side by side.
  A region that draws its order, its operations behind a name: each step's goal is small.
-/
import Derived.Test.YtdbeekdnehojnaaJ01
import Derived.Test.YtdbeekdnehojnaaJ31
import Derived.Test.YtdbeekdnehojnaaJ32
import Derived.Test.YtdbeekdnehojnaaJ23
namespace Go.Proofs.Ytdbeekdnehojnaa
open Go.RowKit


theorem sameNums (xs ys : List Int) (v u : Value) (w : World) (h : Nums w .u64 v xs) (g : Nums w .u64 u ys) :
    Calls Try.prog 19 #[v, u] w fun e w' => e = .returned (.bool (decide (xs = ys))) ∧ Drawn w w' := by
  obtain ⟨p, cap, rfl, hcap, hbig, -, hc⟩ := h.slice
  have hl : xs.length ≤ 9223372036854775807 := by omega
  clear hcap hbig
  obtain ⟨q, cap', rfl, hcap', hbig', -, hc'⟩ := g.slice
  have hl' : ys.length ≤ 9223372036854775807 := by omega
  clear hcap' hbig'
  have H := Lib.hid h
  have G := Lib.hid g
  clear h g hc hc'
  by_cases h3 : xs.length = ys.length
  · have h4 : ((xs.length : Int) != ys.length) = false := by simp [h3]
    have H3 := Lib.hid h3
    clear h3
    go_enter Try.func19, Try.ntmps19
    go_wp2
    go_loopw [5, 13] (fun _ i wr => ∃ k : Nat, k ≤ xs.length ∧ i = .int .i64 k ∧ xs.take k = ys.take k ∧ Drawn w wr) (fun _ i _ => xs.length - (intOf i).toNat)
    case atStart => exact ⟨0, by omega, rfl, rfl, Drawn.refl _⟩
    case round =>
      obtain ⟨k, hk, rfl, hall, hb⟩ := hrel
      have A := Lib.hid (And.intro hall hb)
      clear hall hb
      by_cases hlt : k < xs.length
      · have hlt' : k < ys.length := by have := H3.out; omega
        obtain ⟨b, off, rfl, hcell⟩ := (H.out.below A.out.2.below).elem hlt
        obtain ⟨b', off', rfl, hcell'⟩ := (G.out.below A.out.2.below).elem hlt'
        have hl8 : ys.length ≤ 9223372036854775807 := by omega
        by_cases hx : xs[k] = ys[k]
        · have hne : (xs[k] != ys[k]) = false := by simp [hx]
          have E := Lib.hid hx
          clear hx
          go_wp2
          go_quiet (fail)
          go_wp2
          go_roundw
          case rel => exact ⟨k + 1, by omega, by go_num, by rw [List.take_succ_eq_append_getElem hlt, List.take_succ_eq_append_getElem hlt', A.out.1, E.out], A.out.2.drewN _⟩
          case measure => simp [intOf]; omega
        · have hne : (xs[k] != ys[k]) = true := by simp [hx]
          have E := Lib.hid hx
          clear hx
          go_wp2
          go_quiet (fail)
          go_wp2
          go_ret
          exact ⟨ret_bool (by simp; intro e; subst e; exact E.out rfl), A.out.2.drewN _⟩
      · go_wp2
        go_ret
        have h3 := H3.out
        have h4 := A.out.1
        rw [List.take_of_length_le (by omega), List.take_of_length_le (by omega)] at h4
        exact ⟨ret_bool (by simp [h4]), A.out.2⟩
  · have h4 : ((xs.length : Int) != ys.length) = true := by simp; omega
    go_enter Try.func19, Try.ntmps19
    go_wp2
    go_ret
    exact ⟨ret_bool (by simp; intro e; exact h3 (by rw [e])), Drawn.refl _⟩

end Go.Proofs.Ytdbeekdnehojnaa

namespace Go.Proofs.Ytdbeekdnehojnaa
open Go.RowKit Go.ChangeMaps

/-- block j holds a map -/
def IsMap (w : World) (j : Nat) : Prop := ∃ es c, w.heap[j]? = some (.map es c)

theorem MapAt.isMap {α : Type} {mk : α → Value} {w : World} {b : Nat} {L : List (α × Value)} (h : MapAt w mk b L) : IsMap w b := by
  obtain ⟨es, c, hi⟩ := h
  exact ⟨es, c, hi.obj⟩

theorem IsMap.no {w : World} {j : Nat} (h : IsMap w j) {T : TypeId} (g : OfType w T j) : False := by
  obtain ⟨es, c, h⟩ := h
  obtain ⟨cs, fr, g⟩ := g
  rw [h] at g
  cases g

/-- what a script's calls may turn -/
def Turn (w : World) (B j : Nat) : Prop := B ≤ j ∧ (IsMap w j ∨ OfType w 30 j ∨ OfType w 50 j)

theorem own_turn {w w' : World} {B : Nat} (hm : Mod (Turn w B) w w') {B' s n : Nat} {v : Value} {xs : List Value} (h : w.ownsRow B' 31 s v n xs) : w'.ownsRow B' 31 s v n xs :=
  own_agree h fun k hk => hm.block k (h.lt k hk).2 fun ⟨_, ht⟩ => by
    have h1 := own_type h hk
    rcases ht with ht | ht | ht
    · exact ht.no h1
    · exact absurd (h1.ne ht) (by decide)
    · exact absurd (h1.ne ht) (by decide)

/-- a block of another type is as it was -/
theorem Mod.box {w w' : World} {B b T : Nat} {cs : Array Value} {fr : Nat × Nat} (hm : Mod (Turn w B) w w') (hb : w.heap[b]? = some (.cells cs T fr)) (h1 : T ≠ 30) (h2 : T ≠ 50) : w'.heap[b]? = some (.cells cs T fr) := by
  refine (hm.block b (lt_block hb) fun ⟨_, ht⟩ => ?_).trans hb
  have h : OfType w T b := ⟨_, _, hb⟩
  rcases ht with ht | ht | ht
  · exact ht.no h
  · exact h1 (h.ne ht)
  · exact h2 (h.ne ht)

theorem Turn.low {w w' : World} {B : Nat} (hm : Mod (Turn w B) w w') (hB : B ≤ w.heap.size) : Below B w w' := hm.below hB fun _ h => h.1

/-- both graphs, of the call's own -/
structure GS (B p m c : Nat) (Q : Gr) (N : List Int) (E : Eg) (w : World) : Prop where
  g : GrAt w p m Q
  d : ∃ vn ve, DGr w B c N E vn ve
  rel : Rel Q N E
  low : B ≤ p ∧ B ≤ m ∧ ∀ q ∈ Q, B ≤ q.2.1
  big : B ≤ w.heap.size

theorem GS.below {B p m c : Nat} {Q : Gr} {N : List Int} {E : Eg} {w w' : World} (h : GS B p m c Q N E w) (hb : Below w.heap.size w w') : GS B p m c Q N E w' := by
  obtain ⟨vn, ve, hd⟩ := h.d
  exact ⟨h.g.kept fun k hk => hb.block k hk, ⟨vn, ve, hd.below hb⟩, h.rel, h.low, Nat.le_trans h.big hb.size⟩

theorem GS.shut {B p m c : Nat} {Q : Gr} {N : List Int} {E : Eg} {w : World} (h : GS B p m c Q N E w) : ShutQ Q := h.rel.shut h.g.keys

theorem GS.len {B p m c : Nat} {Q : Gr} {N : List Int} {E : Eg} {w : World} (h : GS B p m c Q N E w) : Q.length ≤ N.length := by
  have := nodup_le h.g.keys fun x hx => (h.rel.keys x).1 hx
  simpa using this

/-- the program's graph turns: the document's lies elsewhere -/
theorem DGr.maps {w w' : World} {B c : Nat} {N : List Int} {E : Eg} {vn ve : Value} (h : DGr w B c N E vn ve) {F : Nat → Prop} (hm : Mod F w w') (hF : ∀ j, F j → IsMap w j) : DGr w' B c N E vn ve :=
  h.kept hm (fun j _ ht hj => (hF j hj).no ht) (fun j _ ht hj => (hF j hj).no ht) (fun j _ ht hj => (hF j hj).no ht)

/-- the document's turns: the program's lies elsewhere -/
theorem GrAt.doc {w w' : World} {p m B : Nat} {Q : Gr} (h : GrAt w p m Q) {F : Nat → Prop} (hm : Mod F w w') (hF : ∀ j, F j → DocM w B j) : GrAt w' p m Q := by
  have hmap : ∀ j, IsMap w j → w'.heap[j]? = w.heap[j]? := fun j hj => by
    obtain ⟨es, c, h1⟩ := id hj
    refine hm.block j (lt_block h1) fun hf => ?_
    rcases (hF j hf).2 with ht | ht <;> exact hj.no ht
  refine ⟨(hm.block p (lt_block h.cell) fun hf => ?_).trans h.cell, h.outer.kept (hmap m h.outer.isMap), fun q hq => (h.inner q hq).kept (hmap _ (h.inner q hq).isMap), h.apart⟩
  have hp : OfType w 57 p := ⟨_, _, h.cell⟩
  rcases (hF p hf).2 with ht | ht
  · exact absurd (hp.ne ht) (by decide)
  · exact absurd (hp.ne ht) (by decide)

theorem GrAt.blocks_map {w : World} {p m : Nat} {Q : Gr} (h : GrAt w p m Q) : ∀ j, BlocksOf Q j → IsMap w j := fun j ⟨q, hq, e⟩ => e ▸ (h.inner q hq).isMap

/-- what a script makes of nodes and edges -/
def doN (N : List Int) (a x : Int) : List Int := if a % 6 = 2 ∨ a % 6 = 3 ∨ a % 6 = 4 ∨ a % 6 = 5 then N else if x ∈ N then N else putZ N x
def doE (N : List Int) (E : Eg) (a x y : Int) : Eg :=
  if a % 6 = 2 then (bindD N E x y).2 else if a % 6 = 3 ∨ a % 6 = 4 then (linkD N E x y).2 else if a % 6 = 5 then (cutD N E x y).2 else E

theorem GS.after {B p m c : Nat} {Q Q' : Gr} {N : List Int} {E E' : Eg} {w w' w'' : World} {vn ve v : Value} (h : GS B p m c Q N E w) (hn : SameN Q Q') (hr : Rel Q' N E') (hg : GrAt w' p m Q') (hm : Mod (BlocksOf Q) w w')
    (hd : DGr w B c N E vn ve → DGr w' B c N E vn ve → DGr w'' B c N E' vn v ∧ Mod (DocM w' B) w' w'') (h0 : DGr w B c N E vn ve) : GS B p m c Q' N E' w'' ∧ Mod (Turn w B) w w'' := by
  have hmap := h.g.blocks_map
  have h1 := h0.maps hm hmap
  obtain ⟨h2, m2⟩ := hd h0 h1
  have hlow : ∀ q ∈ Q', B ≤ q.2.1 := fun q hq => by
    have : q.2.1 ∈ Q'.map (fun q => q.2.1) := List.mem_map_of_mem (f := fun q => q.2.1) hq
    rw [hn.1, List.mem_map] at this
    obtain ⟨r, hr, e⟩ := this
    rw [← e]; exact h.low.2.2 r hr
  refine ⟨⟨hg.doc m2 fun _ => id, ⟨vn, v, h2⟩, hr, ⟨h.low.1, h.low.2.1, hlow⟩, Nat.le_trans h.big (Nat.le_trans hm.size m2.size)⟩, ?_⟩
  have m1 : Mod (Turn w B) w w' := hm.mono fun j hj hf => ⟨by obtain ⟨q, hq, e⟩ := hf; rw [e]; exact h.low.2.2 q hq, .inl (hmap j hf)⟩
  refine m1.trans m2 fun j hj hf => ?_
  by_cases hF : BlocksOf Q j
  · exact ⟨by obtain ⟨q, hq, e⟩ := hF; rw [e]; exact h.low.2.2 q hq, .inl (hmap j hF)⟩
  · have hb := hm.block j hj hF
    refine ⟨hf.1, .inr ?_⟩
    rcases hf.2 with ⟨cs, fr, e⟩ | ⟨cs, fr, e⟩
    · exact .inl ⟨cs, fr, by rw [← hb]; exact e⟩
    · exact .inr ⟨cs, fr, by rw [← hb]; exact e⟩


theorem GS.bind {B p m c : Nat} {Q : Gr} {N : List Int} {E : Eg} {w : World} (h : GS B p m c Q N E w) (hl : E.length ≤ 900000) (x y : Int) :
    Calls Try.prog 16 #[.pointer (some ⟨p, 0, none⟩), .int .u64 x, .int .u64 y] w fun e w1 =>
      e = .returned (.int .i64 (bindD N E x y).1) ∧ Mod (Turn w B) w w1 ∧ Calls Try.prog 28 #[.pointer (some ⟨c, 0, none⟩), .int .u64 x, .int .u64 y] w1 fun e w2 =>
        e = .returned (.int .i64 (bindD N E x y).1) ∧ (∃ Q', GS B p m c Q' N (bindD N E x y).2 w2 ∧ SameN Q Q') ∧ Mod (Turn w B) w w2 := by
  refine (gBind w p m Q x y h.g).mono ?_
  rintro e w1 ⟨rfl, hg, hm⟩
  obtain ⟨h1, h2, h3⟩ := h.rel.bind x y
  obtain ⟨vn, ve, hd⟩ := h.d
  refine ⟨by rw [h1], hm.mono fun j _ hf => ⟨by obtain ⟨q, hq, e⟩ := hf; rw [e]; exact h.low.2.2 q hq, .inl (h.g.blocks_map j hf)⟩, ?_⟩
  have hd1 := hd.maps hm h.g.blocks_map
  refine (dBind w1 B c N E vn ve x y hd1 (Nat.le_trans h.big hm.size) hl).mono ?_
  rintro e w2 ⟨rfl, v, hd2, hm2⟩
  have := h.after h3 h2 hg hm (fun _ _ => ⟨hd2, hm2⟩) hd
  exact ⟨rfl, ⟨_, this.1, h3⟩, this.2⟩

theorem GS.link {B p m c : Nat} {Q : Gr} {N : List Int} {E : Eg} {w : World} (h : GS B p m c Q N E w) (hl : E.length ≤ 900000) (x y : Int) :
    Calls Try.prog 27 #[.pointer (some ⟨p, 0, none⟩), .int .u64 x, .int .u64 y] w fun e w1 =>
      e = .returned (.int .i64 (linkD N E x y).1) ∧ Mod (Turn w B) w w1 ∧ Calls Try.prog 29 #[.pointer (some ⟨c, 0, none⟩), .int .u64 x, .int .u64 y] w1 fun e w2 =>
        e = .returned (.int .i64 (linkD N E x y).1) ∧ (∃ Q', GS B p m c Q' N (linkD N E x y).2 w2 ∧ SameN Q Q') ∧ Mod (Turn w B) w w2 := by
  refine (gLink w p m Q x y h.g).mono ?_
  rintro e w1 ⟨rfl, hg, hm⟩
  obtain ⟨h1, h2, h3⟩ := h.rel.link x y
  obtain ⟨vn, ve, hd⟩ := h.d
  refine ⟨by rw [h1], hm.mono fun j _ hf => ⟨by obtain ⟨q, hq, e⟩ := hf; rw [e]; exact h.low.2.2 q hq, .inl (h.g.blocks_map j hf)⟩, ?_⟩
  have hd1 := hd.maps hm h.g.blocks_map
  refine (dLink w1 B c N E vn ve x y hd1 (Nat.le_trans h.big hm.size) hl).mono ?_
  rintro e w2 ⟨rfl, v, hd2, hm2⟩
  have := h.after h3 h2 hg hm (fun _ _ => ⟨hd2, hm2⟩) hd
  exact ⟨rfl, ⟨_, this.1, h3⟩, this.2⟩

theorem GS.cut {B p m c : Nat} {Q : Gr} {N : List Int} {E : Eg} {w : World} (h : GS B p m c Q N E w) (hl : E.length ≤ 900000) (x y : Int) :
    Calls Try.prog 12 #[.pointer (some ⟨p, 0, none⟩), .int .u64 x, .int .u64 y] w fun e w1 =>
      e = .returned (.int .i64 (cutD N E x y).1) ∧ Mod (Turn w B) w w1 ∧ Calls Try.prog 30 #[.pointer (some ⟨c, 0, none⟩), .int .u64 x, .int .u64 y] w1 fun e w2 =>
        e = .returned (.int .i64 (cutD N E x y).1) ∧ (∃ Q', GS B p m c Q' N (cutD N E x y).2 w2 ∧ SameN Q Q') ∧ Mod (Turn w B) w w2 := by
  refine (gCut w p m Q x y h.g).mono ?_
  rintro e w1 ⟨rfl, hg, hm⟩
  obtain ⟨h1, h2, h3⟩ := h.rel.cut x y
  obtain ⟨vn, ve, hd⟩ := h.d
  refine ⟨by rw [h1], hm.mono fun j _ hf => ⟨by obtain ⟨q, hq, e⟩ := hf; rw [e]; exact h.low.2.2 q hq, .inl (h.g.blocks_map j hf)⟩, ?_⟩
  have hd1 := hd.maps hm h.g.blocks_map
  refine (dCut w1 B c N E vn ve x y hd1 (Nat.le_trans h.big hm.size) hl).mono ?_
  rintro e w2 ⟨rfl, v, hd2, hm2⟩
  have := h.after h3 h2 hg hm (fun _ _ => ⟨hd2, hm2⟩) hd
  exact ⟨rfl, ⟨_, this.1, h3⟩, this.2⟩

theorem GS.add {B p m c : Nat} {Q : Gr} {N : List Int} {E : Eg} {w : World} (h : GS B p m c Q N E w) (hl : N.length ≤ 900000) (x : Int) :
    Calls Try.prog 18 #[.pointer (some ⟨p, 0, none⟩), .int .u64 x] w fun e w1 =>
      e = .returned (.int .i64 (if x ∈ N then 7 else 0)) ∧ Mod (Turn w B) w w1 ∧ Calls Try.prog 23 #[.pointer (some ⟨c, 0, none⟩), .int .u64 x] w1 fun e w2 =>
        e = .returned (.int .i64 (if x ∈ N then 7 else 0)) ∧ (∃ Q', GS B p m c Q' (if x ∈ N then N else putZ N x) E w2) ∧ Mod (Turn w B) w w2 := by
  refine (gAdd w p m Q x h.g).mono ?_
  obtain ⟨vn, ve, hd⟩ := h.d
  rintro e w1 (⟨hh, rfl, rfl⟩ | ⟨hh, rfl, hg, hm⟩)
  · have hx : x ∈ N := (h.rel.keys x).1 (hasB_iff.1 hh)
    simp only [hx, if_true]
    refine ⟨trivial, Mod.refl _ _, ?_⟩
    refine (dAdd w1 B c N E vn ve x hd hl h.big).mono ?_
    rintro e w2 (⟨-, rfl, rfl⟩ | ⟨hn, -⟩)
    · exact ⟨rfl, ⟨Q, h⟩, Mod.refl _ _⟩
    · exact absurd hx hn
  · have hx : x ∉ N := fun hx => by rw [hasB_iff.2 ((h.rel.keys x).2 hx)] at hh; cases hh
    simp only [hx, if_false]
    have hmap : ∀ j, j = m → IsMap w j := fun j e => e ▸ h.g.outer.isMap
    have hd1 := hd.maps hm hmap
    have hB1 := Nat.le_trans h.big hm.size
    refine ⟨trivial, hm.mono fun j _ e => ⟨e ▸ h.low.2.1, .inl (hmap j e)⟩, ?_⟩
    refine (dAdd w1 B c N E vn ve x hd1 hl hB1).mono ?_
    rintro e w2 (⟨hn, -⟩ | ⟨-, rfl, v, hd2, hm2⟩)
    · exact absurd hn hx
    · have hg2 := hg.doc (B := B) hm2 fun j e => ⟨e ▸ hd.low, .inl (e ▸ ⟨_, _, hd1.cell⟩)⟩
      refine ⟨rfl, ⟨_, ⟨hg2, ⟨v, ve, hd2⟩, h.rel.add hx _, ⟨h.low.1, h.low.2.1, fun q hq => ?_⟩, Nat.le_trans hB1 hm2.size⟩⟩, ?_⟩
      · rcases List.mem_append.1 hq with hq | hq
        · exact h.low.2.2 q hq
        · rw [List.mem_singleton.1 hq]; exact h.big
      · have m1 : Mod (Turn w B) w w1 := hm.mono fun j hj e => ⟨e ▸ h.low.2.1, .inl (hmap j e)⟩
        exact m1.trans hm2 fun j hj e => by
          subst e
          exact ⟨hd.low, .inr (.inl ⟨_, _, hd.cell⟩)⟩

end Go.Proofs.Ytdbeekdnehojnaa

namespace Go.Proofs.Ytdbeekdnehojnaa
open Go.RowKit

section
variable {P : Program} {ops O : Array Oper} {Q : Exit → Act → World → Prop} {md : Region.Mode} {S : World → Prop}

/-- an equation that no tactic opens -/
structure OpsAre (O ops : Array Oper) : Prop where
  eq : O = ops

theorem tkNH (i : Nat) {oi : Oper} {fuel : Nat} {listed : Array Bool} {a : Act} {w : World} (hO : OpsAre O ops) (hS : S w) (hi : ops.toList[i]? = some oi) (hQ : ∀ c a w, Q (.panic c) (a.put oi.dst undef) w → Q (.panic c) a w)
    (hc : canTake md ops listed i = true) (hw : Region.wanted oi (yielded ops a.tmps) = false)
    (h : wpAnyH P md O Q S fuel (listed.setIfInBounds i true) (a.put oi.dst undef) w) : wpAnyH P md O Q S (fuel + 1) listed a w := by
  obtain ⟨rfl⟩ := hO
  exact tkN i hS hi hQ hc hw h

theorem kNH (i : Nat) {oi : Oper} {fuel : Nat} {listed : Array Bool} {a : Act} {w : World} (hO : OpsAre O ops) (hS : S w) (h : wpAnyH P md O Q S fuel (listed.setIfInBounds i true) (a.put oi.dst undef) w)
    (hi : ops.toList[i]? = some oi := by exact rfl) (hQ : ∀ c a w, Q (.panic c) (a.put oi.dst undef) w → Q (.panic c) a w := by exact fun _ _ _ h => h) (hc : canTake md ops listed i = true := by decide +kernel) (hw : Region.wanted oi (yielded ops a.tmps) = false := by rfl) : wpAnyH P md O Q S (fuel + 1) listed a w :=
  tkNH i hO hS hi hQ hc hw h

theorem tkYH (i : Nat) {oi : Oper} {v : Value} {fuel : Nat} {listed : Array Bool} {a : Act} {w : World} (hO : OpsAre O ops) (hS : S w) (hi : ops.toList[i]? = some oi) (hQ : ∀ c a w, Q (.panic c) (a.put oi.dst v) w → Q (.panic c) a w)
    (hc : canTake md ops listed i = true) (hw : Region.wanted oi (yielded ops a.tmps) = true) (hy : ∀ w, S w → (execOp a.eval oi).run P w = .ok (.value v) w)
    (h : wpAnyH P md O Q S fuel (listed.setIfInBounds i true) (a.put oi.dst v) w) : wpAnyH P md O Q S (fuel + 1) listed a w := by
  obtain ⟨rfl⟩ := hO
  exact tkY i hS hi hQ hc hw hy h

theorem kYH (i : Nat) {oi : Oper} {v : Value} {fuel : Nat} {listed : Array Bool} {a : Act} {w : World} (hO : OpsAre O ops) (hS : S w) (h : wpAnyH P md O Q S fuel (listed.setIfInBounds i true) (a.put oi.dst v) w)
    (hi : ops.toList[i]? = some oi := by exact rfl) (hQ : ∀ c a w, Q (.panic c) (a.put oi.dst v) w → Q (.panic c) a w := by exact fun _ _ _ h => h) (hc : canTake md ops listed i = true := by decide +kernel) (hw : Region.wanted oi (yielded ops a.tmps) = true := by rfl) (hy : ∀ w, S w → (execOp a.eval oi).run P w = .ok (.value v) w := by intro w hS; (try dsimp only at hS); go_simp; try with_reducible rfl) : wpAnyH P md O Q S (fuel + 1) listed a w :=
  tkYH i hO hS hi hQ hc hw hy h

theorem spkH (i : Nat) {oi : Oper} {fuel : Nat} {listed : Array Bool} {a : Act} {w : World} (hO : OpsAre O ops) (hi : ops.toList[i]? = some oi)
    (hr : Region.ready md ops listed = [i]) (hw : Region.wanted oi (yielded ops a.tmps) = true)
    (h : ∀ K' : Act → World → Prop, Shut (∀ a w, S w → (S w → wpAnyH P md O Q S fuel (listed.setIfInBounds i true) a w) → K' a w) → oi.wp P a w K' Q) : wpAnyH P md O Q S (fuel + 1) listed a w := by
  obtain ⟨rfl⟩ := hO
  exact spk i hi hr hw h

theorem spBH (i j : Nat) {oi oj : Oper} {fuel : Nat} {listed : Array Bool} {a : Act} {w : World} (hO : OpsAre O ops) (hi : ops.toList[i]? = some oi) (hj : ops.toList[j]? = some oj)
    (hr : Region.ready md ops listed = [i, j]) (hwi : Region.wanted oi (yielded ops a.tmps) = true) (hwj : Region.wanted oj (yielded ops a.tmps) = true)
    (h : ∀ K' : Act → World → Prop, Shut (∀ a w, S w → (S w → wpAnyH P md O Q S fuel (listed.setIfInBounds i true) a w) → K' a w) → oi.wp P a w K' Q)
    (h' : ∀ K' : Act → World → Prop, Shut (∀ a w, S w → (S w → wpAnyH P md O Q S fuel (listed.setIfInBounds j true) a w) → K' a w) → oj.wp P a w K' Q) : wpAnyH P md O Q S (fuel + 1) listed a w := by
  obtain ⟨rfl⟩ := hO
  exact spB i j hi hj hr hwi hwj h h'

theorem doneH {fuel : Nat} {listed : Array Bool} {a : Act} {w : World} (hO : OpsAre O ops) (hr : Region.ready md ops listed = []) (h : Q .normal a w) : wpAnyH P md O Q S fuel listed a w := by
  obtain ⟨rfl⟩ := hO
  exact wpAnyH_done hr h _

theorem region_goH {id : Nat} {a : Act} {w : World} (S : World → Prop) (n : Nat) (hm : P.follows .mixedOrders = true) (hn : ops.size = n) (hS : S w.drew)
    (h : ∀ O, OpsAre O ops → S w.drew → wpAnyH P .any O Q S n (Array.replicate n false) a w.drew) : (Code.region id ops true).wp P Q a w := by
  subst hn
  exact region_go S hm hS (h ops ⟨rfl⟩)
end

end Go.Proofs.Ytdbeekdnehojnaa
