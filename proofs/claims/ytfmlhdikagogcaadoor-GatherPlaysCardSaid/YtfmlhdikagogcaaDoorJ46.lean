/-
  note: the document's Right of a Query and of a Seen is the program's: the plain law.
  gather's law: GatherPlays: the gather and the document's, side by side.
  gather's law: GatherPlays: the calls of a step, on both.
  gather's law: GatherPlays: behind the two calls of a step.
  An argument that is a script of questions and answers.
-/
import Derived.Test.YtfmlhdikagogcaaDoorJ43
import Derived.Test.YtfmlhdikagogcaaDoorJ45
import Derived.Test.YtfmlhdikagogcaaDoorJ39
import Derived.Test.YtfmlhdikagogcaaDoorJ40
import Derived.Test.YtfmlhdikagogcaaDoorJ41
import Derived.Test.YtfmlhdikagogcaaDoorJ37
import Derived.Test.YtfmlhdikagogcaaDoorJ32
namespace Go.Proofs.YtfmlhdikagogcaaDoor
open Go.RowKit
set_option maxRecDepth 20000

theorem has8 : hasB (kbytes 8) 116 = false ∧ hasB (kbytes 8) 98 = false ∧ hasB (kbytes 8) 115 = false ∧ hasB (kbytes 8) 97 = false ∧ hasB (kbytes 8) 109 = false ∧ hasB (kbytes 8) 113 = true ∧ hasB (kbytes 8) 105 = true ∧ hasB (kbytes 8) 107 = true ∧ hasB (kbytes 8) 101 = true ∧ hasB (kbytes 8) 99 = false ∧ hasB (kbytes 8) 119 = false ∧ hasB (kbytes 8) 112 = false ∧ hasB (kbytes 8) 111 = false ∧ hasB (kbytes 8) 118 = true ∧ hasB (kbytes 8) 104 = false := by
  decide +kernel

theorem has10 : hasB (kbytes 10) 116 = false ∧ hasB (kbytes 10) 98 = false ∧ hasB (kbytes 10) 115 = false ∧ hasB (kbytes 10) 97 = false ∧ hasB (kbytes 10) 109 = false ∧ hasB (kbytes 10) 113 = true ∧ hasB (kbytes 10) 105 = false ∧ hasB (kbytes 10) 107 = false ∧ hasB (kbytes 10) 101 = false ∧ hasB (kbytes 10) 99 = true ∧ hasB (kbytes 10) 119 = false ∧ hasB (kbytes 10) 112 = false ∧ hasB (kbytes 10) 111 = false ∧ hasB (kbytes 10) 118 = false ∧ hasB (kbytes 10) 104 = true := by
  decide +kernel

theorem rgt8 (n : Nt) (hk : n.kind = 8) (hf : n.Fits) : (signsK n && lensK n) = (fitsB n && (numsB n && lensB n)) := by
  have h1 : fitsB n = (!decide (0 < n.txn) && !decide (0 < n.batch) && !decide (0 < n.stamp) && !decide (0 < n.after) && !decide (0 < n.mark) && !(n.code != 0) && !(n.who != 0) && !decide (0 < n.parts.length) && !decide (0 < n.ops.length) && !decide (0 < n.hits.length)) := by
    unfold fitsB; rw [hk]
    exact fits8 _ _ _ _ _ _ _ _ _ _ _ _ _ _ _
  rw [h1]
  obtain ⟨a1, a2, a3, a4, a5, a6, a7, a8, a9, a10, a11, a12, a13, a14, a15⟩ := has8
  unfold signsK lensK numsK numB numsB lensB bareB
  rw [hk]
  simp only [a1, a2, a3, a4, a5, a6, a7, a8, a9, a10, a11, a12, a13, a14, a15, Bool.or_false, Bool.or_true, Bool.and_true]
  have f1 := hf.txn; have f2 := hf.batch; have f3 := hf.stamp; have f4 := hf.after; have f5 := hf.mark; have f6 := hf.query; have f7 := hf.id
  unfold rightB
  generalize n.vec.any outR = q
  cases q
  all_goals
    rw [Bool.eq_iff_iff]
    simp only [Bool.and_eq_true, Bool.or_eq_true, decide_eq_true_eq, Bool.not_eq_true', decide_eq_false_iff_not, bne_eq_false_iff_eq, beq_iff_eq, Bool.not_false, Bool.not_true, Bool.false_eq_true, and_true, and_false, or_false]
    omega

theorem rgt10 (n : Nt) (hk : n.kind = 10) (hf : n.Fits) : (signsK n && lensK n) = (fitsB n && (numsB n && lensB n)) := by
  have h1 : fitsB n = (!decide (0 < n.txn) && !decide (0 < n.batch) && !decide (0 < n.stamp) && !decide (0 < n.after) && !decide (0 < n.mark) && !decide (0 < n.id) && !(n.k != 0) && !(n.ef != 0) && !(n.who != 0) && !decide (0 < n.parts.length) && !decide (0 < n.ops.length) && !decide (0 < n.vec.length)) := by
    unfold fitsB; rw [hk]
    exact fits10 _ _ _ _ _ _ _ _ _ _ _ _ _ _ _
  rw [h1]
  obtain ⟨a1, a2, a3, a4, a5, a6, a7, a8, a9, a10, a11, a12, a13, a14, a15⟩ := has10
  unfold signsK lensK numsK numB numsB lensB bareB
  rw [hk]
  simp only [a1, a2, a3, a4, a5, a6, a7, a8, a9, a10, a11, a12, a13, a14, a15, Bool.or_false, Bool.or_true, Bool.and_true]
  have f1 := hf.txn; have f2 := hf.batch; have f3 := hf.stamp; have f4 := hf.after; have f5 := hf.mark; have f6 := hf.query; have f7 := hf.id
  unfold rightB
  generalize n.vec.any outR = q
  cases q
  all_goals
    rw [Bool.eq_iff_iff]
    simp only [Bool.and_eq_true, Bool.or_eq_true, decide_eq_true_eq, Bool.not_eq_true', decide_eq_false_iff_not, bne_eq_false_iff_eq, beq_iff_eq, Bool.not_false, Bool.not_true, Bool.false_eq_true, and_true, and_false, or_false]
    omega

theorem rgtB_eq (n : Nt) (hk : n.kind = 8 ∨ n.kind = 10) (hf : n.Fits) : rgtB n = rightN n := by
  have h : (signsK n && lensK n) = (fitsB n && (numsB n && lensB n)) := hk.elim (fun h => rgt8 n h hf) (fun h => rgt10 n h hf)
  unfold rgtB rightN boundedB
  rw [h, decide_eq_true (show 1 ≤ n.kind by omega), decide_eq_true (show n.kind ≤ 22 by omega)]
  simp only [Bool.true_and, Bool.and_assoc]

end Go.Proofs.YtfmlhdikagogcaaDoor

namespace Go.Proofs.YtfmlhdikagogcaaDoor
open Go.RowKit
set_option maxRecDepth 20000

theorem dask_nil (n : Nt) (vp vo vv vh : Value) (frm stamp mark : Int) (w : World) :
    Calls Tryd.prog 23 #[.pointer none, .int .i64 frm, .agg (n.cells vp vo vv vh), .int .u64 stamp, .int .u64 mark] w fun e w' => e = .returned (.slice none 0 0) ∧ Below w.heap.size w w' := by
  obtain ⟨NC, hNC⟩ : ∃ NC : Array Value, NC = n.cells vp vo vv vh := ⟨_, rfl⟩
  rw [← hNC]
  clear hNC
  go_enter Tryd.func23, Tryd.ntmps23
  go_wp2_with fail
  go_ret
  exact ⟨rfl, (Below.refl _ _).alloc (Nat.le_refl _) _⟩

theorem dhear_nil (n : Nt) (vp vo vv vh : Value) (frm : Int) (w : World) :
    Calls Tryd.prog 26 #[.pointer none, .int .i64 frm, .agg (n.cells vp vo vv vh)] w fun e w' => e = .returned (.slice none 0 0) ∧ Below w.heap.size w w' := by
  obtain ⟨NC, hNC⟩ : ∃ NC : Array Value, NC = n.cells vp vo vv vh := ⟨_, rfl⟩
  rw [← hNC]
  clear hNC
  go_enter Tryd.func26, Tryd.ntmps26
  go_wp2_with fail
  go_ret
  exact ⟨rfl, (Below.refl _ _).alloc (Nat.le_refl _) _⟩

theorem GIn.modK {w w' : World} {B c : Nat} {F R P : Nat → Prop} {g : Gz} {lv : Value} {Q : List Qp} (h : GIn w B c F R g lv Q) (hm : Mod P w w') (hF : ∀ k, F k → ¬ P k) (hR : ∀ k, R k → ¬ P k) : GIn w' B c F R g lv Q := by
  have hf : ∀ k, F k → w'.heap[k]? = w.heap[k]? := fun k hk => hm.block k (h.low k hk).2 (hF k hk)
  have hr : Agree R w w' := fun k hk => hm.block k (h.apart k hk).1 (hR k hk)
  exact ⟨(hf c h.here).trans h.obj, own_agree h.row (fun k e => hf k (h.lvF k e).1), h.len, fun i h1 h2 => (h.each i h1 h2).agree hr (hf _ (h.mbF _ (List.getElem_mem h1)).1), h.bs, h.mbs, h.lvF, h.mbF, h.here, fun k hk => ⟨(h.low k hk).1, Nat.lt_of_lt_of_le (h.low k hk).2 hm.size⟩, fun k hk => ⟨Nat.lt_of_lt_of_le (h.apart k hk).1 hm.size, (h.apart k hk).2⟩⟩

/-- the gather at gv and the document's at xv, or nil ones; both leave the blocks of K alone -/
def PSt (W0 : World) (gv xv : Value) (K : Nat → Prop) : Option (Gz × Gz) → World → Prop
  | none, w => gv = .pointer none ∧ xv = .pointer none ∧ Below W0.heap.size W0 w
  | some p, w => ∃ c cx, ∃ F R Fx : Nat → Prop, gv = .pointer (some ⟨c, 0, none⟩) ∧ xv = .pointer (some ⟨cx, 0, none⟩) ∧ GAt w W0.heap.size c F R p.1 ∧ RefG w cx Fx p.2 ∧ (∀ k, F k → k ≠ cx ∧ ¬ Fx k) ∧ ¬ R cx ∧ W0.heap.size ≤ cx ∧ (∀ k, K k → k < w.heap.size ∧ ¬ F k ∧ ¬ R k ∧ ¬ Fx k ∧ k ≠ cx) ∧ Below W0.heap.size W0 w

theorem PSt.since {W0 w : World} {gv xv : Value} {K : Nat → Prop} {op : Option (Gz × Gz)} (h : PSt W0 gv xv K op w) : Below W0.heap.size W0 w := by
  cases op with
  | none => exact h.2.2
  | some p => obtain ⟨c, cx, F, R, Fx, -, -, -, -, -, -, -, -, h⟩ := h; exact h

/-- it grows; what is new is left alone -/
theorem PSt.grow {W0 w w' : World} {gv xv : Value} {K K' : Nat → Prop} {op : Option (Gz × Gz)} (h : PSt W0 gv xv K op w) (hb : Below w.heap.size w w') (hK : ∀ k, K' k → K k ∨ (w.heap.size ≤ k ∧ k < w'.heap.size)) : PSt W0 gv xv K' op w' := by
  cases op with
  | none => exact ⟨h.1, h.2.1, h.2.2.trans (hb.mono h.2.2.size)⟩
  | some p =>
    obtain ⟨c, cx, F, R, Fx, h1, h2, h3, h4, h5, h6, h7, h8, h9⟩ := h
    refine ⟨c, cx, F, R, Fx, h1, h2, h3.below hb, h4.below hb, h5, h6, h7, fun k hk => ?_, h9.trans (hb.mono h9.size)⟩
    have hs := hb.size
    rcases hK k hk with hk | hk
    · have := h8 k hk
      exact ⟨by omega, this.2⟩
    · have hcx := h4.lt
      obtain ⟨lv, Q, hI⟩ := id h3
      obtain ⟨v, xs, -, -, -, hx⟩ := id h4
      exact ⟨hk.2, fun hf => by have := (hI.low k hf).2; omega, fun hr => by have := (hI.apart k hr).1; omega, fun hf => by have := (hx k hf).1; omega, by omega⟩

/-- the blocks of K are written -/
theorem PSt.write {W0 w w' : World} {gv xv : Value} {K : Nat → Prop} {op : Option (Gz × Gz)} (h : PSt W0 gv xv K op w) (hm : Mod K w w') (hK : ∀ k, K k → W0.heap.size ≤ k) : PSt W0 gv xv K op w' := by
  cases op with
  | none => exact ⟨h.1, h.2.1, h.2.2.trans (hm.below h.2.2.size hK)⟩
  | some p =>
    obtain ⟨c, cx, F, R, Fx, h1, h2, ⟨lv, Q, h3⟩, h4, h5, h6, h7, h8, h9⟩ := h
    have hmA : ∀ k, (F k ∨ R k ∨ Fx k ∨ k = cx) → ¬ K k := fun k hk hK' => by
      obtain ⟨a1, a2, a3, a4, a5⟩ := h8 k hK'
      rcases hk with h | h | h | h
      · exact a2 h
      · exact a3 h
      · exact a4 h
      · exact a5 h
    refine ⟨c, cx, F, R, Fx, h1, h2, ⟨lv, Q, ?_⟩, h4.mod hm (fun k hk => hmA k (.inr (.inr (.inl hk)))) (hmA cx (.inr (.inr (.inr rfl)))), h5, h6, h7, fun k hk => ⟨Nat.lt_of_lt_of_le (h8 k hk).1 hm.size, (h8 k hk).2⟩, h9.trans (hm.below h9.size hK)⟩
    exact h3.modK hm (fun k hk => hmA k (.inl hk)) (fun k hk => hmA k (.inr (.inl hk)))

/-- what one of the two calls of a step tells, and leaves; what lies in K, and what is new since wE, stays -/
def PTold (W0 wE w : World) (gv xv : Value) (K : Nat → Prop) (e : Nat) (l : List (Int × Nt)) (op' : Option (Gz × Gz)) (r : Ending) (w' : World) : Prop :=
  ∃ v rs, ∃ G : Nat → Prop, r = .returned v ∧ w'.ownsRow w.heap.size e 17 v rs.length (flatM rs) ∧ rs.map Mv.says = l ∧ MailF w' G rs ∧ (∀ k, G k → k < w'.heap.size) ∧ PSt W0 gv xv K op' w' ∧ w.heap.size ≤ w'.heap.size ∧ (∀ k, wE.heap.size ≤ k → k < w.heap.size → w'.heap[k]? = w.heap[k]?)

/-- the document's call turns its own block alone -/
def Swap (xv : Value) (w w' : World) : Prop := Below w.heap.size w w' ∨ ∃ cx a b l v t fr, (∃ p n k, v = Value.slice p n k) ∧ w.heap[cx]? = some (.cells #[.int .i64 a, .int .i64 b, .int .u64 l, v] t fr) ∧ Mod (fun k => k = cx) w w'

theorem Swap.mail {xv : Value} {w w' : World} {G : Nat → Prop} {rs : List Mv} (h : Swap xv w w') (hm : MailF w G rs) (hb : ∀ r ∈ rs, BareN r.note) (hG : ∀ k, G k → k < w.heap.size) : ∃ G', MailF w' G' rs := by
  rcases h with h | ⟨cx, a, b, l, v, t, fr, hv, hg, hM⟩
  · exact ⟨G, hm.below h⟩
  · exact ⟨_, (hm.notIn hv hg hb).agree (Agree.of_mod hM (fun k hk => hG k hk.1) (fun k hk => hk.2))⟩

theorem RefG.pattern {w : World} {cx : Nat} {F : Nat → Prop} {g : Gz} (h : RefG w cx F g) : ∃ a b l v t fr, (∃ p n k, v = Value.slice p n k) ∧ w.heap[cx]? = some (.cells #[.int .i64 a, .int .i64 b, .int .u64 l, v] t fr) := by
  obtain ⟨v, xs, h1, h2, -, -⟩ := h
  obtain ⟨p, cap, hv, -⟩ := h2
  exact ⟨_, _, _, v, _, _, ⟨_, _, _, hv⟩, h1⟩

/-- behind a call of the program's -/
theorem play_told {W0 wE w w' : World} {gv xv : Value} {K E : Nat → Prop} {c cx : Nat} {F R Fx : Nat → Prop} {g' x : Gz} {l : List (Int × Nt)} {r : Ending} (h1 : gv = .pointer (some ⟨c, 0, none⟩)) (h2 : xv = .pointer (some ⟨cx, 0, none⟩)) (h3 : ∀ k, F k → W0.heap.size ≤ k ∧ k < wE.heap.size) (h4 : RefG w cx Fx x) (h5 : ∀ k, F k → k ≠ cx ∧ ¬ Fx k) (h6 : ¬ R cx) (h7 : W0.heap.size ≤ cx)
    (h8 : ∀ k, K k → k < w.heap.size ∧ ¬ F k ∧ ¬ R k ∧ ¬ Fx k ∧ k ≠ cx) (h9 : Below W0.heap.size W0 w) (hE : ∀ k, E k → k ≠ cx ∧ ¬ K k) (h : GTold w W0.heap.size c F R E l g' r w') :
    PTold W0 wE w gv xv K 44 l (some (g', x)) r w' := by
  obtain ⟨v, rs, G, F', R', e1, e2, e3, e4, e5, e6, e7, e8, e9, e10⟩ := h
  have hs := e8.size
  have hcx := h4.lt
  refine ⟨v, rs, G, e1, e2, e3, e4, fun k hk => (e5 k hk).1, ⟨c, cx, F', R', Fx, h1, h2, e7, h4.mod e8 (fun k hk hf => (h5 k hf).2 hk) (fun hf => (h5 cx hf).1 rfl), fun k hk => ?_, fun hr => ?_, h7, fun k hk => ?_, h9.trans (e8.below h9.size fun k hk => (h3 k hk).1)⟩, hs, fun k k1 k2 => e8.block k k2 fun hf => by have := (h3 k hf).2; omega⟩
  · rcases e9 k hk with hk | hk
    · exact h5 k hk
    · obtain ⟨v', xs, -, -, -, hx⟩ := h4
      exact ⟨by omega, fun hf => by have := (hx k hf).1; omega⟩
  · rcases e10 cx hr with h | h | h
    · exact h6 h
    · exact (hE cx h).1 rfl
    · omega
  · obtain ⟨a1, a2, a3, a4, a5⟩ := h8 k hk
    refine ⟨by omega, fun hf => ?_, fun hr => ?_, a4, a5⟩
    · rcases e9 k hf with h | h
      · exact a2 h
      · omega
    · rcases e10 k hr with h | h | h
      · exact a3 h
      · exact (hE k h).2 hk
      · omega

/-- behind a call of the document's -/
theorem play_doc {W0 wE w w' : World} {gv xv : Value} {K E : Nat → Prop} {c cx : Nat} {F R Fx : Nat → Prop} {g x x' : Gz} {l : List (Int × Nt)} {r : Ending} (h1 : gv = .pointer (some ⟨c, 0, none⟩)) (h2 : xv = .pointer (some ⟨cx, 0, none⟩)) (h3 : GAt w W0.heap.size c F R g) (h4 : RefG w cx Fx x) (h5 : ∀ k, F k → k ≠ cx ∧ ¬ Fx k) (h6 : ¬ R cx) (h7 : W0.heap.size ≤ cx)
    (h8 : ∀ k, K k → k < w.heap.size ∧ ¬ F k ∧ ¬ R k ∧ ¬ Fx k ∧ k ≠ cx) (h9 : Below W0.heap.size W0 w) (hcx : cx < wE.heap.size) (hE : ∀ k, E k → ¬ F k ∧ ¬ K k) (h : DTold w cx Fx E l x' r w') :
    PTold W0 wE w gv xv K 120 l (some (g, x')) r w' ∧ Swap xv w w' := by
  obtain ⟨v, rs, G, F', e1, e2, e3, e4, e5, e6, e7, e8⟩ := h
  have hs := e7.size
  obtain ⟨a, b, l0, v0, t0, fr0, hv0, hg0⟩ := h4.pattern
  obtain ⟨lv, Q, hI⟩ := h3
  refine ⟨⟨v, rs, G, e1, e2, e3, e4, e5, ⟨c, cx, F, R, F', h1, h2, ⟨lv, Q, hI.modK e7 (fun k hk => (h5 k hk).1) (fun k hk e => h6 (e ▸ hk))⟩, e6, fun k hk => ⟨(h5 k hk).1, fun hf => ?_⟩, h6, h7, fun k hk => ?_, h9.trans (e7.below h9.size fun k (hk : k = cx) => by omega)⟩, hs, fun k k1 k2 => e7.block k k2 fun (hf : k = cx) => by omega⟩, .inr ⟨cx, a, b, l0, v0, t0, fr0, hv0, hg0, e7⟩⟩
  · rcases e8 k hf with h | h | h
    · exact (h5 k hk).2 h
    · exact (hE k h).1 hk
    · have := (hI.low k hk).2; omega
  · obtain ⟨a1, a2, a3, a4, a5⟩ := h8 k hk
    refine ⟨by omega, a2, a3, fun hf => ?_, a5⟩
    rcases e8 k hf with h | h | h
    · exact a4 h
    · exact (hE k h).2 hk
    · omega

end Go.Proofs.YtfmlhdikagogcaaDoor

namespace Go.Proofs.YtfmlhdikagogcaaDoor
open Go.RowKit
set_option maxRecDepth 20000

/-- a call of a script -/
inductive Cl where
  | ask (frm : Int) (n : Nt) (stamp mark : Int)
  | hear (frm : Int) (n : Nt)
  | wake
  | quit

def Cl.run (c : Cl) (g : Gz) : List (Int × Nt) × Gz := match c with
  | .ask frm n s m => askZ g frm n s m
  | .hear frm n => hearZ g frm n
  | .wake => (wakeL g, g)
  | .quit => (quitL g, {g with l := []})

theorem Cl.ok (c : Cl) {g : Gz} (hg : GOk g) (hd : DOk g) : GOk (c.run g).2 ∧ DOk (c.run g).2 ∧ BareL (c.run g).1 := by
  cases c with
  | ask frm n s m => exact ⟨askZ_ok hg frm n s m, askZ_dok hg hd frm n s m, askZ_bare hg hd frm n s m⟩
  | hear frm n => exact ⟨hearZ_ok hg frm n, hearZ_dok hd frm n, hearZ_bare g frm n⟩
  | wake => exact ⟨hg, hd, wake_bare hg hd⟩
  | quit => exact ⟨quit_ok hg, fun q hq => absurd hq (by simp [Cl.run]), quit_bare hg⟩

/-- sound, and alike -/
def POk : Option (Gz × Gz) → Prop
  | .none => True
  | .some p => GOk p.1 ∧ DOk p.1 ∧ p.1 = p.2

def Cl.said (c : Cl) : Option (Gz × Gz) → List (Int × Nt)
  | .none => []
  | .some p => (c.run p.1).1

def Cl.mid (c : Cl) (op : Option (Gz × Gz)) : Option (Gz × Gz) := op.map fun p => ((c.run p.1).2, p.2)
def Cl.dsaid (c : Cl) : Option (Gz × Gz) → List (Int × Nt)
  | .none => []
  | .some p => (c.run p.2).1
def Cl.doc (c : Cl) (op : Option (Gz × Gz)) : Option (Gz × Gz) := op.map fun p => (p.1, (c.run p.2).2)

theorem POk.step (c : Cl) {op : Option (Gz × Gz)} (h : POk op) : POk (c.doc (c.mid op)) ∧ c.dsaid (c.mid op) = c.said op ∧ BareL (c.said op) := by
  cases op with
  | none => exact ⟨trivial, rfl, BareL.nil⟩
  | some p =>
    obtain ⟨g, x⟩ := p
    obtain ⟨h1, h2, h3⟩ := h
    simp only at h1 h2 h3
    subst h3
    obtain ⟨a, b, d⟩ := c.ok h1 h2
    exact ⟨⟨a, b, rfl⟩, rfl, d⟩

theorem PTold.nilP {W0 wE w w' : World} {gv xv : Value} {K : Nat → Prop} {e : Nat} (h : PSt W0 gv xv K .none w) (hb : Below w.heap.size w w') : PTold W0 wE w gv xv K e [] .none (.returned (.slice .none 0 0)) w' :=
  ⟨_, [], fun _ => False, rfl, World.ownsRow_nil _ _ _ _, rfl, fun r hr => absurd hr (by simp), fun _ h => h.elim, ⟨h.1, h.2.1, h.2.2.trans (hb.mono h.2.2.size)⟩, hb.size, fun k _ k2 => hb.block k k2⟩


theorem progAsk
    (W0 wE : World) (gv xv : Value) (K : Nat → Prop) (op : Option (Gz × Gz)) (w : World) (h : PSt W0 gv xv (fun _ => False) op wE) (hb : Below wE.heap.size wE w) (hK : ∀ k, K k → wE.heap.size ≤ k ∧ k < w.heap.size) (hok : POk op) (hT : Tab W0)
    (E : Nat → Prop) (n : Nt) (vp vo vv vh : Value) (frm stamp mark : Int) (hv : NoteV w E n vp vo vv vh) (hkd : 0 ≤ n.kind ∧ n.kind ≤ 255) (hlen : n.parts.length ≤ 1000000 ∧ n.ops.length ≤ 1000000 ∧ n.vec.length ≤ 1000000 ∧ n.hits.length ≤ 1000000) :
    Calls Tryd.prog 11 #[gv, .int .i64 frm, .agg (n.cells vp vo vv vh), .int .u64 stamp, .int .u64 mark] w (PTold W0 wE w gv xv K 44 ((Cl.ask frm n stamp mark).said op) ((Cl.ask frm n stamp mark).mid op)) := by
  have h0 := h.grow (K' := K) hb (fun k hk => .inr (hK k hk))
  cases op with
  | none =>
    obtain ⟨rfl, rfl, h9⟩ := id h0
    exact (ask_nil n vp vo vv vh frm stamp mark w).mono fun e w' ⟨he, hb'⟩ => he ▸ PTold.nilP h0 hb'
  | some p =>
    obtain ⟨c, cx, F, R, Fx, rfl, rfl, h3, h4, h5, h6, h7, h8, h9⟩ := id h0
    obtain ⟨c', cx', F', R', Fx', e1, e2, g3, g4, g5, g6, g7, g8, g9⟩ := h
    obtain rfl : c' = c := by have := Value.pointer.inj e1; simpa using this.symm
    obtain rfl : cx' = cx := by have := Value.pointer.inj e2; simpa using this.symm
    clear e1 e2 h3 h4 h5 h6 h7 h8
    have G3 := g3.below hb
    have G4 := g4.below hb
    have h8 : ∀ k, K k → k < w.heap.size ∧ ¬ F' k ∧ ¬ R' k ∧ ¬ Fx' k ∧ k ≠ cx' := fun k hk => by
      obtain ⟨lv, Q, hI⟩ := id g3
      obtain ⟨v, xs, -, -, -, hx⟩ := id g4
      have hcx := g4.lt
      have hk' := hK k hk
      exact ⟨hk'.2, fun hf => by have := (hI.low k hf).2; omega, fun hr => by have := (hI.apart k hr).1; omega, fun hf => by have := (hx k hf).1; omega, by omega⟩
    exact (ask W0.heap.size c' F' R' E p.1 n vp vo vv vh frm stamp mark w (hT.below h9) G3 h9.size hok.1 hv hkd hlen).mono fun e w' hh => play_told rfl rfl (fun k hk => g3.low k hk) G4 g5 g6 g7 h8 h9 (fun k hk => hk.elim) hh

theorem progHear
    (W0 wE : World) (gv xv : Value) (K : Nat → Prop) (op : Option (Gz × Gz)) (w : World) (h : PSt W0 gv xv (fun _ => False) op wE) (hb : Below wE.heap.size wE w) (hK : ∀ k, K k → wE.heap.size ≤ k ∧ k < w.heap.size) (hok : POk op) (hT : Tab W0)
    (E : Nat → Prop) (n : Nt) (vp vo vv vh : Value) (frm : Int) (hv : NoteV w E n vp vo vv vh) (hkd : 0 ≤ n.kind ∧ n.kind ≤ 255) (hlen : n.parts.length ≤ 1000000 ∧ n.ops.length ≤ 1000000 ∧ n.vec.length ≤ 1000000 ∧ n.hits.length ≤ 1000000) (hE : ∀ k, E k → wE.heap.size ≤ k ∧ k < w.heap.size ∧ ¬ K k) :
    Calls Tryd.prog 13 #[gv, .int .i64 frm, .agg (n.cells vp vo vv vh)] w (PTold W0 wE w gv xv K 44 ((Cl.hear frm n).said op) ((Cl.hear frm n).mid op)) := by
  have h0 := h.grow (K' := K) hb (fun k hk => .inr (hK k hk))
  cases op with
  | none =>
    obtain ⟨rfl, rfl, h9⟩ := id h0
    exact (hear_nil n vp vo vv vh frm w).mono fun e w' ⟨he, hb'⟩ => he ▸ PTold.nilP h0 hb'
  | some p =>
    obtain ⟨c, cx, F, R, Fx, rfl, rfl, h3, h4, h5, h6, h7, h8, h9⟩ := id h0
    obtain ⟨c', cx', F', R', Fx', e1, e2, g3, g4, g5, g6, g7, g8, g9⟩ := h
    obtain rfl : c' = c := by have := Value.pointer.inj e1; simpa using this.symm
    obtain rfl : cx' = cx := by have := Value.pointer.inj e2; simpa using this.symm
    clear e1 e2 h3 h4 h5 h6 h7 h8
    have G3 := g3.below hb
    have G4 := g4.below hb
    have h8 : ∀ k, K k → k < w.heap.size ∧ ¬ F' k ∧ ¬ R' k ∧ ¬ Fx' k ∧ k ≠ cx' := fun k hk => by
      obtain ⟨lv, Q, hI⟩ := id g3
      obtain ⟨v, xs, -, -, -, hx⟩ := id g4
      have hcx := g4.lt
      have hk' := hK k hk
      exact ⟨hk'.2, fun hf => by have := (hI.low k hf).2; omega, fun hr => by have := (hI.apart k hr).1; omega, fun hf => by have := (hx k hf).1; omega, by omega⟩
    exact (hear W0.heap.size c' F' R' E p.1 n vp vo vv vh frm w (hT.below h9) G3 h9.size hok.1 hv hkd hlen (fun k hk => ⟨(hE k hk).2.1, fun hf => by have := (g3.low k hf).2; have := (hE k hk).1; omega⟩)).mono fun e w' hh => play_told rfl rfl (fun k hk => g3.low k hk) G4 g5 g6 g7 h8 h9 (fun k hk => ⟨fun e => by have := g4.lt; have := (hE k hk).1; omega, (hE k hk).2.2⟩) hh

theorem progWake
    (W0 wE : World) (gv xv : Value) (K : Nat → Prop) (op : Option (Gz × Gz)) (w : World) (h : PSt W0 gv xv (fun _ => False) op wE) (hb : Below wE.heap.size wE w) (hK : ∀ k, K k → wE.heap.size ≤ k ∧ k < w.heap.size) (hok : POk op) (hT : Tab W0)
    :
    Calls Tryd.prog 21 #[gv] w (PTold W0 wE w gv xv K 44 (Cl.wake.said op) (Cl.wake.mid op)) := by
  have h0 := h.grow (K' := K) hb (fun k hk => .inr (hK k hk))
  cases op with
  | none =>
    obtain ⟨rfl, rfl, h9⟩ := id h0
    exact (wake_nil w).mono fun e w' ⟨he, hw⟩ => he ▸ hw ▸ PTold.nilP h0 (Below.refl _ _)
  | some p =>
    obtain ⟨c, cx, F, R, Fx, rfl, rfl, h3, h4, h5, h6, h7, h8, h9⟩ := id h0
    obtain ⟨c', cx', F', R', Fx', e1, e2, g3, g4, g5, g6, g7, g8, g9⟩ := h
    obtain rfl : c' = c := by have := Value.pointer.inj e1; simpa using this.symm
    obtain rfl : cx' = cx := by have := Value.pointer.inj e2; simpa using this.symm
    clear e1 e2 h3 h4 h5 h6 h7 h8
    have G3 := g3.below hb
    have G4 := g4.below hb
    have h8 : ∀ k, K k → k < w.heap.size ∧ ¬ F' k ∧ ¬ R' k ∧ ¬ Fx' k ∧ k ≠ cx' := fun k hk => by
      obtain ⟨lv, Q, hI⟩ := id g3
      obtain ⟨v, xs, -, -, -, hx⟩ := id g4
      have hcx := g4.lt
      have hk' := hK k hk
      exact ⟨hk'.2, fun hf => by have := (hI.low k hf).2; omega, fun hr => by have := (hI.apart k hr).1; omega, fun hf => by have := (hx k hf).1; omega, by omega⟩
    exact (wake W0.heap.size c' F' R' p.1 w G3 h9.size hok.1).mono fun e w' hh => play_told rfl rfl (fun k hk => g3.low k hk) G4 g5 g6 g7 h8 h9 (fun k hk => hk.elim) hh

theorem progQuit
    (W0 wE : World) (gv xv : Value) (K : Nat → Prop) (op : Option (Gz × Gz)) (w : World) (h : PSt W0 gv xv (fun _ => False) op wE) (hb : Below wE.heap.size wE w) (hK : ∀ k, K k → wE.heap.size ≤ k ∧ k < w.heap.size) (hok : POk op) (hT : Tab W0)
    :
    Calls Tryd.prog 16 #[gv] w (PTold W0 wE w gv xv K 44 (Cl.quit.said op) (Cl.quit.mid op)) := by
  have h0 := h.grow (K' := K) hb (fun k hk => .inr (hK k hk))
  cases op with
  | none =>
    obtain ⟨rfl, rfl, h9⟩ := id h0
    exact (quit_nil w).mono fun e w' ⟨he, hw⟩ => he ▸ hw ▸ PTold.nilP h0 (Below.refl _ _)
  | some p =>
    obtain ⟨c, cx, F, R, Fx, rfl, rfl, h3, h4, h5, h6, h7, h8, h9⟩ := id h0
    obtain ⟨c', cx', F', R', Fx', e1, e2, g3, g4, g5, g6, g7, g8, g9⟩ := h
    obtain rfl : c' = c := by have := Value.pointer.inj e1; simpa using this.symm
    obtain rfl : cx' = cx := by have := Value.pointer.inj e2; simpa using this.symm
    clear e1 e2 h3 h4 h5 h6 h7 h8
    have G3 := g3.below hb
    have G4 := g4.below hb
    have h8 : ∀ k, K k → k < w.heap.size ∧ ¬ F' k ∧ ¬ R' k ∧ ¬ Fx' k ∧ k ≠ cx' := fun k hk => by
      obtain ⟨lv, Q, hI⟩ := id g3
      obtain ⟨v, xs, -, -, -, hx⟩ := id g4
      have hcx := g4.lt
      have hk' := hK k hk
      exact ⟨hk'.2, fun hf => by have := (hI.low k hf).2; omega, fun hr => by have := (hI.apart k hr).1; omega, fun hf => by have := (hx k hf).1; omega, by omega⟩
    exact (quit W0.heap.size c' F' R' p.1 w G3 h9.size (by have := hok.1.most; omega)).mono fun e w' hh => play_told rfl rfl (fun k hk => g3.low k hk) G4 g5 g6 g7 h8 h9 (fun k hk => hk.elim) hh


theorem docAsk
    (W0 wE : World) (gv xv : Value) (K E : Nat → Prop) (op0 op : Option (Gz × Gz)) (w : World) (h0 : PSt W0 gv xv (fun _ => False) op0 wE) (h : PSt W0 gv xv (fun k => K k ∨ E k) op w) (hE : ∀ k, E k → ¬ K k) (hok : ∀ p, op = .some p → GOk p.2 ∧ DOk p.2)
    (n : Nt) (vp vo vv vh : Value) (frm stamp mark : Int) (hv : NoteM w E n vp vo vv vh) (hfit : n.Fits) (hnl : n.vec.length ≤ 1000000) :
    Calls Tryd.prog 23 #[xv, .int .i64 frm, .agg (n.cells vp vo vv vh), .int .u64 stamp, .int .u64 mark] w fun e w' => PTold W0 wE w gv xv K 120 ((Cl.ask frm n stamp mark).dsaid op) ((Cl.ask frm n stamp mark).doc op) e w' ∧ Swap xv w w' := by
  have hs := h.since
  have hn : PSt W0 gv xv K op w := h.grow (Below.refl _ _) (fun k hk => .inl (.inl hk))
  cases op with
  | none =>
    obtain ⟨rfl, rfl, h9⟩ := id h
    exact (dask_nil n vp vo vv vh frm stamp mark w).mono fun e w' ⟨he, hb'⟩ => ⟨he ▸ PTold.nilP hn hb', .inl hb'⟩
  | some p =>
    obtain ⟨c, cx, F, R, Fx, rfl, rfl, h3, h4, h5, h6, h7, h8, h9⟩ := id h
    have hcx : cx < wE.heap.size := by
      cases op0 with
      | none => obtain ⟨e, -, -⟩ := h0; cases e
      | some p0 =>
        obtain ⟨c', cx', F', R', Fx', e1, e2, g3, g4, -⟩ := h0
        obtain rfl : cx' = cx := by have := Value.pointer.inj e2; simpa using this.symm
        exact g4.lt
    obtain ⟨k1, k2⟩ := hok p rfl
    exact (dask cx Fx E p.2 n vp vo vv vh frm stamp mark w h4 k1 hv (fun k hk => ⟨(h8 k (.inr hk)).1, (h8 k (.inr hk)).2.2.2.2⟩) hfit hnl (fun hk W hb => by
      have := refRightN n (.inl hk) hfit E vp vo vv vh W (hv.read.below hb)
      rwa [rgtB_eq n (.inl hk) hfit] at this)).mono fun e w' hh => play_doc rfl rfl h3 h4 h5 h6 h7 (fun k hk => h8 k (.inl hk)) h9 hcx (fun k hk => ⟨(h8 k (.inr hk)).2.1, hE k hk⟩) hh

theorem docHear
    (W0 wE : World) (gv xv : Value) (K E : Nat → Prop) (op0 op : Option (Gz × Gz)) (w : World) (h0 : PSt W0 gv xv (fun _ => False) op0 wE) (h : PSt W0 gv xv (fun k => K k ∨ E k) op w) (hE : ∀ k, E k → ¬ K k) (hok : ∀ p, op = .some p → GOk p.2 ∧ DOk p.2)
    (n : Nt) (vp vo vv vh : Value) (frm : Int) (hv : NoteM w E n vp vo vv vh) (hfit : n.Fits) :
    Calls Tryd.prog 26 #[xv, .int .i64 frm, .agg (n.cells vp vo vv vh)] w fun e w' => PTold W0 wE w gv xv K 120 ((Cl.hear frm n).dsaid op) ((Cl.hear frm n).doc op) e w' ∧ Swap xv w w' := by
  have hs := h.since
  have hn : PSt W0 gv xv K op w := h.grow (Below.refl _ _) (fun k hk => .inl (.inl hk))
  cases op with
  | none =>
    obtain ⟨rfl, rfl, h9⟩ := id h
    exact (dhear_nil n vp vo vv vh frm w).mono fun e w' ⟨he, hb'⟩ => ⟨he ▸ PTold.nilP hn hb', .inl hb'⟩
  | some p =>
    obtain ⟨c, cx, F, R, Fx, rfl, rfl, h3, h4, h5, h6, h7, h8, h9⟩ := id h
    have hcx : cx < wE.heap.size := by
      cases op0 with
      | none => obtain ⟨e, -, -⟩ := h0; cases e
      | some p0 =>
        obtain ⟨c', cx', F', R', Fx', e1, e2, g3, g4, -⟩ := h0
        obtain rfl : cx' = cx := by have := Value.pointer.inj e2; simpa using this.symm
        exact g4.lt
    obtain ⟨k1, k2⟩ := hok p rfl
    exact (dhear cx Fx E p.2 n vp vo vv vh frm w h4 k1 (fun q hq => (k2 q hq).1) hv (fun k hk => ⟨(h8 k (.inr hk)).1, (h8 k (.inr hk)).2.2.2.2⟩) hfit (fun hk W hb => by
      have := refRightN n (.inr hk) hfit E vp vo vv vh W (hv.read.below hb)
      rwa [rgtB_eq n (.inr hk) hfit] at this)).mono fun e w' hh => play_doc rfl rfl h3 h4 h5 h6 h7 (fun k hk => h8 k (.inl hk)) h9 hcx (fun k hk => ⟨(h8 k (.inr hk)).2.1, hE k hk⟩) hh

theorem docWake
    (W0 wE : World) (gv xv : Value) (K E : Nat → Prop) (op0 op : Option (Gz × Gz)) (w : World) (h0 : PSt W0 gv xv (fun _ => False) op0 wE) (h : PSt W0 gv xv (fun k => K k ∨ E k) op w) (hE : ∀ k, E k → ¬ K k) (hok : ∀ p, op = .some p → GOk p.2 ∧ DOk p.2)
    :
    Calls Tryd.prog 24 #[xv] w fun e w' => PTold W0 wE w gv xv K 120 (Cl.wake.dsaid op) (Cl.wake.doc op) e w' ∧ Swap xv w w' := by
  have hs := h.since
  have hn : PSt W0 gv xv K op w := h.grow (Below.refl _ _) (fun k hk => .inl (.inl hk))
  cases op with
  | none =>
    obtain ⟨rfl, rfl, h9⟩ := id h
    exact (dwake_nil w).mono fun e w' ⟨he, hw⟩ => ⟨he ▸ hw ▸ PTold.nilP hn (Below.refl _ _), .inl (hw ▸ Below.refl _ _)⟩
  | some p =>
    obtain ⟨c, cx, F, R, Fx, rfl, rfl, h3, h4, h5, h6, h7, h8, h9⟩ := id h
    have hcx : cx < wE.heap.size := by
      cases op0 with
      | none => obtain ⟨e, -, -⟩ := h0; cases e
      | some p0 =>
        obtain ⟨c', cx', F', R', Fx', e1, e2, g3, g4, -⟩ := h0
        obtain rfl : cx' = cx := by have := Value.pointer.inj e2; simpa using this.symm
        exact g4.lt
    obtain ⟨k1, k2⟩ := hok p rfl
    exact (dwake cx Fx p.2 w h4 k1).mono fun e w' hh => play_doc rfl rfl h3 h4 h5 h6 h7 (fun k hk => h8 k (.inl hk)) h9 hcx (fun k hk => hk.elim) hh

theorem docQuit
    (W0 wE : World) (gv xv : Value) (K E : Nat → Prop) (op0 op : Option (Gz × Gz)) (w : World) (h0 : PSt W0 gv xv (fun _ => False) op0 wE) (h : PSt W0 gv xv (fun k => K k ∨ E k) op w) (hE : ∀ k, E k → ¬ K k) (hok : ∀ p, op = .some p → GOk p.2 ∧ DOk p.2)
    :
    Calls Tryd.prog 25 #[xv] w fun e w' => PTold W0 wE w gv xv K 120 (Cl.quit.dsaid op) (Cl.quit.doc op) e w' ∧ Swap xv w w' := by
  have hs := h.since
  have hn : PSt W0 gv xv K op w := h.grow (Below.refl _ _) (fun k hk => .inl (.inl hk))
  cases op with
  | none =>
    obtain ⟨rfl, rfl, h9⟩ := id h
    exact (dquit_nil w).mono fun e w' ⟨he, hw⟩ => ⟨he ▸ hw ▸ PTold.nilP hn (Below.refl _ _), .inl (hw ▸ Below.refl _ _)⟩
  | some p =>
    obtain ⟨c, cx, F, R, Fx, rfl, rfl, h3, h4, h5, h6, h7, h8, h9⟩ := id h
    have hcx : cx < wE.heap.size := by
      cases op0 with
      | none => obtain ⟨e, -, -⟩ := h0; cases e
      | some p0 =>
        obtain ⟨c', cx', F', R', Fx', e1, e2, g3, g4, -⟩ := h0
        obtain rfl : cx' = cx := by have := Value.pointer.inj e2; simpa using this.symm
        exact g4.lt
    obtain ⟨k1, k2⟩ := hok p rfl
    exact (dquit cx Fx p.2 w h4 (by have := k1.most; omega)).mono fun e w' hh => play_doc rfl rfl h3 h4 h5 h6 h7 (fun k hk => h8 k (.inl hk)) h9 hcx (fun k hk => hk.elim) hh

/-- how many are under way -/
def opLen : Option (Gz × Gz) → Nat
  | .none => 0
  | .some p => p.1.l.length

def opOld (s : Int) : Option (Gz × Gz) → Int
  | .none => s
  | .some p => oldZ p.1.l s

theorem lenP {W0 w : World} {gv xv : Value} {K : Nat → Prop} {op : Option (Gz × Gz)} (h : PSt W0 gv xv K op w) : Calls Tryd.prog 15 #[gv] w fun e w' => e = .returned (.int .i64 (opLen op)) ∧ w = w' := by
  cases op with
  | none => obtain ⟨rfl, -, -⟩ := h; exact glen_nil w
  | some p => obtain ⟨c, cx, F, R, Fx, rfl, rfl, h3, -⟩ := h; exact glen _ c F R p.1 w h3

theorem oldP {W0 w : World} {gv xv : Value} {K : Nat → Prop} {op : Option (Gz × Gz)} (h : PSt W0 gv xv K op w) (hok : POk op) (s : Int) : Calls Tryd.prog 22 #[gv, .int .u64 s] w fun e w' => e = .returned (.int .u64 (opOld s op)) ∧ w = w' := by
  cases op with
  | none => obtain ⟨rfl, -, -⟩ := h; exact oldest_nil s w
  | some p => obtain ⟨c, cx, F, R, Fx, rfl, rfl, h3, -⟩ := h; exact oldest _ c F R p.1 s w h3 (by have := hok.1.most; omega)

theorem doldP {W0 w : World} {gv xv : Value} {K : Nat → Prop} {op : Option (Gz × Gz)} (h : PSt W0 gv xv K op w) (hok : POk op) (s : Int) : Calls Tryd.prog 30 #[xv, .int .u64 s] w fun e w' => e = .returned (.int .u64 (opOld s op)) ∧ Below w.heap.size w w' := by
  cases op with
  | none => obtain ⟨-, rfl, -⟩ := h; exact (doldest_nil s w).mono fun e w' ⟨a, b⟩ => ⟨a, b ▸ Below.refl _ _⟩
  | some p =>
    obtain ⟨c, cx, F, R, Fx, rfl, rfl, h3, h4, -⟩ := h
    have := doldest cx Fx p.2 s w h4
    rw [← hok.2.2] at this
    exact this

end Go.Proofs.YtfmlhdikagogcaaDoor

namespace Go.Proofs.YtfmlhdikagogcaaDoor
open Go.RowKit
set_option maxRecDepth 20000

theorem NoteV.one16 {w : World} {F : Nat → Prop} {n : Nt} {vp vo vv vh : Value} (h : NoteV w F n vp vo vv vh) : (n.cells vp vo vv vh).all (·.oneCell') = true := by
  obtain ⟨p0, q0, rfl, -, -, -, -⟩ := h.parts.slice
  obtain ⟨p1, q1, rfl, -, -, -, -⟩ := id h.ops
  obtain ⟨p2, q2, rfl, -, -, -, -⟩ := h.vec.slice
  obtain ⟨p3, q3, rfl, -, -, -, -⟩ := id h.hits
  simp [Nt.cells, Value.oneCell']

/-- what both have told, and all that goes on -/
def JoinC (w wE Ws : World) (ga xa : Value) (K : Nat → Prop) (va vb : Value) (wc : World) : Prop :=
  ∃ (rs ss : List Mv) (G1 G2 : Nat → Prop) (B1 B2 : Nat) (op : Option (Gz × Gz)), wc.ownsRow B1 44 17 va rs.length (flatM rs) ∧ MailF wc G1 rs ∧ wc.ownsRow B2 120 17 vb ss.length (flatM ss) ∧ MailF wc G2 ss ∧ rs.map Mv.says = ss.map Mv.says ∧ rs.length ≤ 100 ∧
    PSt w ga xa K op wc ∧ POk op ∧ Ws.heap.size ≤ wc.heap.size ∧ (∀ j, wE.heap.size ≤ j → j < Ws.heap.size → wc.heap[j]? = Ws.heap[j]?)

theorem joinC {w wE Ws Wp wA wB : World} {ga xa va vb : Value} {K K' : Nat → Prop} {op : Option (Gz × Gz)} {cl : Cl} {e1 e2 : Ending} (hok : POk op) (hWs : Below Ws.heap.size Ws Wp) (hE : wE.heap.size ≤ Ws.heap.size) (h1 : PTold w wE Wp ga xa K' 44 (cl.said op) (cl.mid op) e1 wA)
    (h2 : PTold w wE wA ga xa K 120 (cl.dsaid (cl.mid op)) (cl.doc (cl.mid op)) e2 wB) (hs : Swap xa wA wB) (ea : e1 = .returned va) (eb : e2 = .returned vb) : JoinC w wE Ws ga xa K va vb wB := by
  obtain ⟨va', rs, G1, a1, a2, a3, a4, a5, a6, a7, a8⟩ := h1
  obtain ⟨vb', ss, G2, b1, b2, b3, b4, b5, b6, b7, b8⟩ := h2
  rw [ea] at a1
  rw [eb] at b1
  obtain rfl : va = va' := Ending.returned.inj a1
  obtain rfl : vb = vb' := Ending.returned.inj b1
  obtain ⟨k1, k2, k3, k4⟩ := hok.step cl
  have hsz := hWs.size
  have bare : ∀ r ∈ rs, BareN r.note := fun r hr => k3 _ (by rw [← a3]; exact List.mem_map.2 ⟨r, hr, rfl⟩)
  obtain ⟨G', hm⟩ := hs.mail a4 bare a5
  refine ⟨rs, ss, G', G2, _, _, _, own_agree a2 (fun j e => b8 j (by have := (a2.lt j e).1; omega) (a2.lt j e).2), hm, b2, b4, by rw [a3, b3, k2], ?_, b6, k1, by omega, fun j j1 j2 => ?_⟩
  · have := congrArg List.length a3
    rw [List.length_map] at this
    rw [this]; exact k4
  · rw [b8 j j1 (by omega), a8 j j1 (by omega)]
    exact hWs.block j j2

theorem JoinC.since {w wE Ws : World} {ga xa va vb : Value} {K : Nat → Prop} {wc : World} (h : JoinC w wE Ws ga xa K va vb wc) : Below w.heap.size w wc := by
  obtain ⟨rs, ss, G1, G2, B1, B2, op, -, -, -, -, -, -, h, -⟩ := h
  exact h.since

/-- a row of numbers, written -/
def NumRow (w : World) (B e n : Nat) (v : Value) : Prop := ∃ us : List Value, w.ownsRow B e 1 v n us ∧ ∀ j (h : j < us.length), ∃ x : Int, us[j] = .int .i32 x

theorem NumRow.at {w : World} {B e n : Nat} {p : Option Addr} {m c : Nat} (h : NumRow w B e n (.slice p m c)) {j : Nat} (hj : j < n) : ∃ b x, p = some ⟨b, 0, none⟩ ∧ m = n ∧ w.cell? ⟨b, j, none⟩ = some (.int .i32 x) ∧ w.frozen? ⟨b, j, none⟩ = false ∧ ∀ y : Int, NumRow (w.setCell ⟨b, j, none⟩ (.int .i32 y)) B e n (.slice p m c) := by
  obtain ⟨us, ho, hx⟩ := h
  have hl : us.length = n := by have := ho.1; omega
  obtain ⟨b, hp, hm, hc⟩ := row_elem ho (i := j) (by omega)
  obtain ⟨x, ex⟩ := hx j (by omega)
  rw [ex] at hc
  refine ⟨b, x, hp, hm, hc, ?_, fun y => ⟨us.set j (.int .i32 y), own_setCell ho (by rw [hp]; rfl) (by omega) _, fun i hi => ?_⟩⟩
  · obtain ⟨-, ⟨h2, -⟩ | ⟨g, cp, cur, hv, hb, hg, -⟩⟩ := ho
    · rw [hp] at h2; cases h2
    · obtain ⟨e1, -, -⟩ := Value.slice.inj hv
      rw [hp] at e1
      have e2 : b = g := by simpa using e1
      subst e2
      exact thawed hg j
  · rw [List.getElem_set]
    split
    · exact ⟨y, rfl⟩
    · exact hx i (by simpa using hi)

theorem NumRow.of {w : World} {B e n : Nat} {v : Value} {xs : List Int} (h : w.ownsRow B e 1 v n (xs.map (Value.int .i32))) : NumRow w B e n v := ⟨_, h, fun j hj => ⟨_, by rw [List.getElem_map]⟩⟩

end Go.Proofs.YtfmlhdikagogcaaDoor

namespace Go.Proofs.YtfmlhdikagogcaaDoor
open Go.ChangeShapes Go.WideShapes Go.ChangeAt Go.RowKit Go.Deep
set_option maxRecDepth 20000

/-- one call of a script -/
structure Og where
  act : Int
  frm : Int
  note : Nt
  stamp : Int
  mark : Int

def Og.cells (o : Og) (vp vo vv vh : Value) : List Value := .int .u8 o.act :: .int .i64 o.frm :: ((o.note.cells vp vo vv vh).toList ++ [.int .u64 o.stamp, .int .u64 o.mark])

structure Og.Fits (o : Og) : Prop where
  act : 0 ≤ o.act ∧ o.act ≤ 255
  frm : -9223372036854775808 ≤ o.frm ∧ o.frm ≤ 9223372036854775807
  note : o.note.Fits
  stamp : 0 ≤ o.stamp ∧ o.stamp ≤ 18446744073709551615
  mark : 0 ≤ o.mark ∧ o.mark ≤ 18446744073709551615

/-- a slice of calls reads so -/
def ScriptG (w : World) (v : Value) (l : List Og) : Prop :=
  ∃ p cap, v = .slice p l.length cap ∧ l.length ≤ cap ∧ cap ≤ 9223372036854775807 ∧ (p = none → cap = 0) ∧
    ∀ i (hi : i < l.length), ∃ b off vp vo vv vh, p = some ⟨b, off, none⟩ ∧ (∀ j u, (l[i].cells vp vo vv vh)[j]? = some u → w.cell? ⟨b, off + i * 20 + j, none⟩ = some u) ∧ NoteV w (fun _ => True) l[i].note vp vo vv vh

theorem NoteV.downto {w w' : World} {n : Nt} {vp vo vv vh : Value} {F : Nat → Prop} (h : NoteV w F n vp vo vv vh) (hb : Below w.heap.size w w') : NoteV w' F n vp vo vv vh := h.below hb

theorem ScriptG.below {w w' : World} {v : Value} {l : List Og} (h : ScriptG w v l) (hb : Below w.heap.size w w') : ScriptG w' v l := by
  obtain ⟨p, cap, hv, h1, h2, h3, h4⟩ := h
  refine ⟨p, cap, hv, h1, h2, h3, fun i hi => ?_⟩
  obtain ⟨b, off, vp, vo, vv, vh, hp, hc, hn⟩ := h4 i hi
  exact ⟨b, off, vp, vo, vv, vh, hp, fun j u hj => below_cells hb (hc j u hj), hn.below hb⟩

theorem ScriptG.elem {w : World} {p : Option Addr} {n cap : Nat} {l : List Og} (h : ScriptG w (.slice p n cap) l) {i : Nat} (hi : i < l.length) :
    ∃ b off vp vo vv vh, p = some ⟨b, off, none⟩ ∧ (∀ j u, (l[i].cells vp vo vv vh)[j]? = some u → w.cell? ⟨b, off + i * 20 + j, none⟩ = some u) ∧ NoteV w (fun _ => True) l[i].note vp vo vv vh := by
  obtain ⟨p', cap', hv, _, _, _, h⟩ := h
  simp only [Value.slice.injEq] at hv
  obtain ⟨rfl, _, _⟩ := hv
  exact h i hi

section
variable {H : Type} {enc : TypeId × Value → H} {W : World}

theorem cells_all {a : Addr} {n : Nat} {cs : List Value} (h : W.cells? 0 a n = some cs) : cs.length = n ∧ ∀ j, j < n → W.cell? (a.add j) = cs[j]? := by
  unfold World.cells? at h
  simp only [Nat.zero_le, if_true] at h
  exact ⟨by simpa using mapM_some_length h, fun j hj => mapM_some_get h j j (by simp [hj])⟩

theorem list20 {cs : List Value} (h : cs.length = 20) : ∃ a0 a1 c s m, cs = a0 :: a1 :: (c ++ [s, m]) ∧ c.length = 16 := by
  match cs, h with
  | [a0, a1, b0, b1, b2, b3, b4, b5, b6, b7, b8, b9, b10, b11, b12, b13, b14, b15, s, m], _ => exact ⟨a0, a1, [b0, b1, b2, b3, b4, b5, b6, b7, b8, b9, b10, b11, b12, b13, b14, b15], s, m, rfl, rfl⟩

theorem op_of_trod {fuel : Nat} {cs : List Value} {x : DataW H × List MemPlace} (hf : DataW.trod enc Tryd.prog W 0 (fun _ => true) true fuel 61 cs = some x) :
    ∃ o vp vo vv vh, cs = Og.cells o vp vo vv vh ∧ NoteV W (fun _ => True) o.note vp vo vv vh ∧ o.Fits := by
  obtain ⟨xs, m, -, -, hl, hlen, hfs⟩ := DataW.trod_struct Tryd.underlying61 hf
  rw [show Tryd.prog.cellsOf 61 = 20 by kernel_rfl] at hl
  obtain ⟨a0, a1, c, s, mk, rfl, hc⟩ := list20 hl
  have hx : xs.length = 5 := hlen
  have hin : ∀ i, i < 5 → ∃ y, xs[i]? = some y := fun i hi => ⟨xs[i], List.getElem?_eq_getElem (by omega)⟩
  obtain ⟨y0, hy0⟩ := hin 0 (by omega)
  have t0 := (hfs 0 _ rfl).trans hy0
  obtain ⟨y1, hy1⟩ := hin 1 (by omega)
  have t1 := (hfs 1 _ rfl).trans hy1
  obtain ⟨y2, hy2⟩ := hin 2 (by omega)
  have t2 := (hfs 2 _ rfl).trans hy2
  obtain ⟨y3, hy3⟩ := hin 3 (by omega)
  have t3 := (hfs 3 _ rfl).trans hy3
  obtain ⟨y4, hy4⟩ := hin 4 (by omega)
  have t4 := (hfs 4 _ rfl).trans hy4
  obtain ⟨z0, q0, _, w0⟩ := DataW.trod_int Tryd.underlying5 (by simpa [show Tryd.prog.cellsOf 5 = 1 by kernel_rfl] using t0)
  obtain ⟨z1, q1, _, w1⟩ := DataW.trod_int Tryd.underlying3 (by simpa [show Tryd.prog.cellsOf 3 = 1 by kernel_rfl] using t1)
  have e2 : ((a0 :: a1 :: (c ++ [s, mk])).drop 2).take 16 = c := by simp [hc]
  have e3 : ((a0 :: a1 :: (c ++ [s, mk])).drop 18).take 1 = [s] := by simp [List.drop_append, hc]
  have h17 : c.drop 17 = [] := List.drop_of_length_le (by omega)
  have e4 : ((a0 :: a1 :: (c ++ [s, mk])).drop 19).take 1 = [mk] := by simp [List.drop_append, hc, h17]
  have t2' : DataW.trod enc Tryd.prog W 0 (fun _ => true) true m 53 (((a0 :: a1 :: (c ++ [s, mk])).drop 2).take 16) = some y2 := by rw [← show Tryd.prog.cellsOf 53 = 16 by kernel_rfl]; exact t2
  have t3' : DataW.trod enc Tryd.prog W 0 (fun _ => true) true m 29 (((a0 :: a1 :: (c ++ [s, mk])).drop 18).take 1) = some y3 := by rw [← show Tryd.prog.cellsOf 29 = 1 by kernel_rfl]; exact t3
  have t4' : DataW.trod enc Tryd.prog W 0 (fun _ => true) true m 29 (((a0 :: a1 :: (c ++ [s, mk])).drop 19).take 1) = some y4 := by rw [← show Tryd.prog.cellsOf 29 = 1 by kernel_rfl]; exact t4
  rw [e2] at t2'
  rw [e3] at t3'
  rw [e4] at t4'
  obtain ⟨n, vp, vo, vv, vh, hcs, hn, hfit⟩ := note_of_trod t2'
  obtain ⟨z3, q3, _, w3⟩ := DataW.trod_int Tryd.underlying29 t3'
  obtain ⟨z4, q4, _, w4⟩ := DataW.trod_int Tryd.underlying29 t4'
  simp only [List.cons.injEq, and_true] at q0 q1 q3 q4
  subst q0 q1 q3 q4 hcs
  simp [Lit.wf, IntKind.min, IntKind.max, IntKind.signed, IntKind.bits] at w0 w1 w3 w4
  exact ⟨⟨z0, z1, n, z3, z4⟩, vp, vo, vv, vh, rfl, hn, ⟨w0, w1, hfit, w3, w4⟩⟩

/-- an argument that is a script -/
theorem open_scriptG {base : Nat} {v : Value} {d : DataW H} {ps : List MemPlace}
    (hok : Value.okWide Tryd.prog W .any base 58 v) (h : DataW.Trod enc Tryd.prog W 0 (fun _ => true) true 58 v d ps) :
    ∃ l, ScriptG W v l ∧ ∀ r ∈ l, r.Fits := by
  obtain ⟨a0, len0, cap0, rfl⟩ := okWide_slice Tryd.underlying58 hok
  obtain ⟨fuel, hf⟩ := h
  have hce : Tryd.prog.cellsOf 61 = 20 := by kernel_rfl
  rcases open_slice Tryd.underlying58 hf with ⟨hcs, _⟩ | ⟨a, len, cap, m, n, D, Pl, hcs, _, hl, hm, hmm, _, hel⟩
  · simp [Value.cells] at hcs
    obtain ⟨rfl, rfl, rfl⟩ := hcs
    exact ⟨[], ⟨none, 0, rfl, by simp, by simp, by simp, fun i hi => absurd hi (by simp)⟩, by simp⟩
  · simp only [if_true] at hmm
    subst hmm
    rw [hce] at hel
    have each : ∀ i, i < len → ∃ o : Og, ∃ vp vo vv vh, (∀ j u, (o.cells vp vo vv vh)[j]? = some u → W.cell? (a.add (i * 20 + j)) = some u) ∧ NoteV W (fun _ => True) o.note vp vo vv vh ∧ o.Fits := by
      intro i hi
      obtain ⟨cs', hcs', htr⟩ := hel i (by omega)
      obtain ⟨hlen, hg⟩ := cells_all hcs'
      obtain ⟨o, vp, vo, vv, vh, rfl, hn, hfit⟩ := op_of_trod htr
      refine ⟨o, vp, vo, vv, vh, fun j u hj => ?_, hn, hfit⟩
      have hj20 : j < 20 := by rw [← hlen]; exact (List.getElem?_eq_some_iff.1 hj).1
      rw [← hj, ← hg j hj20, add_add]
    obtain ⟨l, hll, hp⟩ := exists_list len each
    simp [Value.cells] at hcs
    obtain ⟨rfl, rfl, rfl⟩ := hcs
    refine ⟨l, ⟨some a, cap0, by rw [hll], by omega, by simpa [maxLen] using hm, by simp, fun i hi => ?_⟩, fun o ho => ?_⟩
    · obtain ⟨vp, vo, vv, vh, hc, hn, _⟩ := hp i hi
      obtain ⟨_, _, _, _, h0, _⟩ := hp 0 (by omega)
      have h00 := h0 0 _ rfl
      obtain ⟨b, off, spot⟩ := a
      obtain rfl : spot = none := by
        simpa [Addr.add] using World.cell?_spot h00
      refine ⟨b, off, vp, vo, vv, vh, rfl, fun j u hj => ?_, hn⟩
      have := hc j u hj
      rw [Addr.add_lit, ← Nat.add_assoc] at this
      exact this
    · obtain ⟨i, hi, rfl⟩ := List.mem_iff_getElem.1 ho
      obtain ⟨_, _, _, _, _, _, hfit⟩ := hp i hi
      exact hfit

end

end Go.Proofs.YtfmlhdikagogcaaDoor
