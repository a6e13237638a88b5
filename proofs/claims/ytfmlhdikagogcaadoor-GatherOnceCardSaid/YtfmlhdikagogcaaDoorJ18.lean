/-
  Which shard's an ID is.
  note: what a kind's fields say of a right note.
  gather: what a call leaves; what Ask answers; a question is put to the row.
  best: slices.Delete and slices.Insert at hits.
-/
import Derived.Test.YtfmlhdikagogcaaDoorJ01
import Derived.Test.YtfmlhdikagogcaaDoorJ08
import Derived.Test.YtfmlhdikagogcaaDoorJ17
import Derived.Test.YtfmlhdikagogcaaDoorJ15
namespace Go.Proofs.YtfmlhdikagogcaaDoor
open Go.RowKit
set_option maxRecDepth 20000

/-- the upper half, as Mul64's own text reckons it -/
def mulT (x y : Int) : Int := IntKind.u64.wrap (x / 4294967296 * bits BinOp.and IntKind.u64 y 4294967295) + IntKind.u64.wrap (bits BinOp.and IntKind.u64 x 4294967295 * bits BinOp.and IntKind.u64 y 4294967295) / 4294967296
def mulHi (x y : Int) : Int :=
  IntKind.u64.wrap (IntKind.u64.wrap (IntKind.u64.wrap (x / 4294967296 * (y / 4294967296)) + IntKind.u64.wrap (mulT x y) / 4294967296) +
    IntKind.u64.wrap (bits BinOp.and IntKind.u64 (IntKind.u64.wrap (mulT x y)) 4294967295 + IntKind.u64.wrap (bits BinOp.and IntKind.u64 x 4294967295 * (y / 4294967296))) / 4294967296)

theorem mul64 (x y : Int) (w : World) :
    Calls Tryd.prog 43 #[.int .u64 x, .int .u64 y] w fun e w' => e = .returned (.tuple #[.int .u64 (mulHi x y), .int .u64 (IntKind.u64.wrap (x * y))]) ∧ w = w' := by
  go_enter Tryd.func43, Tryd.ntmps43
  go_wp2
  go_ret2
  exact ⟨rfl, rfl⟩

/-- which shard's an ID is -/
def homeZ (id n : Int) : Int := if n < 1 then 0 else IntKind.u64.wrap (id * 11400714819323198485) / 4294967296 % n

theorem u64_range (x : Int) : 0 ≤ IntKind.u64.wrap x ∧ IntKind.u64.wrap x ≤ 18446744073709551615 := by
  simp only [IntKind.wrap, IntKind.bits, IntKind.signed]; simp; omega

theorem home_no (id n : Int) (w : World) (h : n < 1) :
    Calls Tryd.prog 35 #[.int .u64 id, .int .i64 n] w fun r w' => r = .returned (.int .i64 0) ∧ w = w' := by
  go_enter Tryd.func35, Tryd.ntmps35
  go_wp2
  go_ret
  exact ⟨rfl, rfl⟩

theorem home_yes (id n : Int) (w : World) (h : 1 ≤ n) (h2 : n ≤ 9223372036854775807) :
    Calls Tryd.prog 35 #[.int .u64 id, .int .i64 n] w fun r w' => r = .returned (.int .i64 (homeZ id n)) ∧ w = w' := by
  have hr := u64_range (id * 11400714819323198485)
  go_enter Tryd.func35, Tryd.ntmps35
  go_wp2
  go_ret
  refine ⟨ret_int ?_, rfl⟩
  rw [homeZ, if_neg (by omega)]
  have h3 := Int.emod_lt_of_pos (IntKind.u64.wrap (id * 11400714819323198485) / 4294967296) (show 0 < n by omega)
  have h4 := Int.emod_nonneg (IntKind.u64.wrap (id * 11400714819323198485) / 4294967296) (show n ≠ 0 by omega)
  exact IntWalk.wrap64_in _ (by omega)

theorem refHome_no (id n : Int) (w : World) (h : n < 1) :
    Calls Tryd.prog 17 #[.int .u64 id, .int .i64 n] w fun r w' => r = .returned (.int .i64 0) ∧ w = w' := by
  go_enter Tryd.func17, Tryd.ntmps17
  go_wp2
  go_ret
  exact ⟨rfl, rfl⟩

theorem refHome_yes (id n : Int) (w : World) (h : 1 ≤ n) (h2 : n ≤ 9223372036854775807) :
    Calls Tryd.prog 17 #[.int .u64 id, .int .i64 n] w fun r w' => r = .returned (.int .i64 (homeZ id n)) ∧ w = w' := by
  have hr := u64_range (id * 11400714819323198485)
  go_enter Tryd.func17, Tryd.ntmps17
  go_wp2_with (go_at_call 43; refine (mul64 _ _ _).mono ?_; rintro e w' ⟨rfl, rfl⟩)
  go_ret
  refine ⟨ret_int ?_, rfl⟩
  rw [homeZ, if_neg (by omega)]
  have h3 := Int.emod_lt_of_pos (IntKind.u64.wrap (id * 11400714819323198485) / 4294967296) (show 0 < n by omega)
  have h4 := Int.emod_nonneg (IntKind.u64.wrap (id * 11400714819323198485) / 4294967296) (show n ≠ 0 by omega)
  exact IntWalk.wrap64_in _ (by omega)

theorem home_range (id n : Int) (h : 1 ≤ n) : 0 ≤ homeZ id n ∧ homeZ id n < n := by
  rw [homeZ, if_neg (by omega)]
  exact ⟨Int.emod_nonneg _ (by omega), Int.emod_lt_of_pos _ (by omega)⟩

end Go.Proofs.YtfmlhdikagogcaaDoor

namespace Go.Proofs.YtfmlhdikagogcaaDoor
open Go.RowKit
set_option maxRecDepth 20000

theorem heldN_bit (l : List Bool) (j i : Nat) : (heldN l j).testBit i = (decide (j ≤ i) && l.getD (i - j) false) := by
  induction l generalizing j with
  | nil => simp [heldN]
  | cons b r ih =>
    unfold heldN
    rw [Nat.testBit_or, ih (j + 1)]
    rcases Nat.lt_trichotomy i j with h | h | h
    · rw [decide_eq_false (by omega), decide_eq_false (by omega)]
      cases b
      · simp
      · simp [Nat.one_shiftLeft, Nat.testBit_two_pow]; omega
    · subst h
      rw [decide_eq_true (Nat.le_refl _), decide_eq_false (by omega), Nat.sub_self]
      cases b <;> simp [Nat.one_shiftLeft, Nat.testBit_two_pow]
    · rw [decide_eq_true (by omega), decide_eq_true (by omega), show i - j = i - (j + 1) + 1 by omega, List.getD_cons_succ]
      cases b
      · simp
      · simp [Nat.one_shiftLeft, Nat.testBit_two_pow]; intro; omega

theorem fits_bit {n : Nt} (h : fitsB n = true) (hf : 0 ≤ fieldsZ n.kind) (i : Nat) (hi : i < 15) (hb : (fieldsZ n.kind).toNat.testBit i = false) : n.flags.getD i false = false := by
  have h0 : bits .andNot .i64 (heldN n.flags 0 : Int) (fieldsZ n.kind) = 0 := by simpa [fitsB] using h
  obtain ⟨f, hfe⟩ : ∃ f : Nat, fieldsZ n.kind = f := ⟨(fieldsZ n.kind).toNat, by omega⟩
  rw [hfe] at h0 hb
  have h1 := heldN_lt n.flags 0
  have h2 : n.flags.length = 15 := rfl
  rw [h2] at h1
  have h3 : IntKind.i64.wrap ((BitVec.ofInt 64 (heldN n.flags 0 : Int) &&& ~~~ BitVec.ofInt 64 (f : Int)).toNat : Int) = 0 := h0
  have h4 : (BitVec.ofInt 64 (heldN n.flags 0 : Int) &&& ~~~ BitVec.ofInt 64 (f : Int)).toNat = 0 := by
    generalize (BitVec.ofInt 64 (heldN n.flags 0 : Int) &&& ~~~ BitVec.ofInt 64 (f : Int)) = X at h3 ⊢
    have := X.isLt
    simp only [IntKind.wrap, IntKind.signed, IntKind.bits] at h3
    generalize X.toNat = y at *
    simp at h3
    omega
  have h5 : (BitVec.ofInt 64 (heldN n.flags 0 : Int) &&& ~~~ BitVec.ofInt 64 (f : Int)) = 0#64 := BitVec.eq_of_toNat_eq (by rw [h4]; rfl)
  have h6 := congrArg (fun x => x.getLsbD i) h5
  simp only [BitVec.getLsbD_and, BitVec.getLsbD_not, BitVec.getLsbD_zero] at h6
  have h7 : (BitVec.ofInt 64 (heldN n.flags 0 : Int)).getLsbD i = (heldN n.flags 0).testBit i := by
    rw [BitVec.getLsbD, BitVec.toNat_ofInt]
    congr 1; omega
  have h8 : (BitVec.ofInt 64 (f : Int)).getLsbD i = false := by
    rw [BitVec.getLsbD, BitVec.toNat_ofInt, show ((f : Int) % ((2 ^ 64 : Nat) : Int)).toNat = f % 2 ^ 64 by omega, Nat.testBit_mod_two_pow]
    simp at hb; simp [hb]
  rw [h7, h8, heldN_bit] at h6
  simpa [show i < 64 by omega] using h6

theorem right_parts {n : Nt} (h : rightN n = true) : 1 ≤ n.kind ∧ n.kind ≤ 22 ∧ fitsB n = true ∧ boundedB n = true := by
  unfold rightN at h
  simp only [Bool.and_eq_true, decide_eq_true_eq] at h
  exact ⟨h.1.1.1, h.1.1.2, h.1.2, h.2⟩

theorem bare_len {xs : List Int} (h : bareB xs = true) : xs.length ≤ 8 := by
  unfold bareB at h
  simp only [Bool.or_eq_true, beq_iff_eq] at h
  rcases h with h | h
  · omega
  · have := h; unfold rightB at this; simp at this; omega

/-- a query holds nothing but its vector -/
theorem right_query {n : Nt} (h : rightN n = true) (hk : n.kind = 8) : (n.parts = [] ∧ n.ops = [] ∧ n.hits = []) ∧ n.vec.length ≤ 8 ∧ n.txn ≤ 0 ∧ n.batch ≤ 0 ∧ n.stamp ≤ 0 ∧ n.after ≤ 0 ∧ n.mark ≤ 0 ∧ n.code = 0 ∧ n.who = 0 := by
  obtain ⟨-, -, hf, hb⟩ := right_parts h
  have hz : fieldsZ n.kind = 8672 := by rw [hk]; rfl
  have hN : (fieldsZ n.kind).toNat = 8672 := by rw [hz]; rfl
  have f := fun i hi hb => fits_bit hf (by rw [hz]; decide) i hi hb
  rw [hN] at f
  have f0 := f 0 (by decide) (by decide)
  have f1 := f 1 (by decide) (by decide)
  have f2 := f 2 (by decide) (by decide)
  have f3 := f 3 (by decide) (by decide)
  have f4 := f 4 (by decide) (by decide)
  have f9 := f 9 (by decide) (by decide)
  have f10 := f 10 (by decide) (by decide)
  have f11 := f 11 (by decide) (by decide)
  have f12 := f 12 (by decide) (by decide)
  have f14 := f 14 (by decide) (by decide)
  unfold Nt.flags at f0 f1 f2 f3 f4 f9 f10 f11 f12 f14
  simp at f0 f1 f2 f3 f4 f9 f10 f11 f12 f14
  unfold boundedB at hb
  simp only [Bool.and_eq_true] at hb
  have hl := hb.1.1.1.2
  unfold lensB at hl
  simp only [Bool.and_eq_true] at hl
  exact ⟨⟨f11, f12, f14⟩, bare_len hl.2, f0, f1, f2, f3, f4, f9, f10⟩

/-- what has been seen tells hits alone, or an error -/
theorem right_seen {n : Nt} (h : rightN n = true) (hk : n.kind = 10) : n.hits.length ≤ 16 ∧ (∀ h ∈ n.hits, badHit h = false) ∧ 0 ≤ n.code ∧ n.code ≤ 13 := by
  obtain ⟨-, -, hf, hb⟩ := right_parts h
  unfold boundedB at hb
  simp only [Bool.and_eq_true] at hb
  have hl := hb.1.1.1.2
  have hn := hb.1.1.1.1
  have hh := hb.2
  unfold lensB at hl
  unfold numsB at hn
  simp only [Bool.and_eq_true, decide_eq_true_eq] at hl hn
  simp at hh
  exact ⟨hl.1.2, hh, hn.1.1.1.1.2, hn.2⟩

end Go.Proofs.YtfmlhdikagogcaaDoor

namespace Go.Proofs.YtfmlhdikagogcaaDoor
open Go.RowKit
set_option maxRecDepth 20000

/-- what a call that tells mail leaves -/
def GTold (w : World) (B c : Nat) (F R E : Nat → Prop) (l : List (Int × Nt)) (g' : Gz) (r : Ending) (w' : World) : Prop :=
  ∃ v rs, ∃ G F' R' : Nat → Prop, r = .returned v ∧ w'.ownsRow w.heap.size 44 17 v rs.length (flatM rs) ∧ rs.map Mv.says = l ∧ MailF w' G rs ∧ (∀ k, G k → k < w'.heap.size ∧ v.ownBlock ≠ some k) ∧ (∀ k, v.ownBlock = some k → ¬ F' k) ∧
    GAt w' B c F' R' g' ∧ Mod F w w' ∧ (∀ k, F' k → F k ∨ w.heap.size ≤ k) ∧ (∀ k, R' k → R k ∨ E k ∨ w.heap.size ≤ k)

/-- nothing is told -/
theorem GTold.none {w w' : World} {B c : Nat} {F R E : Nat → Prop} {g : Gz} (h : GAt w' B c F R g) (hm : Mod F w w') : GTold w B c F R E [] g (.returned (.slice none 0 0)) w' :=
  ⟨_, [], fun _ => False, F, R, rfl, World.ownsRow_nil _ _ _ _, rfl, fun r hr => absurd hr (by simp), fun _ h => h.elim, fun k h => by simp [Value.ownBlock] at h, h, hm, fun _ h => .inl h, fun _ h => .inl h⟩

/-- the gather is as it was -/
theorem GTold.same {w wr w' : World} {B c : Nat} {F R E : Nat → Prop} {g : Gz} {l : List (Int × Nt)} {r : Ending} (hG : GAt w B c F R g) (hb : Below w.heap.size w wr) (hR : ∀ k, R k → k < w.heap.size) (h : NewMails wr 44 R l r w') : GTold w B c F R E l g r w' := by
  obtain ⟨v, rs, G, rfl, ho, hs, hm, hG', hb'⟩ := h
  have hbb := hb.trans (hb'.mono hb.size)
  refine ⟨v, rs, G, F, R, rfl, own_mono ho hb.size, hs, hm, fun k hk => ⟨(hG' k hk).1, (hG' k hk).2.1⟩, fun k hk hF => ?_, hG.below hbb, Mod.of_below hbb, fun _ h => .inl h, fun _ h => .inl h⟩
  obtain ⟨lv, Q, hI⟩ := hG
  have := (hI.low k hF).2
  have := (ho.lt k hk).1
  have := hb.size
  omega

/-- sound numbers -/
structure GOk (g : Gz) : Prop where
  most : g.l.length ≤ 8
  shards : 1 ≤ g.shards ∧ g.shards ≤ 4
  each : ∀ q ∈ g.l, q.parts.length ≤ 4 ∧ q.note.vec.length ≤ 8 ∧ q.told.length < q.parts.length ∧ 0 ≤ q.note.k ∧ q.note.k ≤ 16 ∧ ∀ x ∈ q.told, x.2.length ≤ 16 ∧ ∀ h ∈ x.2, h.vec.length ≤ 8

/-- a question for a Query note -/
def askQ (g : Gz) (frm : Int) (n : Nt) (stamp mark : Int) : Qs :=
  ⟨{n with kind := 9, stamp := stamp, mark := mark, query := IntKind.u64.wrap (g.last + 1)}, frm, n.query, if n.vec.length = 0 then [1 + homeZ n.id g.shards] else (List.range g.shards.toNat).map fun (p : Nat) => (p : Int) + 1, []⟩

def isQ (frm : Int) (n : Nt) (q : Qs) : Bool := q.who == frm && q.query == n.query

def askZ (g : Gz) (frm : Int) (n : Nt) (stamp mark : Int) : List (Int × Nt) × Gz :=
  if oddB frm n 8 then ([], g) else
  match g.l.find? (isQ frm n) with
  | some q => (looksZ q, g)
  | none =>
    if 0 < n.vec.length ∧ (n.vec.length : Int) ≠ g.dim then ([(frm, resN 0 n.query 4 [])], g)
    else if 8 ≤ g.l.length then ([(frm, resN 0 n.query 8 [])], g)
    else (looksZ (askQ g frm n stamp mark), {g with last := IntKind.u64.wrap (g.last + 1), l := g.l ++ [askQ g frm n stamp mark]})

theorem cells_get {w : World} {b : Nat} {cs : Array Value} {t : TypeId} {fr : Nat × Nat} (h : w.heap[b]? = some (.cells cs t fr)) (j : Nat) : w.cell? ⟨b, j, none⟩ = cs[j]? := by simp [World.cell?, h]

theorem thawed {w : World} {b : Nat} {cs : Array Value} {t : TypeId} (h : w.heap[b]? = some (.cells cs t (0, 0))) (j : Nat) : w.frozen? ⟨b, j, none⟩ = false := by simp [World.frozen?, h]

theorem set_block {w : World} {b : Nat} {cs : Array Value} {t : TypeId} {fr : Nat × Nat} (h : w.heap[b]? = some (.cells cs t fr)) (j : Nat) (v : Value) : (w.setCell ⟨b, j, none⟩ v).heap[b]? = some (.cells (cs.setIfInBounds j v) t fr) := by
  simp only [World.setCell]
  rw [Array.getElem?_modify, if_pos rfl, h]
  rfl

theorem set_other {w : World} {b c : Nat} {o : Option Obj} (h : w.heap[c]? = o) (hne : c ≠ b) (j : Nat) (v : Value) : (w.setCell ⟨b, j, none⟩ v).heap[c]? = o := by
  rw [← h]; exact Below.heap_setCell _ _ _ _ (fun e => hne e)

/-- a question is put behind the others -/
theorem GIn.pushed {w w1 : World} {B c : Nat} {F R RQ : Nat → Prop} {g : Gz} {lv lv1 : Value} {Q : List Qp} {q : Qs} {x : Qp} {last : Int} (h : GIn w B c F R g lv Q) (hB : B ≤ w.heap.size) (hm : Mod (fun k => k = c ∨ lv.ownBlock = some k) w w1)
    (hc : w1.heap[c]? = some (.cells #[.int .i64 g.shards, .int .i64 g.dim, .int .u64 last, lv1] 80 (0, 0)))
    (ho : w1.ownsRow B 82 1 lv1 (g.l.length + 1) (Q.map Qp.ptr ++ [x.ptr]))
    (hlv : ∀ k, lv1.ownBlock = some k → lv.ownBlock = some k ∨ (w.heap.size ≤ k ∧ ¬ RQ k ∧ k ≠ x.mb))
    (hq : QAt w1 RQ x.b x.mb q x.vp x.vo x.vv x.vh x.pv) (hRQ : ∀ k, RQ k → w.heap.size ≤ k ∧ k < w1.heap.size) (hmb : w.heap.size ≤ x.mb ∧ x.mb < w1.heap.size ∧ ¬ RQ x.mb) :
    GAt w1 B c (fun k => F k ∨ k = x.mb ∨ lv1.ownBlock = some k) (fun k => R k ∨ RQ k) {g with last := last, l := g.l ++ [q]} ∧ Mod F w w1 := by
  have hsz := hm.size
  have hcl := (h.low c h.here).2
  have hold : ∀ k, k < w.heap.size → k ≠ c → lv.ownBlock ≠ some k → w1.heap[k]? = w.heap[k]? := fun k hk h1 h2 => hm.block k hk fun e => e.elim h1 h2
  have hlR : ∀ k, R k → k < w.heap.size ∧ k ≠ c ∧ lv.ownBlock ≠ some k := fun k hk => ⟨(h.apart k hk).1, fun e => (h.apart k hk).2 (e ▸ h.here), fun e => (h.apart k hk).2 (h.lvF k e).1⟩
  have hmq : ∀ y ∈ Q, y.mb < w.heap.size := fun y hy => (h.low _ (h.mbF y hy).1).2
  have hRb : ∀ i (h1 : i < Q.length), R Q[i].b := fun i h1 => (h.each i h1 (by rw [← h.len]; exact h1)).own
  refine ⟨⟨lv1, Q ++ [x], ?_⟩, hm.mono fun k _ hk => hk.elim (fun e => e ▸ h.here) (fun e => (h.lvF k e).1)⟩
  refine ⟨hc, ?_, by simp [h.len], ?_, ?_, ?_, ?_, ?_, .inl h.here, ?_, ?_⟩
  · simpa using ho
  · intro i h1 h2
    by_cases hi : i < Q.length
    · have hi' : i < g.l.length := by rw [← h.len]; exact hi
      have e1 : (Q ++ [x])[i] = Q[i] := List.getElem_append_left hi
      have e2 : (g.l ++ [q])[i]'h2 = g.l[i] := List.getElem_append_left hi'
      show QAt w1 _ (Q ++ [x])[i].b (Q ++ [x])[i].mb ((g.l ++ [q])[i]'h2) _ _ _ _ _
      rw [e1, e2]
      obtain ⟨m1, m2, m3⟩ := h.mbF Q[i] (List.getElem_mem hi)
      exact ((h.each i hi hi').agree (fun k hk => hold k (hlR k hk).1 (hlR k hk).2.1 (hlR k hk).2.2) (hold _ (h.low _ m1).2 m2 m3)).mono fun k hk => .inl hk
    · have hi2 : i = Q.length := by simp at h1; omega
      subst hi2
      have e1 : (Q ++ [x])[Q.length] = x := by simp
      have e2 : (g.l ++ [q])[Q.length]'h2 = q := by simp [h.len]
      show QAt w1 _ (Q ++ [x])[Q.length].b (Q ++ [x])[Q.length].mb ((g.l ++ [q])[Q.length]'h2) _ _ _ _ _
      rw [e1, e2]
      exact hq.mono fun k hk => .inr hk
  · rw [List.map_append, List.nodup_append]
    refine ⟨h.bs, by simp, fun a ha b hb => ?_⟩
    simp only [List.map_cons, List.map_nil, List.mem_singleton] at hb
    obtain ⟨y, hy, rfl⟩ := List.mem_map.1 ha
    obtain ⟨i, hi, rfl⟩ := List.mem_iff_getElem.1 hy
    have h1 := (hlR _ (hRb i hi)).1
    have h2 := (hRQ _ hq.own).1
    omega
  · rw [List.map_append, List.nodup_append]
    refine ⟨h.mbs, by simp, fun a ha b hb => ?_⟩
    simp only [List.map_cons, List.map_nil, List.mem_singleton] at hb
    obtain ⟨y, hy, rfl⟩ := List.mem_map.1 ha
    have h1 := hmq y hy
    have h2 := hmb.1
    omega
  · intro k hk
    refine ⟨.inr (.inr hk), ?_⟩
    rcases hlv k hk with e | ⟨e, -, -⟩
    · exact (h.lvF k e).2
    · omega
  · intro y hy
    rcases List.mem_append.1 hy with hy | hy
    · obtain ⟨m1, m2, m3⟩ := h.mbF y hy
      refine ⟨.inl m1, m2, fun e => ?_⟩
      have := hmq y hy
      rcases hlv _ e with e | ⟨e, -, -⟩
      · exact m3 e
      · omega
    · rw [List.mem_singleton.1 hy]
      refine ⟨.inr (.inl rfl), by have := hmb.1; omega, fun e => ?_⟩
      rcases hlv _ e with e | ⟨-, -, e⟩
      · have := (h.low _ (h.lvF _ e).1).2; have := hmb.1; omega
      · exact e rfl
  · intro k hk
    rcases hk with hk | rfl | hk
    · have := h.low k hk; omega
    · have := hmb.1; have := hmb.2.1; omega
    · exact ho.lt k hk
  · intro k hk
    rcases hk with hk | hk
    · have h1 := h.apart k hk
      refine ⟨by omega, ?_⟩
      rintro (h2 | rfl | h2)
      · exact h1.2 h2
      · have := hmb.1; omega
      · rcases hlv _ h2 with e | ⟨e, -, -⟩
        · exact h1.2 (h.lvF _ e).1
        · omega
    · have h1 := hRQ k hk
      refine ⟨h1.2, ?_⟩
      rintro (h2 | rfl | h2)
      · have := (h.low k h2).2; omega
      · exact hmb.2.2 hk
      · rcases hlv _ h2 with e | ⟨-, e, -⟩
        · have := (h.low _ (h.lvF _ e).1).2; omega
        · exact e hk

end Go.Proofs.YtfmlhdikagogcaaDoor

namespace Go.Proofs.YtfmlhdikagogcaaDoor
open Go.RowKit
set_option maxRecDepth 20000

/-- what Delete leaves -/
def Deleted (B g cap n : Nat) (rs : List Hv) (w : World) (e : Ending) (w' : World) : Prop :=
  e = .returned (.slice (some ⟨g, 0, none⟩) n cap) ∧ w'.ownsRow B 40 3 (.slice (some ⟨g, 0, none⟩) n cap) n (flat3 rs) ∧ Mod (fun k => k = g) w w'

theorem erase_parts (rs : List Hv) (i : Nat) (hi : i < rs.length) : flat3 (rs.take i) ++ flat3 (rs.drop (i + 1)) = flat3 (rs.eraseIdx i) := by
  rw [← flat3_append, List.eraseIdx_eq_take_drop_succ]

set_option maxHeartbeats 1000000 in
theorem delete (B g cap n1 : Nat) (rs : List Hv) (i : Nat) (hi : i ≤ n1) (hrn : rs.length = n1 + 1) (hone : ∀ r ∈ rs, r.vec.oneCell' = true) (w : World) (h : w.ownsRow B 40 3 (.slice (some ⟨g, 0, none⟩) (n1 + 1) cap) (n1 + 1) (flat3 rs)) (hn : n1 ≤ 1000000) :
    Calls Tryd.prog 79 #[.slice (some ⟨g, 0, none⟩) (n1 + 1) cap, .int .i64 i, .int .i64 (i + 1)] w (Deleted B g cap n1 (rs.eraseIdx i) w) := by
  obtain ⟨hc1, hc2, cur, hcur, hcs⟩ := own_cap h
  simp only [maxLen] at hc2
  obtain ⟨i0, hi0, hz0, hz1, hz2⟩ := info_parts rowHit.info
  -- the append, wherever the rest is said to begin
  have AP : ∀ (a : Addr) (c : Nat), (i + 1 < cap → a = ⟨g, (i + 1) * 3, none⟩) → ∃ w', (∀ ty, (Builtin.append_ #[35, 35] ty #[.slice (some ⟨g, 0, none⟩) i cap, .slice (some a) (n1 - i) c]).run Tryd.prog w.drew = .ok (.slice (some ⟨g, 0, none⟩) n1 cap) w') ∧
      w'.ownsRow B 40 3 (.slice (some ⟨g, 0, none⟩) n1 cap) n1 (flat3 (rs.eraseIdx i)) ∧ w.drew.grownBy w' (some g) := by
    intro a c ha
    have hd := own_below h (Below.refl _ w).drew
    have hp := own_prefix hd (k := i) (by omega)
    rw [flat3_take] at hp
    obtain ⟨w', hr, h2, h3⟩ := run_append_own_spare (P := Tryd.prog) w.drew B 35 0 40 i0 3 Tryd.underlying35 hi0 hz1 g i cap (flat3 (rs.take i)) hp a (n1 - i) c (flat3 (rs.drop (i + 1))) (by rw [flat3_length, List.length_drop]; omega)
      (fun j u hj => by
        have hlt : i + 1 < cap := by
          refine Nat.lt_of_not_le fun hle => ?_
          have : rs.drop (i + 1) = [] := List.drop_eq_nil_of_le (by omega)
          rw [this] at hj; simp [flat3] at hj
        obtain rfl := ha hlt
        rw [← flat3_drop, List.getElem?_drop] at hj
        rw [Addr.add_lit]
        have := own_rangeAt hd rfl 0 (flat3 rs) (fun j u h => by simpa using h)
        have := this _ _ hj
        simpa using this) (flat3_one fun r hr => hone r (List.mem_of_mem_drop hr)) (by omega)
    rw [erase_parts rs i (by omega)] at h2
    rw [show i + (n1 - i) = n1 by omega] at hr h2
    exact ⟨w', fun ty => hr, h2, h3⟩
  have hbase : ∀ (w' : World), w.drew.grownBy w' (some g) → Mod (fun k => k = g) w w' := fun w' hg => (Mod.of_below (Below.refl _ w).drew).grown hg (fun k hk => .inl (by cases hk; rfl))
  have HB := Lib.hid hbase
  have hg : g < w.heap.size := lt_block hcur
  clear h hone hcur hcs hbase hi0 hz0 hz1 hz2 hrn
  by_cases hic : i + 1 = cap
  · obtain rfl : i + 1 = cap := hic
    obtain rfl : i = n1 := by omega
    rw [Nat.sub_self] at AP
    obtain ⟨w1, hrun, ho1, hg1⟩ := AP ⟨g, 0, none⟩ 0 (fun hh => by first | rfl | omega)
    have RUN := Lib.hid hrun
    have hcl := run_clear1 (o := i * 3) ho1 (by omega) (1) 0
    have FIN := Lib.hid (And.intro (own_setCells_far [.int .u64 0, .int .u64 0, .slice none 0 0] (i * 3) w1 _ ho1 (Nat.le_refl _)) (mod_setCells (HB.out w1 hg1) (.inl rfl) [.int .u64 0, .int .u64 0, .slice none 0 0] (i * 3)))
    clear AP hrun ho1 hg1
    have hx1 : (i : Int) ≤ (((i + 1) : Nat) : Int) := by omega
    have hx2 : (i : Int) + 1 ≤ (i : Int) + 1 := by omega
    have hx3 : (i : Int) ≤ (i : Int) + 1 := by omega
    have hx4 : (0 : Int) ≤ (i : Int) + 1 := by omega
    have hx5 : ((i : Int) == (i : Int) + 1) = false := by rw [beq_eq_false_iff_ne]; omega
    go_enter Tryd.func79, Tryd.ntmps79
    go_wp2_with fail
    refine region_go (fun _ => True) (by kernel_rfl) ?hS0 (fun hH => ?_)
    case hS0 =>
      trivial
    refine tkY (v := ?_) 0 hH rfl (fun _ _ _ h => h) ?hc ?hw ?hy ?_
    case hc => decide +kernel
    case hw => rfl
    case hy => (intro w hS; (try dsimp only at hS); go_simp; try with_reducible rfl)
    (try simp only [Act.put]); (repeat (first | simp only [List.setIfInBounds_toArray] | simp only [List.set_cons_zero] | simp only [List.set_cons_succ]))
    refine tkY (v := ?_) 1 hH rfl (fun _ _ _ h => h) ?hc ?hw ?hy ?_
    case hc => decide +kernel
    case hw => rfl
    case hy => (intro w hS; (try dsimp only at hS); go_simp; try with_reducible rfl)
    (try simp only [Act.put]); (repeat (first | simp only [List.setIfInBounds_toArray] | simp only [List.set_cons_zero] | simp only [List.set_cons_succ]))
    refine tkY (v := ?_) 2 hH rfl (fun _ _ _ h => h) ?hc ?hw ?hy ?_
    case hc => decide +kernel
    case hw => rfl
    case hy => (intro w hS; (try dsimp only at hS); go_simp; try with_reducible rfl)
    (try simp only [Act.put]); (repeat (first | simp only [List.setIfInBounds_toArray] | simp only [List.set_cons_zero] | simp only [List.set_cons_succ]))
    refine tkY (v := ?_) 3 hH rfl (fun _ _ _ h => h) ?hc ?hw ?hy ?_
    case hc => decide +kernel
    case hw => rfl
    case hy => (intro w hS; (try dsimp only at hS); go_simp; try with_reducible rfl)
    (try simp only [Act.put]); (repeat (first | simp only [List.setIfInBounds_toArray] | simp only [List.set_cons_zero] | simp only [List.set_cons_succ]))
    refine tkY (v := ?_) 4 hH rfl (fun _ _ _ h => h) ?hc ?hw ?hy ?_
    case hc => decide +kernel
    case hw => rfl
    case hy => (intro w hS; (try dsimp only at hS); go_simp; try with_reducible rfl)
    (try simp only [Act.put]); (repeat (first | simp only [List.setIfInBounds_toArray] | simp only [List.set_cons_zero] | simp only [List.set_cons_succ]))
    refine tkY (v := ?_) 5 hH rfl (fun _ _ _ h => h) ?hc ?hw ?hy ?_
    case hc => decide +kernel
    case hw => rfl
    case hy => (intro w hS; (try dsimp only at hS); go_simp; try with_reducible rfl)
    (try simp only [Act.put]); (repeat (first | simp only [List.setIfInBounds_toArray] | simp only [List.set_cons_zero] | simp only [List.set_cons_succ]))
    refine spk 6 rfl ?hr ?hw (fun K' hK => ?_)
    case hr => decide +kernel
    case hw => rfl
    refine wp_append_eq RUN.out _ _ rfl rfl rfl ?_
    try dsimp only
    refine hK.out _ _ ?hS (fun hH' => ?_)
    case hS =>
      trivial
    clear hK K' hH; have hH := hH'; clear hH'; (try simp only [Act.put]); (repeat (first | simp only [List.setIfInBounds_toArray] | simp only [List.set_cons_zero] | simp only [List.set_cons_succ]))
    refine tkY (v := ?_) 7 hH rfl (fun _ _ _ h => h) ?hc ?hw ?hy ?_
    case hc => decide +kernel
    case hw => rfl
    case hy => (intro w hS; (try dsimp only at hS); go_simp; try with_reducible rfl)
    (try simp only [Act.put]); (repeat (first | simp only [List.setIfInBounds_toArray] | simp only [List.set_cons_zero] | simp only [List.set_cons_succ]))
    refine wpAnyH_done (by decide +kernel) ?_ _
    clear hH
    go_wp2_with fail
    go_ret
    exact ⟨rfl, FIN.out.1, FIN.out.2⟩
  · have hic' : ¬ cap = i + 1 := fun e => hic e.symm
    obtain ⟨w1, hrun, ho1, hg1⟩ := AP ⟨g, (i + 1) * 3, none⟩ (cap - (i + 1)) (fun hh => by first | rfl | omega)
    have RUN := Lib.hid hrun
    have hcl := run_clear1 (o := n1 * 3) ho1 (by omega) (cap - n1) 0
    have FIN := Lib.hid (And.intro (own_setCells_far [.int .u64 0, .int .u64 0, .slice none 0 0] (n1 * 3) w1 _ ho1 (Nat.le_refl _)) (mod_setCells (HB.out w1 hg1) (.inl rfl) [.int .u64 0, .int .u64 0, .slice none 0 0] (n1 * 3)))
    clear AP hrun ho1 hg1
    have hx1 : (i : Int) ≤ ((cap : Nat) : Int) := by omega
    have hx2 : (i : Int) + 1 ≤ (n1 : Int) + 1 := by omega
    have hx3 : (i : Int) ≤ (i : Int) + 1 := by omega
    have hx4 : (0 : Int) ≤ (i : Int) + 1 := by omega
    have hx5 : ((i : Int) == (i : Int) + 1) = false := by rw [beq_eq_false_iff_ne]; omega
    go_enter Tryd.func79, Tryd.ntmps79
    go_wp2_with fail
    refine region_go (fun _ => True) (by kernel_rfl) ?hS0 (fun hH => ?_)
    case hS0 =>
      trivial
    refine tkY (v := ?_) 0 hH rfl (fun _ _ _ h => h) ?hc ?hw ?hy ?_
    case hc => decide +kernel
    case hw => rfl
    case hy => (intro w hS; (try dsimp only at hS); go_simp; try with_reducible rfl)
    (try simp only [Act.put]); (repeat (first | simp only [List.setIfInBounds_toArray] | simp only [List.set_cons_zero] | simp only [List.set_cons_succ]))
    refine tkY (v := ?_) 1 hH rfl (fun _ _ _ h => h) ?hc ?hw ?hy ?_
    case hc => decide +kernel
    case hw => rfl
    case hy => (intro w hS; (try dsimp only at hS); go_simp; try with_reducible rfl)
    (try simp only [Act.put]); (repeat (first | simp only [List.setIfInBounds_toArray] | simp only [List.set_cons_zero] | simp only [List.set_cons_succ]))
    refine tkY (v := ?_) 2 hH rfl (fun _ _ _ h => h) ?hc ?hw ?hy ?_
    case hc => decide +kernel
    case hw => rfl
    case hy => (intro w hS; (try dsimp only at hS); go_simp; try with_reducible rfl)
    (try simp only [Act.put]); (repeat (first | simp only [List.setIfInBounds_toArray] | simp only [List.set_cons_zero] | simp only [List.set_cons_succ]))
    refine tkY (v := ?_) 3 hH rfl (fun _ _ _ h => h) ?hc ?hw ?hy ?_
    case hc => decide +kernel
    case hw => rfl
    case hy => (intro w hS; (try dsimp only at hS); go_simp; try with_reducible rfl)
    (try simp only [Act.put]); (repeat (first | simp only [List.setIfInBounds_toArray] | simp only [List.set_cons_zero] | simp only [List.set_cons_succ]))
    refine tkY (v := ?_) 4 hH rfl (fun _ _ _ h => h) ?hc ?hw ?hy ?_
    case hc => decide +kernel
    case hw => rfl
    case hy => (intro w hS; (try dsimp only at hS); go_simp; try with_reducible rfl)
    (try simp only [Act.put]); (repeat (first | simp only [List.setIfInBounds_toArray] | simp only [List.set_cons_zero] | simp only [List.set_cons_succ]))
    refine tkY (v := ?_) 5 hH rfl (fun _ _ _ h => h) ?hc ?hw ?hy ?_
    case hc => decide +kernel
    case hw => rfl
    case hy => (intro w hS; (try dsimp only at hS); go_simp; try with_reducible rfl)
    (try simp only [Act.put]); (repeat (first | simp only [List.setIfInBounds_toArray] | simp only [List.set_cons_zero] | simp only [List.set_cons_succ]))
    refine spk 6 rfl ?hr ?hw (fun K' hK => ?_)
    case hr => decide +kernel
    case hw => rfl
    refine wp_append_eq RUN.out _ _ rfl rfl rfl ?_
    try dsimp only
    refine hK.out _ _ ?hS (fun hH' => ?_)
    case hS =>
      trivial
    clear hK K' hH; have hH := hH'; clear hH'; (try simp only [Act.put]); (repeat (first | simp only [List.setIfInBounds_toArray] | simp only [List.set_cons_zero] | simp only [List.set_cons_succ]))
    refine tkY (v := ?_) 7 hH rfl (fun _ _ _ h => h) ?hc ?hw ?hy ?_
    case hc => decide +kernel
    case hw => rfl
    case hy => (intro w hS; (try dsimp only at hS); go_simp; try with_reducible rfl)
    (try simp only [Act.put]); (repeat (first | simp only [List.setIfInBounds_toArray] | simp only [List.set_cons_zero] | simp only [List.set_cons_succ]))
    refine wpAnyH_done (by decide +kernel) ?_ _
    clear hH
    go_wp2_with fail
    go_ret
    exact ⟨rfl, FIN.out.1, FIN.out.2⟩

end Go.Proofs.YtfmlhdikagogcaaDoor
