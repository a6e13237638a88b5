/-
  The document's Few of ops, for seats without vec.Check: the first n, each vector cut.
  A region that draws its order and ends with stores: what is held through the region need not hold behind the operations of M.
-/
import Derived.Test.YtfmlhdikagogcaaDoorJ26
import Derived.Test.YtfmlhdikagogcaaDoorJ01
import Derived.Test.YtfmlhdikagogcaaDoorJ07
import Derived.Test.YtfmlhdikagogcaaDoorJ29
namespace Go.Proofs.YtfmlhdikagogcaaDoor
open Go.RowKit
set_option maxRecDepth 20000

theorem infoOp : (Tryd.prog.info? 105).map (fun i => (i.zero, i.size, i.bytes)) = some (some (.agg #[.int .u64 0, .slice none 0 0]), 2, 32) := by kernel_rfl
theorem rowOp : RowTy Tryd.prog 34 105 2 32 (.agg #[.int .u64 0, .slice none 0 0]) := ⟨Tryd.underlying34, infoOp, rfl, by decide⟩

/-- what Few answers: the first n of them, each vector cut at 10 -/
def fewZ (n : Nat) (l : List (Int × List Int)) : List (Int × List Int) := (l.take n).map fun r => (r.1, r.2.take 10)

theorem fewZ_snoc (n : Nat) (l : List (Int × List Int)) (k : Nat) (hk : k < l.length) (hn : k < n) : fewZ n (l.take (k + 1)) = fewZ n (l.take k) ++ [(l[k].1, l[k].2.take 10)] := by
  unfold fewZ
  have h1 : (l.take (k + 1)).take n = l.take (k + 1) := List.take_of_length_le (by simp; omega)
  have h2 : (l.take k).take n = l.take k := List.take_of_length_le (by simp; omega)
  rw [h1, h2, List.take_succ_eq_append_getElem hk, List.map_append]
  rfl

theorem fewZ_same (n : Nat) (l : List (Int × List Int)) (k : Nat) (hn : n ≤ k) : fewZ n (l.take (k + 1)) = fewZ n (l.take k) := by
  unfold fewZ
  rw [List.take_take, List.take_take]
  congr 2
  omega

theorem fewZ_length (n : Nat) (l : List (Int × List Int)) : (fewZ n l).length = min n l.length := by simp [fewZ]

/-- a new row of pairs of the call's own -/
def NewRecs (w : World) (e : Nat) (l : List (Int × List Int)) (r : Ending) (w' : World) : Prop :=
  ∃ v rs, r = .returned v ∧ w'.ownsRow w.heap.size e 2 v rs.length (flat2 rs) ∧ Held2 w' w.heap.size 21 rs l ∧ Below w.heap.size w w'

theorem few_step {n : Nat} {l : List (Int × List Int)} {k : Nat} {rs : List (Int × Value)} {w wr w4 w5 : World} {v v5 : Value} {u4 : Value} {e E B4 : Nat} {o : Obj} (hown : wr.ownsRow w.heap.size e 2 v rs.length (flat2 rs)) (hheld : Held2 wr w.heap.size E rs (fewZ n (l.take k))) (hb : Below w.heap.size w wr)
    (hlt : k < l.length) (h20 : k < n) (hu : w4.ownsRow B4 E 1 u4 (l[k].2.take (10 : Int).toNat).length ((l[k].2.take (10 : Int).toNat).map (Value.int .i32))) (hB4 : wr.heap.size ≤ B4) (hne : E ≠ e) (hb4 : Below wr.heap.size wr w4)
    (hown5 : w5.ownsRow w.heap.size e 2 v5 (rs.length + 1) (flat2 rs ++ (#[.int .u64 l[k].1, u4] : Array Value).toList)) (hg5 : (w4.alloc o).grownBy w5 v.ownBlock) :
    w5.ownsRow w.heap.size e 2 v5 (rs ++ [(l[k].1, u4)]).length (flat2 (rs ++ [(l[k].1, u4)])) ∧ Held2 w5 w.heap.size E (rs ++ [(l[k].1, u4)]) (fewZ n (l.take (k + 1))) ∧ Below w.heap.size w w5 := by
  have hown4 := (own_below hown hb4).alloc o
  have hheld4 := (hheld.below hb4).below ((Below.refl _ _).alloc (Nat.le_refl _) o)
  have hsz := hb.size
  have hsz4 := hb4.size
  refine ⟨by rw [flat2_append]; simpa [flat2] using hown5, ?_, ((hb.trans (hb4.mono hsz)).alloc (by omega) o).grown hg5 (by simp; omega) (fun b hbk => (hown.lt b hbk).1)⟩
  rw [fewZ_snoc n l k hlt h20]
  refine (hheld4.other hown4 hne hg5).snoc ?_ fun r hr => ?_
  · have := (hu.alloc o).kept hg5 (own_apart (hu.alloc o) hown4 hne)
    exact own_mono this (by omega)
  · cases hrb : r.2.ownBlock with
    | none => exact .inl rfl
    | some b =>
      right
      intro he
      have h1 := hheld.lt hr b hrb
      have h2 := hu.lt b he.symm
      omega

theorem few (n : Nat) (hn9 : n ≤ 1000) (l : List (Int × List Int)) (v : Value) (w : World) (h : Recs w v l) :
    Calls Tryd.prog 44 #[v, .int .i64 n] w (NewRecs w 105 (fewZ n l)) := by
  obtain ⟨p, cap, rfl, hcap, hbig, -, -⟩ := id h
  have hl : l.length ≤ 9223372036854775807 := by omega
  clear hcap hbig
  have H := Lib.hid h
  clear h
  go_enter Tryd.func44, Tryd.ntmps44
  go_wp2_with fail
  go_loopg [5, 10] l.length (fun q out i wr => ∃ (k : Nat) (rs : List (Int × Value)), q = l.length - k ∧ k ≤ l.length ∧ i = .int .i64 k ∧ rs.length = min n k ∧ wr.ownsRow w.heap.size 105 2 out rs.length (flat2 rs) ∧ Held2 wr w.heap.size 21 rs (fewZ n (l.take k)) ∧ Below w.heap.size w wr)
  case atStart => exact ⟨0, [], rfl, by omega, rfl, by simp, World.ownsRow_nil _ _ _ _, by simpa [fewZ] using Held2.nil _ _ _, Below.refl _ _⟩
  case round =>
    obtain ⟨k, rs, rfl, hk, rfl, hlen, hown, hheld, hb⟩ := hrel
    by_cases hlt : k < l.length
    · obtain ⟨b, off, u, rfl, c0, c1, hu⟩ := (H.out.below hb).elem hlt
      obtain ⟨up, ucap, rfl, -, -, -, -⟩ := id hu.slice
      have O := Lib.hid (And.intro hown (And.intro hheld hb))
      have hl20 : rs.length ≤ n := by omega
      have L := Lib.hid hlen
      clear hlen
      have U := Lib.hid hu
      have hsz := hb.size
      clear hown hheld hb hu
      by_cases h20 : k < n
      · go_wp2_with fail
        refine region_go (fun w' => w'.cell? ⟨wr.heap.size, 0, none⟩ = some (.int .u64 l[k].1) ∧ w'.cell? ⟨wr.heap.size, 1, none⟩ = some (.slice up l[k].2.length ucap)) (by kernel_rfl) ?hS0 (fun hH => ?_)
        case hS0 =>
          exact ⟨by go_simp, by go_simp⟩
        refine tkY (v := ?_) 0 hH rfl (fun _ _ _ h => h) ?hc ?hw ?hy ?_
        case hc => decide +kernel
        case hw => rfl
        case hy => (intro w hS; (try dsimp only at hS); go_simp; try with_reducible rfl)
        (try simp only [Act.put]); (repeat (first | simp only [List.setIfInBounds_toArray] | simp only [List.set_cons_zero] | simp only [List.set_cons_succ]))
        refine tkY (v := ?_) 1 hH rfl (fun _ _ _ h => h) ?hc ?hw ?hy ?_
        case hc => decide +kernel
        case hw => rfl
        case hy => (intro w hS; (try dsimp only at hS); go_simp; try with_reducible rfl)
        (try simp only [Act.put]); (repeat (first | simp only [List.setIfInBounds_toArray] | simp only [List.set_cons_zero] | simp only [List.set_cons_succ]))
        refine tkY (v := ?_) 2 hH rfl (fun _ _ _ h => h) ?hc ?hw ?hy ?_
        case hc => decide +kernel
        case hw => rfl
        case hy => (intro w hS; (try dsimp only at hS); go_simp; try with_reducible rfl)
        (try simp only [Act.put]); (repeat (first | simp only [List.setIfInBounds_toArray] | simp only [List.set_cons_zero] | simp only [List.set_cons_succ]))
        refine tkY (v := ?_) 3 hH rfl (fun _ _ _ h => h) ?hc ?hw ?hy ?_
        case hc => decide +kernel
        case hw => rfl
        case hy => (intro w hS; (try dsimp only at hS); go_simp; try with_reducible rfl)
        (try simp only [Act.put]); (repeat (first | simp only [List.setIfInBounds_toArray] | simp only [List.set_cons_zero] | simp only [List.set_cons_succ]))
        refine tkY (v := ?_) 4 hH rfl (fun _ _ _ h => h) ?hc ?hw ?hy ?_
        case hc => decide +kernel
        case hw => rfl
        case hy => (intro w hS; (try dsimp only at hS); go_simp; try with_reducible rfl)
        (try simp only [Act.put]); (repeat (first | simp only [List.setIfInBounds_toArray] | simp only [List.set_cons_zero] | simp only [List.set_cons_succ]))
        refine spk 5 rfl ?hr ?hw (fun K' hK => ?_)
        case hr => decide +kernel
        case hw => rfl
        go_simp
        have hbW := ((Below.refl wr.heap.size wr).alloc (Nat.le_refl _) (Obj.cells #[Value.int IntKind.u64 l[k].fst, Value.slice up l[k].snd.length ucap] 105)).drew
        refine (cutVec l[k].2 _ 10 _ (U.out.below hbW) (by decide) (.inr (by decide))).mono ?_
        intro e w4 hN
        obtain ⟨u4, rfl, hu4, hb4⟩ := hN
        obtain ⟨q4, n4, c4, rfl⟩ := own_form hu4
        have hb04 := hbW.trans (hb4.mono (by simp))
        obtain ⟨g5, c5, w5, hrun, hown5, hg5, hat5, -⟩ := run_push rowOp (own_below O.out.1 hb04) (by have := hb04.size; omega) #[.int .u64 l[k].1, .slice q4 n4 c4] rfl (by simp [Value.oneCell']) (by simp [maxLen]; omega) (by omega)
        have hk5 : ∀ (j : Nat) (v : Value), (w4.alloc (.cells #[.int .u64 l[k].1, .slice q4 n4 c4] 105)).cell? ⟨wr.heap.size, j, none⟩ = some v → w5.cell? ⟨wr.heap.size, j, none⟩ = some v := fun j v hc => hg5.cell hc (fun e => Nat.lt_irrefl _ (O.out.1.lt _ e.symm).2)
        have F := Lib.hid (few_step O.out.1 O.out.2.1 O.out.2.2 hlt h20 hu4 (by simp) (by decide) hb04 hown5 hg5)
        clear hbW hb04 hown5 hg5 hat5 hu4
        try dsimp only
        refine hK.out _ _ ?hS (fun hH' => ?_)
        case hS =>
          exact ⟨below_cells hb4 hH.1, below_cells hb4 hH.2⟩
        clear hK K' hH; have hH := hH'; clear hH'; (try simp only [Act.put]); (repeat (first | simp only [List.setIfInBounds_toArray] | simp only [List.set_cons_zero] | simp only [List.set_cons_succ]))
        refine tkY (v := ?_) 6 hH rfl (fun _ _ _ h => h) ?hc ?hw ?hy ?_
        case hc => decide +kernel
        case hw => rfl
        case hy => (intro w hS; (try dsimp only at hS); go_simp; try with_reducible rfl)
        (try simp only [Act.put]); (repeat (first | simp only [List.setIfInBounds_toArray] | simp only [List.set_cons_zero] | simp only [List.set_cons_succ]))
        refine spk 7 rfl ?hr ?hw (fun K' hK => ?_)
        case hr => decide +kernel
        case hw => rfl
        go_simp
        try dsimp only
        refine hK.out _ _ ?hS (fun hH' => ?_)
        case hS =>
          exact ⟨by rw [World.cell?_alloc_lt _ _ _ (lt_of_cell hH.1)]; exact hH.1, by rw [World.cell?_alloc_lt _ _ _ (lt_of_cell hH.2)]; exact hH.2⟩
        clear hK K' hH; have hH := hH'; clear hH'; (try simp only [Act.put]); (repeat (first | simp only [List.setIfInBounds_toArray] | simp only [List.set_cons_zero] | simp only [List.set_cons_succ]))
        refine spk 8 rfl ?hr ?hw (fun K' hK => ?_)
        case hr => decide +kernel
        case hw => rfl
        refine wp_append_eq hrun _ _ rfl rfl rfl ?_
        try dsimp only
        refine hK.out _ _ ?hS (fun hH' => ?_)
        case hS =>
          exact ⟨hk5 _ _ hH.1, hk5 _ _ hH.2⟩
        clear hK K' hH; have hH := hH'; clear hH'; (try simp only [Act.put]); (repeat (first | simp only [List.setIfInBounds_toArray] | simp only [List.set_cons_zero] | simp only [List.set_cons_succ]))
        refine tkY (v := ?_) 9 hH rfl (fun _ _ _ h => h) ?hc ?hw ?hy ?_
        case hc => decide +kernel
        case hw => rfl
        case hy => (intro w hS; (try dsimp only at hS); go_simp; try with_reducible rfl)
        (try simp only [Act.put]); (repeat (first | simp only [List.setIfInBounds_toArray] | simp only [List.set_cons_zero] | simp only [List.set_cons_succ]))
        refine wpAnyH_done (by decide +kernel) ?_ _
        go_wp2_with fail
        go_roundg (l.length - (k + 1))
        case measure => omega
        case rel => exact ⟨k + 1, rs ++ [(l[k].1, .slice q4 n4 c4)], rfl, by omega, by go_num, by have := L.out; rw [List.length_append, this]; simp; omega, F.out⟩
      · go_wp2_with fail
        go_roundg (l.length - (k + 1))
        case measure => omega
        case rel => exact ⟨k + 1, rs, rfl, by omega, by go_num, by have := L.out; omega, O.out.1.alloc _, by rw [fewZ_same n l k (by omega)]; exact O.out.2.1.below ((Below.refl _ _).alloc (Nat.le_refl _) _), O.out.2.2.alloc hsz _⟩
    · obtain rfl : k = l.length := by omega
      go_wp2_with fail
      go_ret
      exact ⟨_, rs, rfl, hown, by rw [List.take_length] at hheld; exact hheld, hb⟩

theorem Held2.recsF {w : World} {B e n : Nat} {v : Value} {rs : List (Int × Value)} {l : List (Int × List Int)} {B' E : Nat} (h : w.ownsRow B e 2 v n (flat2 rs)) (hh : Held2 w B' E rs l) (hB : B ≤ B') : RecsF w (fun k => B ≤ k ∧ k < w.heap.size) v l :=
  RecsF.of_own h (fun b hb => h.lt b hb) hh.len fun i h1 h2 => ⟨(hh.own i h1 h2).1, Nums.of_own (hh.own i h1 h2).2, fun _ b hb => by have := (hh.own i h1 h2).2.lt b hb; omega⟩

end Go.Proofs.YtfmlhdikagogcaaDoor

namespace Go.Proofs.YtfmlhdikagogcaaDoor
open Go.RowKit
set_option maxRecDepth 20000

section
variable {P : Program} {ops : Array Oper} {Q : Exit → Act → World → Prop} {md : Region.Mode} {S : World → Prop} {M : Nat → Bool}

/-- in whatever order from here on; behind each but those of M S holds -/
def anyButM (P : Program) (md : Region.Mode) (ops : Array Oper) (Q : Exit → Act → World → Prop) (S : World → Prop) (M : Nat → Bool) : Nat → Array Bool → Act → World → Prop
  | 0, listed, a, w => Region.ready md ops listed = [] ∧ Q .normal a w
  | k + 1, listed, a, w => (Region.ready md ops listed = [] → Q .normal a w) ∧ ∀ i ∈ Region.ready md ops listed, wpOp P ops Q i (fun a' w' => (M i = false → S w') ∧ anyButM P md ops Q S M k (listed.setIfInBounds i true) a' w') a w

theorem anyButM_any : ∀ (k : Nat) (listed : Array Bool) (a : Act) (w : World), anyButM P md ops Q S M k listed a w → wpAny P md ops Q k listed a w
  | 0, _, _, _, h => h
  | k + 1, _, _, _, h => ⟨h.1, fun i hi => wpOp_mono (fun _ _ h' => anyButM_any k _ _ _ h'.2) (h.2 i hi)⟩

theorem anyButM_first {i : Nat} {oi : Oper} {v : Value} (hi : ops[i]? = some oi) (hsel : ∀ (j : Nat) (o : Oper) cs b, ops[j]? = some o → o.op ≠ .select cs b)
    (hQ : ∀ c a w, Q (.panic c) (a.put oi.dst v) w → Q (.panic c) a w) (hwn : ∀ j, M j = true → waitsFor md ops j i = true) : ∀ (k : Nat) (listed : Array Bool) (a : Act) (w : World),
      (∀ j oj, ops[j]? = some oj → j ≠ i → listed.getD j true = false → (∀ e ∈ oj.after, Region.binds md e = true → e.on ≠ i) → oi.apart ops oj = true) →
      i ∈ Region.ready md ops listed → YieldsIf P ops S oi v a → S w →
      anyButM P md ops Q S M k (listed.setIfInBounds i true) (a.put oi.dst v) w → anyButM P md ops Q S M (k + 1) listed a w := by
  intro k
  induction k with
  | zero =>
    intro listed a w _ hr hy hS H
    refine ⟨fun h => (by rw [h] at hr; cases hr), fun j hj => ?_⟩
    by_cases hji : j = i
    · subst hji; exact hy.wpOp hi hS ⟨fun _ => hS, H⟩
    · have := ready_mono hj hji
      rw [H.1] at this
      cases this
  | succ k ih =>
    intro listed a w hfree hr hy hS H
    refine ⟨fun h => (by rw [h] at hr; cases hr), fun j hj => ?_⟩
    by_cases hji : j = i
    · subst hji; exact hy.wpOp hi hS ⟨fun _ => hS, H⟩
    · have hjn : M j = false := by
        cases hm : M j with
        | false => rfl
        | true => exact (waits_not (hwn j hm) hr hj).elim
      obtain ⟨hjun, oj, hoj, hall⟩ := mem_ready.1 hj
      have hnot : ∀ e ∈ oj.after, Region.binds md e = true → e.on ≠ i := fun e he hb heq => by
        have h1 := hall e he hb
        have h0 := (mem_ready.1 hr).1
        rw [heq] at h1
        rcases Nat.lt_or_ge i listed.size with h' | h'
        · simp [h'] at h0 h1; rw [h0] at h1; cases h1
        · simp [Array.getElem?_eq_none h'] at h1
      have h2 := wpOp_putIf hoj (hfree j oj hoj hji hjun hnot) (fun cs b => hsel i oi cs b hi) (fun cs b => hsel j oj cs b hoj) hQ hy (H.2 j (ready_mono hj hji))
      refine wpOp_mono (fun a' w' h3 => ⟨h3.2.1, ih (listed.setIfInBounds j true) a' w' (fun k ok hk hki hun hno => hfree k ok hk hki ?_ hno) (ready_mono hr (Ne.symm hji)) h3.1 (h3.2.1 hjn) ?_⟩) h2
      · by_cases hjk : j = k
        · subst hjk; exact hjun
        · rw [getD_set_ne true hjk] at hun; exact hun
      · rw [Array.setIfInBounds_comm _ _ hji]
        exact h3.2.2

/-- ms: those of M -/
def canTakeM (md : Region.Mode) (ops : Array Oper) (listed : Array Bool) (ms : List Nat) (i : Nat) : Bool := canTake md ops listed i && ms.all fun n => waitsFor md ops n i

def inM (ms : List Nat) (i : Nat) : Bool := ms.contains i

theorem tkYM {ms : List Nat} (i : Nat) {oi : Oper} {v : Value} {k : Nat} {listed : Array Bool} {a : Act} {w : World} (hS : S w) (hi : ops.toList[i]? = some oi) (hQ : ∀ c a w, Q (.panic c) (a.put oi.dst v) w → Q (.panic c) a w)
    (hc : canTakeM md ops listed ms i = true) (hw : Region.wanted oi (yielded ops a.tmps) = true) (hy : ∀ w, S w → (execOp a.eval oi).run P w = .ok (.value v) w)
    (h : anyButM P md ops Q S (inM ms) k (listed.setIfInBounds i true) (a.put oi.dst v) w) : anyButM P md ops Q S (inM ms) (k + 1) listed a w := by
  simp only [canTakeM, canTake, Bool.and_eq_true, List.all_eq_true] at hc
  have hi' : ops[i]? = some oi := by rw [← hi, Array.getElem?_toList]
  exact anyButM_first hi' (Region.noSelect_spec hc.1.1.1) hQ (fun j hj => hc.2 j (by simpa [inM] using hj)) k listed a w (Region.free_spec hi' hc.1.1.2) (by simpa using hc.1.2) (.inl ⟨hw, hy⟩) hS h

/-- it yields v in every world, and is of M -/
theorem anyButM_firstA {i : Nat} {oi : Oper} {v : Value} (hi : ops[i]? = some oi) (hsel : ∀ (j : Nat) (o : Oper) cs b, ops[j]? = some o → o.op ≠ .select cs b)
    (hQ : ∀ c a w, Q (.panic c) (a.put oi.dst v) w → Q (.panic c) a w) (hm : M i = true) : ∀ (k : Nat) (listed : Array Bool) (a : Act) (w : World),
      (∀ j oj, ops[j]? = some oj → j ≠ i → listed.getD j true = false → (∀ e ∈ oj.after, Region.binds md e = true → e.on ≠ i) → oi.apart ops oj = true) →
      i ∈ Region.ready md ops listed → YieldsIf P ops (fun _ => True) oi v a →
      anyButM P md ops Q S M k (listed.setIfInBounds i true) (a.put oi.dst v) w → anyButM P md ops Q S M (k + 1) listed a w := by
  intro k
  induction k with
  | zero =>
    intro listed a w _ hr hy H
    refine ⟨fun h => (by rw [h] at hr; cases hr), fun j hj => ?_⟩
    by_cases hji : j = i
    · subst hji; exact hy.wpOp hi trivial ⟨fun h => (by rw [hm] at h; cases h), H⟩
    · have := ready_mono hj hji
      rw [H.1] at this
      cases this
  | succ k ih =>
    intro listed a w hfree hr hy H
    refine ⟨fun h => (by rw [h] at hr; cases hr), fun j hj => ?_⟩
    by_cases hji : j = i
    · subst hji; exact hy.wpOp hi trivial ⟨fun h => (by rw [hm] at h; cases h), H⟩
    · obtain ⟨hjun, oj, hoj, hall⟩ := mem_ready.1 hj
      have hnot : ∀ e ∈ oj.after, Region.binds md e = true → e.on ≠ i := fun e he hb heq => by
        have h1 := hall e he hb
        have h0 := (mem_ready.1 hr).1
        rw [heq] at h1
        rcases Nat.lt_or_ge i listed.size with h' | h'
        · simp [h'] at h0 h1; rw [h0] at h1; cases h1
        · simp [Array.getElem?_eq_none h'] at h1
      have h2 := wpOp_putIf hoj (hfree j oj hoj hji hjun hnot) (fun cs b => hsel i oi cs b hi) (fun cs b => hsel j oj cs b hoj) hQ hy (H.2 j (ready_mono hj hji))
      refine wpOp_mono (fun a' w' h3 => ⟨h3.2.1, ih (listed.setIfInBounds j true) a' w' (fun k ok hk hki hun hno => hfree k ok hk hki ?_ hno) (ready_mono hr (Ne.symm hji)) h3.1 ?_⟩) h2
      · by_cases hjk : j = k
        · subst hjk; exact hjun
        · rw [getD_set_ne true hjk] at hun; exact hun
      · rw [Array.setIfInBounds_comm _ _ hji]
        exact h3.2.2

theorem tkAM {ms : List Nat} (i : Nat) {oi : Oper} {v : Value} {k : Nat} {listed : Array Bool} {a : Act} {w : World} (hi : ops.toList[i]? = some oi) (hQ : ∀ c a w, Q (.panic c) (a.put oi.dst v) w → Q (.panic c) a w)
    (hc : (canTake md ops listed i && inM ms i) = true) (hw : Region.wanted oi (yielded ops a.tmps) = true) (hy : ∀ w, (execOp a.eval oi).run P w = .ok (.value v) w)
    (h : anyButM P md ops Q S (inM ms) k (listed.setIfInBounds i true) (a.put oi.dst v) w) : anyButM P md ops Q S (inM ms) (k + 1) listed a w := by
  simp only [canTake, Bool.and_eq_true] at hc
  have hi' : ops[i]? = some oi := by rw [← hi, Array.getElem?_toList]
  exact anyButM_firstA hi' (Region.noSelect_spec hc.1.1.1) hQ hc.2 k listed a w (Region.free_spec hi' hc.1.1.2) (by simpa using hc.1.2) (.inl ⟨hw, fun w _ => hy w⟩) h

theorem step_toM {i : Nat} {oi : Oper} {k : Nat} {listed : Array Bool} {a : Act} {w : World} (hi : ops.toList[i]? = some oi) (hw : Region.wanted oi (yielded ops a.tmps) = true)
    (h : ∀ K' : Act → World → Prop, Shut (∀ a w, (M i = false → S w) → ((M i = false → S w) → anyButM P md ops Q S M k (listed.setIfInBounds i true) a w) → K' a w) → oi.wp P a w K' Q) :
    wpOp P ops Q i (fun a' w' => (M i = false → S w') ∧ anyButM P md ops Q S M k (listed.setIfInBounds i true) a' w') a w := by
  refine wpOp_step (by rw [← hi, Array.getElem?_toList]) fun K' hK => ?_
  rw [if_pos hw]
  exact h K' fun a w hS hW => hK a w ⟨hS, hW hS⟩

/-- not of M -/
theorem spkM {ms : List Nat} (i : Nat) {oi : Oper} {k : Nat} {listed : Array Bool} {a : Act} {w : World} (hi : ops.toList[i]? = some oi) (hin : inM ms i = false)
    (hr : Region.ready md ops listed = [i]) (hw : Region.wanted oi (yielded ops a.tmps) = true)
    (h : ∀ K' : Act → World → Prop, Shut (∀ a w, S w → (S w → anyButM P md ops Q S (inM ms) k (listed.setIfInBounds i true) a w) → K' a w) → oi.wp P a w K' Q) : anyButM P md ops Q S (inM ms) (k + 1) listed a w := by
  refine ⟨fun h0 => (by rw [h0] at hr; cases hr), fun j hj => ?_⟩
  rw [hr] at hj
  obtain rfl := List.mem_singleton.1 hj
  exact step_toM hi hw fun K' hK => h K' fun a w hS hW => hK a w (fun _ => hS) (fun hS' => hW (hS' hin))

/-- of M -/
theorem spkLM {ms : List Nat} (i : Nat) {oi : Oper} {k : Nat} {listed : Array Bool} {a : Act} {w : World} (hi : ops.toList[i]? = some oi) (hin : inM ms i = true)
    (hr : Region.ready md ops listed = [i]) (hw : Region.wanted oi (yielded ops a.tmps) = true)
    (h : ∀ K' : Act → World → Prop, Shut (∀ a w, anyButM P md ops Q S (inM ms) k (listed.setIfInBounds i true) a w → K' a w) → oi.wp P a w K' Q) : anyButM P md ops Q S (inM ms) (k + 1) listed a w := by
  refine ⟨fun h0 => (by rw [h0] at hr; cases hr), fun j hj => ?_⟩
  rw [hr] at hj
  obtain rfl := List.mem_singleton.1 hj
  exact step_toM hi hw fun K' hK => h K' fun a w hW => hK a w (fun hf => by rw [hin] at hf; cases hf) (fun _ => hW)

theorem anyButM_done {listed : Array Bool} {a : Act} {w : World} (hr : Region.ready md ops listed = []) (h : Q .normal a w) : ∀ k, anyButM P md ops Q S M k listed a w
  | 0 => ⟨hr, h⟩
  | _ + 1 => ⟨fun _ => h, by rw [hr]; simp⟩

theorem region_goM {id : Nat} {a : Act} {w : World} (ms : List Nat) (S : World → Prop) (hm : P.follows .mixedOrders = true) (hS : S w.drew)
    (h : S w.drew → anyButM P .any ops Q S (inM ms) ops.size (Array.replicate ops.size false) a w.drew) : (Code.region id ops true).wp P Q a w :=
  wp_region_any hm (anyButM_any _ _ _ _ (h hS))
end

end Go.Proofs.YtfmlhdikagogcaaDoor
