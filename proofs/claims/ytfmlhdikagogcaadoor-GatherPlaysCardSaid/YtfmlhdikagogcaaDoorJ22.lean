/-
  best's document: all that it has, in order; a new one. Lists that are put together in no room.
  gather: a row of mail is put behind another one.
  gather: what Hear answers; a part's hits are put to what was told.
  A region that draws its order and ends with stores: what is held through the region need not hold behind the operations of M.
  gather's document: rows of structs in general; how its questions lie.
  gather's document: the looks to those that have not told; a result.
  gather: all are given up.
-/
import Derived.Test.YtfmlhdikagogcaaDoorJ21
import Derived.Test.YtfmlhdikagogcaaDoorJ15
import Derived.Test.YtfmlhdikagogcaaDoorJ19
import Derived.Test.YtfmlhdikagogcaaDoorJ20
import Derived.Test.YtfmlhdikagogcaaDoorJ01
import Derived.Deep.MidRow
import Derived.Laws.CopyOwn
import Derived.Deep.RegionHeld3
namespace Go.Proofs.YtfmlhdikagogcaaDoor
open Go.RowKit
set_option maxRecDepth 20000

theorem refAll (F : Nat → Prop) (c : Nat) (most : Int) (n : Nat) (L : List Hz) (w : World) (hL : RefL w F c most L) (gL : GoodL n L) (hn : L.length ≤ 1000000) :
    Calls Tryd.prog 54 #[.pointer (some ⟨c, 0, none⟩)] w (SortTo w F L) := by
  obtain ⟨v, G, r, ho, hp, -, hG⟩ := hL
  obtain ⟨c0, c1, -⟩ := ho.cells
  have hlen := hp.length_eq
  have S := Lib.hid (sort r L gL.sorted (gL.ids.perm hp) hp (by omega) v G w ho.hits)
  have GF := Lib.hid hG
  clear ho hp gL hG hlen
  go_enter Tryd.func54, Tryd.ntmps54
  go_wp2_with fail
  refine S.out.mono ?_
  rintro e w' ⟨v', rfl, hh, hb⟩
  have R := Lib.hid (And.intro (hh.mono (G := Plus F w w') fun k hk => by
    rcases hk with hk | hk
    · exact .inl (GF.out k hk)
    · exact .inr hk) hb)
  clear hh hb
  go_wp2_with fail
  go_ret
  exact ⟨v', rfl, R.out.1, R.out.2⟩

theorem refAll_nil (w : World) : Calls Tryd.prog 54 #[.pointer none] w fun e w' => e = .returned (.slice none 0 0) ∧ w = w' := by
  go_enter Tryd.func54, Tryd.ntmps54
  go_wp2_with fail
  go_ret
  exact ⟨rfl, rfl⟩

theorem refAdd_nil (x : Value) (i d : Int) (w : World) : Calls Tryd.prog 53 #[.pointer none, .agg #[.int .u64 i, .int .u64 d, x]] w fun e w' => e = .returned (.bool false) ∧ Below w.heap.size w w' := by
  go_enter Tryd.func53, Tryd.ntmps53
  go_wp2_with fail
  go_ret
  exact ⟨rfl, by go_grown⟩

theorem refL_new (w : World) (most : Int) : RefL (w.alloc (.cells #[.int .i64 most, .slice none 0 0] 116)) (fun k => k = w.heap.size) w.heap.size most [] :=
  ⟨_, fun _ => False, [], ⟨heap_alloc_new _ _, HitsF.nil _ _, id, fun k hk => hk.elim⟩, List.Perm.refl _, rfl, fun k hk => hk.elim⟩

theorem merge_zero (ls : List (List Hz)) (E : Nat → Prop) (v : Value) (w : World) (h : ListsF w E v ls) :
    Calls Tryd.prog 41 #[.int .i64 0, v] w fun e w' => ∃ q c, e = .returned (.slice q 0 c) ∧ Below w.heap.size w w' := by
  obtain ⟨p, cap, rfl, hcap, hbig, -, -⟩ := id h
  have hl9 : ls.length ≤ 9223372036854775807 := by omega
  have H := Lib.hid h
  clear h hcap hbig
  go_enter Tryd.func41, Tryd.ntmps41
  go_wp2_with fail
  refine (new_no 0 w (by omega)).mono ?_
  rintro e w1 ⟨rfl, rfl⟩
  go_wp2_with fail
  go_loopg [16] ls.length (fun q i wr => ∃ k : Nat, q = ls.length - k ∧ k ≤ ls.length ∧ i = .int .i64 k ∧ wr = w)
  case atStart => exact ⟨0, rfl, by omega, rfl, rfl⟩
  case round =>
    obtain ⟨k, rfl, hk, rfl, rfl⟩ := hrel
    by_cases hlt : k < ls.length
    · obtain ⟨b, off, q, qc, rfl, c0, -⟩ := H.out.elem hlt
      go_wp2_with fail
      refine (adds_nil _ _).mono ?_
      rintro e w4 ⟨rfl, rfl⟩
      go_wp2_with fail
      go_roundg (ls.length - (k + 1))
      case measure => omega
      case rel => exact ⟨k + 1, rfl, by omega, by go_num, rfl⟩
    · obtain rfl : k = ls.length := by omega
      go_wp2_with fail
      refine (hits_nil _).mono ?_
      rintro e w4 ⟨v4, rs4, rfl, ho, hh, hb4⟩
      obtain rfl : rs4 = [] := List.eq_nil_of_length_eq_zero hh.len
      have BB := Lib.hid (And.intro ho hb4)
      clear ho hh hb4
      go_wp2_with fail
      go_ret
      obtain ⟨-, ⟨e, -⟩ | ⟨g, cap, cur, e, -⟩⟩ := BB.out.1
      · exact ⟨_, _, congrArg Ending.returned e, BB.out.2⟩
      · exact ⟨_, _, congrArg Ending.returned e, BB.out.2⟩

end Go.Proofs.YtfmlhdikagogcaaDoor

namespace Go.Proofs.YtfmlhdikagogcaaDoor
open Go.RowKit
set_option maxRecDepth 20000

theorem mails_app {w wr w4 w5 : World} {F F4 R : Nat → Prop} {e : Nat} {rs rs4 : List Mv} {v v5 : Value} (hown : wr.ownsRow w.heap.size e 17 v rs.length (flatM rs)) (hm : MailF wr F rs) (hF : ∀ k, F k → k < wr.heap.size ∧ v.ownBlock ≠ some k ∧ (w.heap.size ≤ k ∨ R k)) (hb : Below w.heap.size w wr) (hR : ∀ k, R k → k < w.heap.size)
    (hm4 : MailF w4 F4 rs4) (hF4 : ∀ k, F4 k → k < w4.heap.size ∧ (wr.heap.size ≤ k ∨ R k)) (hb4 : Below wr.heap.size wr w4)
    (hown5 : w5.ownsRow w.heap.size e 17 v5 (rs.length + rs4.length) (flatM rs ++ flatM rs4)) (hg5 : w4.grownBy w5 v.ownBlock) (hv5 : v5.ownBlock = v.ownBlock ∨ v5.ownBlock = some w4.heap.size) :
    ∃ F' : Nat → Prop, w5.ownsRow w.heap.size e 17 v5 (rs ++ rs4).length (flatM (rs ++ rs4)) ∧ MailF w5 F' (rs ++ rs4) ∧ (∀ k, F' k → k < w5.heap.size ∧ v5.ownBlock ≠ some k ∧ (w.heap.size ≤ k ∨ R k)) ∧ Below w.heap.size w w5 := by
  have hsz := hb.size
  have hsz4 := hb4.size
  have hs5 := hg5.size
  have hb5 : Below w.heap.size w w5 := (hb.trans (hb4.mono hsz)).grown hg5 (by omega) (fun b hbk => (hown.lt b hbk).1)
  have hk : ∀ k, k < w4.heap.size → v.ownBlock ≠ some k → w5.heap[k]? = w4.heap[k]? := fun k hk hne => hg5.block k hk (fun h => hne h.symm)
  have h4 : ∀ k, F4 k → v.ownBlock ≠ some k := by
    intro k hk e
    have h1 := hown.lt k e
    rcases (hF4 k hk).2 with h2 | h2
    · omega
    · have := hR k h2; omega
  refine ⟨fun k => F k ∨ F4 k, by rw [flatM_append, List.length_append]; exact hown5, ?_, ?_, hb5⟩
  · intro r hr
    rcases List.mem_append.1 hr with hr | hr
    · refine NoteM.mono (F := F) ?_ fun k h => .inl h
      refine (hm r hr).agree fun k hk' => ?_
      obtain ⟨h1, h2, -⟩ := hF k hk'
      rw [hk k (by omega) h2]
      exact hb4.block k h1
    · refine NoteM.mono (F := F4) ?_ fun k h => .inr h
      exact (hm4 r hr).agree fun k hk' => hk k (hF4 k hk').1 (h4 k hk')
  · intro k hk'
    rcases hk' with hk' | hk'
    · obtain ⟨h1, h2, h3⟩ := hF k hk'
      refine ⟨by omega, ?_, h3⟩
      rcases hv5 with e | e <;> rw [e]
      · exact h2
      · intro e2; have := Option.some.inj e2; omega
    · obtain ⟨h1, h2⟩ := hF4 k hk'
      refine ⟨by omega, ?_, h2.imp (fun h => by omega) id⟩
      rcases hv5 with e | e <;> rw [e]
      · exact h4 k hk'
      · intro e2; have := Option.some.inj e2; omega

end Go.Proofs.YtfmlhdikagogcaaDoor

namespace Go.Proofs.YtfmlhdikagogcaaDoor
open Go.RowKit
set_option maxRecDepth 20000

/-- a note's count is small -/
theorem right_k {n : Nt} (h : rightN n = true) : 0 ≤ n.k ∧ n.k ≤ 16 := by
  obtain ⟨-, -, -, hb⟩ := right_parts h
  unfold boundedB at hb
  simp only [Bool.and_eq_true] at hb
  have hn := hb.1.1.1.1
  unfold numsB at hn
  simp only [Bool.and_eq_true, decide_eq_true_eq] at hn
  omega

/-- what p told -/
def toldOf (t : List (Int × List Hz)) (p : Int) : List Hz := match t.find? (fun x => x.1 == p) with | some x => x.2 | none => []

/-- what all that was told comes to -/
def answerZ (q : Qs) (t : List (Int × List Hz)) : List Hz :=
  if q.note.vec.length = 0 then toldOf t (q.parts.headD 0) else if q.note.k < 1 then [] else mergeZ q.note.k.toNat (q.parts.map (toldOf t))

/-- question k has been told this -/
def toldZ (g : Gz) (k : Nat) (q : Qs) (t : List (Int × List Hz)) : Gz := {g with l := g.l.set k {q with told := t}}

def hearAt (g : Gz) (k : Nat) (q : Qs) (frm : Int) (n : Nt) : List (Int × Nt) × Gz :=
  if hasTold q.told frm || !(q.parts.any fun y => decide (frm = y)) then ([], g)
  else if n.code ≠ 0 then ([(q.who, resN q.note.stamp q.query n.code [])], dropZ g k)
  else if q.told.length + 1 < q.parts.length then ([], toldZ g k q (q.told ++ [(frm, n.hits)]))
  else ([(q.who, resN q.note.stamp q.query 0 (answerZ q (q.told ++ [(frm, n.hits)])))], dropZ g k)

def hearP (n : Nt) (q : Qs) : Bool := q.note.query == n.query

def hearZ (g : Gz) (frm : Int) (n : Nt) : List (Int × Nt) × Gz :=
  if oddB frm n 10 then ([], g) else
  match g.l.findIdx? (hearP n) with
  | none => ([], g)
  | some k => match g.l[k]? with
    | none => ([], g)
    | some q => hearAt g k q frm n

theorem hearZ_none {g : Gz} {frm : Int} {n : Nt} (h : oddB frm n 10 = false) (hn : ∀ j (h : j < g.l.length), hearP n g.l[j] = false) : hearZ g frm n = ([], g) := by
  have : g.l.findIdx? (hearP n) = none := by
    rw [List.findIdx?_eq_none_iff]
    intro x hx
    obtain ⟨i, hi, rfl⟩ := List.mem_iff_getElem.1 hx
    exact hn i hi
  unfold hearZ
  rw [h, this]
  rfl

theorem hearZ_at {g : Gz} {frm : Int} {n : Nt} {k : Nat} (h : oddB frm n 10 = false) (hk : k < g.l.length) (hp : hearP n g.l[k] = true) (hn : ∀ j (h : j < g.l.length), j < k → hearP n g.l[j] = false) : hearZ g frm n = hearAt g k g.l[k] frm n := by
  have : g.l.findIdx? (hearP n) = some k := by
    rw [List.findIdx?_eq_some_iff_getElem]
    exact ⟨hk, hp, fun j hj => by simp [hn j (by omega) hj]⟩
  unfold hearZ
  rw [h, this]
  simp [List.getElem?_eq_getElem hk]

theorem putK_none {L : List (Int × Value)} {a : Int} (h : getK L a = none) (v : Value) : putK L a v = L ++ [(a, v)] := by
  induction L with
  | nil => rfl
  | cons p L ih =>
    unfold getK at h
    by_cases hp : p.1 = a
    · simp [hp] at h
    · rw [List.find?_cons_of_neg (by simpa using hp)] at h
      simp only [putK, hp, if_false, List.cons_append]
      rw [ih h]

theorem ToldF.snoc {w : World} {R : Nat → Prop} {L : List (Int × Value)} {t : List (Int × List Hz)} (h : ToldF w R L t) {p : Int} {v : Value} {hs : List Hz} (hv : HitsF w R v hs) : ToldF w R (L ++ [(p, v)]) (t ++ [(p, hs)]) := by
  refine ⟨by simp [h.1], fun i h1 h2 => ?_⟩
  by_cases hi : i < L.length
  · have hi2 : i < t.length := by have := h.1; omega
    rw [List.getElem_append_left hi, List.getElem_append_left hi2]
    exact h.2 i hi hi2
  · have : i = L.length := by simp at h1; omega
    subst this
    have e := h.1
    rw [List.getElem_append_right (by omega), List.getElem_append_right (by omega)]
    simp [e]
    exact hv

/-- the map of question k is given one more -/
theorem GIn.put {w w' : World} {B c k : Nat} {F R E : Nat → Prop} {g : Gz} {lv : Value} {Q : List Qp} (h : GIn w B c F R g lv Q) (hk : k < Q.length) (hk' : k < g.l.length) (hE : ∀ j, E j → j < w.heap.size ∧ ¬ F j)
    (hw : w.grownBy w' (some Q[k].mb)) {L : List (Int × Value)} {t : List (Int × List Hz)} (hL : MapAt w' (Value.int .i64) Q[k].mb L) (hT : ToldF w' (fun j => R j ∨ E j) L t) :
    GIn w' B c F (fun j => R j ∨ E j) (toldZ g k g.l[k] t) lv Q ∧ Mod F w w' := by
  obtain ⟨m1, m2, m3⟩ := h.mbF Q[k] (List.getElem_mem hk)
  have hs := hw.size
  have hsame : ∀ j, j < w.heap.size → j ≠ Q[k].mb → w'.heap[j]? = w.heap[j]? := fun j hj hne => hw.block j hj (fun e => hne (Option.some.inj e))
  have hmod : Mod F w w' := (Mod.refl F w).grown hw (fun j e => .inl (by rw [← Option.some.inj e]; exact m1))
  have hA : Agree R w w' := fun j hj => hsame j (h.apart j hj).1 (fun e => (h.apart j hj).2 (e ▸ m1))
  refine ⟨⟨?_, ?_, by simp [toldZ, h.len], ?_, h.bs, h.mbs, h.lvF, h.mbF, h.here, fun j hj => ?_, fun j hj => ?_⟩, hmod⟩
  · rw [hsame c (h.low c h.here).2 (fun e => m2 e.symm)]; exact h.obj
  · have := h.row.kept hw (.inr m3)
    simpa [toldZ] using this
  · intro i h1 h2
    have hi : i < g.l.length := by rw [← h.len]; exact h1
    have hq := h.each i h1 hi
    by_cases hik : i = k
    · subst hik
      have e : (toldZ g i g.l[i] t).l[i] = {g.l[i] with told := t} := by simp [toldZ]
      rw [e]
      exact ⟨fun j u hj => by rw [hA.cell hq.own]; exact hq.cells j u hj, by obtain ⟨ca, ta, ho⟩ := hq.obj; exact ⟨ca, ta, (hA _ hq.own).trans ho⟩, .inl hq.own, (hq.note.agree hA).mono fun _ => .inl, hq.parts.agree hq.lies hA, hq.lies.mono fun _ => .inl, hq.empty, L, hL, hT⟩
    · have e : (toldZ g k g.l[k] t).l[i] = g.l[i] := by simp [toldZ, Ne.symm hik]
      rw [e]
      refine (hq.agree hA (hsame _ (h.low _ (h.mbF Q[i] (List.getElem_mem h1)).1).2 ?_)).mono fun _ => .inl
      intro e
      have hp := List.pairwise_iff_getElem.1 h.mbs
      rcases Nat.lt_or_ge i k with h3 | h3
      · exact hp i k (by simpa using h1) (by simpa using hk) h3 (by simpa using e)
      · exact hp k i (by simpa using hk) (by simpa using h1) (by omega) (by simpa using e.symm)
  · have := h.low j hj; exact ⟨this.1, by omega⟩
  · rcases hj with hj | hj
    · have := h.apart j hj; exact ⟨by omega, this.2⟩
    · have := hE j hj; exact ⟨by omega, this.2⟩

end Go.Proofs.YtfmlhdikagogcaaDoor

namespace Go.Proofs.YtfmlhdikagogcaaDoor
open Go.RowKit
set_option maxRecDepth 20000

section
variable {P : Program} {ops : Array Oper} {Q : Exit → Act → World → Prop} {md : Region.Mode} {S : World → Prop} {M : Nat → Bool}

/-- in whatever order from here on; behind each but those of M S holds -/
def anyButM (P : Program) (md : Region.Mode) (ops : Array Oper) (Q : Exit → Act → World → Prop) (S : World → Prop) (M : Nat → Bool) : Nat → Array Bool → Act → World → Prop
  | 0, listed, a, w => Region.ready md ops listed = [] ∧ Q .normal a w
  | k + 1, listed, a, w => (Region.ready md ops listed = [] → Q .normal a w) ∧ ∀ i ∈ Region.ready md ops listed, wpOp P ops Q i (fun a' w' => (M i = false → S w') ∧ anyButM P md ops Q S M k (listed.setIfInBounds i true) a' w') a w

theorem anyButM_any : ∀ (k : Nat) (listed : Array Bool) (a : Act) (w : World), anyButM P md ops Q S M k listed a w → wpAny P md ops Q k listed a w
  | 0, _, _, _, h => h
  | k + 1, _, _, _, h => ⟨h.1, fun i hi => wpOp_mono (fun _ _ h' => anyButM_any k _ _ _ h'.2) (h.2 i hi)⟩

theorem anyButM_first {i : Nat} {oi : Oper} {v : Value} (hi : ops[i]? = some oi) (hsel : ∀ (j : Nat) (o : Oper) cs b, ops[j]? = some o → o.op ≠ .select cs b)
    (hQ : ∀ c a w, Q (.panic c) (a.put oi.dst v) w → Q (.panic c) a w) (hwn : ∀ j, M j = true → waitsFor md ops j i = true) : ∀ (k : Nat) (listed : Array Bool) (a : Act) (w : World),
      (∀ j oj, ops[j]? = some oj → j ≠ i → listed.getD j true = false → (∀ e ∈ oj.after, Region.binds md e = true → e.on ≠ i) → oi.apart ops oj = true) →
      i ∈ Region.ready md ops listed → YieldsIf P ops S oi v a → S w →
      anyButM P md ops Q S M k (listed.setIfInBounds i true) (a.put oi.dst v) w → anyButM P md ops Q S M (k + 1) listed a w := by
  intro k
  induction k with
  | zero =>
    intro listed a w _ hr hy hS H
    refine ⟨fun h => (by rw [h] at hr; cases hr), fun j hj => ?_⟩
    by_cases hji : j = i
    · subst hji; exact hy.wpOp hi hS ⟨fun _ => hS, H⟩
    · have := ready_mono hj hji
      rw [H.1] at this
      cases this
  | succ k ih =>
    intro listed a w hfree hr hy hS H
    refine ⟨fun h => (by rw [h] at hr; cases hr), fun j hj => ?_⟩
    by_cases hji : j = i
    · subst hji; exact hy.wpOp hi hS ⟨fun _ => hS, H⟩
    · have hjn : M j = false := by
        cases hm : M j with
        | false => rfl
        | true => exact (waits_not (hwn j hm) hr hj).elim
      obtain ⟨hjun, oj, hoj, hall⟩ := mem_ready.1 hj
      have hnot : ∀ e ∈ oj.after, Region.binds md e = true → e.on ≠ i := fun e he hb heq => by
        have h1 := hall e he hb
        have h0 := (mem_ready.1 hr).1
        rw [heq] at h1
        rcases Nat.lt_or_ge i listed.size with h' | h'
        · simp [h'] at h0 h1; rw [h0] at h1; cases h1
        · simp [Array.getElem?_eq_none h'] at h1
      have h2 := wpOp_putIf hoj (hfree j oj hoj hji hjun hnot) (fun cs b => hsel i oi cs b hi) (fun cs b => hsel j oj cs b hoj) hQ hy (H.2 j (ready_mono hj hji))
      refine wpOp_mono (fun a' w' h3 => ⟨h3.2.1, ih (listed.setIfInBounds j true) a' w' (fun k ok hk hki hun hno => hfree k ok hk hki ?_ hno) (ready_mono hr (Ne.symm hji)) h3.1 (h3.2.1 hjn) ?_⟩) h2
      · by_cases hjk : j = k
        · subst hjk; exact hjun
        · rw [getD_set_ne true hjk] at hun; exact hun
      · rw [Array.setIfInBounds_comm _ _ hji]
        exact h3.2.2

/-- ms: those of M -/
def canTakeM (md : Region.Mode) (ops : Array Oper) (listed : Array Bool) (ms : List Nat) (i : Nat) : Bool := canTake md ops listed i && ms.all fun n => waitsFor md ops n i

def inM (ms : List Nat) (i : Nat) : Bool := ms.contains i

theorem tkYM {ms : List Nat} (i : Nat) {oi : Oper} {v : Value} {k : Nat} {listed : Array Bool} {a : Act} {w : World} (hS : S w) (hi : ops.toList[i]? = some oi) (hQ : ∀ c a w, Q (.panic c) (a.put oi.dst v) w → Q (.panic c) a w)
    (hc : canTakeM md ops listed ms i = true) (hw : Region.wanted oi (yielded ops a.tmps) = true) (hy : ∀ w, S w → (execOp a.eval oi).run P w = .ok (.value v) w)
    (h : anyButM P md ops Q S (inM ms) k (listed.setIfInBounds i true) (a.put oi.dst v) w) : anyButM P md ops Q S (inM ms) (k + 1) listed a w := by
  simp only [canTakeM, canTake, Bool.and_eq_true, List.all_eq_true] at hc
  have hi' : ops[i]? = some oi := by rw [← hi, Array.getElem?_toList]
  exact anyButM_first hi' (Region.noSelect_spec hc.1.1.1) hQ (fun j hj => hc.2 j (by simpa [inM] using hj)) k listed a w (Region.free_spec hi' hc.1.1.2) (by simpa using hc.1.2) (.inl ⟨hw, hy⟩) hS h

theorem kYM {ms : List Nat} (i : Nat) {oi : Oper} {v : Value} {k : Nat} {listed : Array Bool} {a : Act} {w : World} (hS : S w) (h : anyButM P md ops Q S (inM ms) k (listed.setIfInBounds i true) (a.put oi.dst v) w)
    (hi : ops.toList[i]? = some oi := by exact rfl) (hQ : ∀ c a w, Q (.panic c) (a.put oi.dst v) w → Q (.panic c) a w := by exact fun _ _ _ h => h) (hc : canTakeM md ops listed ms i = true := by decide +kernel) (hw : Region.wanted oi (yielded ops a.tmps) = true := by rfl) (hy : ∀ w, S w → (execOp a.eval oi).run P w = .ok (.value v) w := by intro w hS; (try dsimp only at hS); go_simp; try with_reducible rfl) : anyButM P md ops Q S (inM ms) (k + 1) listed a w :=
  tkYM i hS hi hQ hc hw hy h

/-- it yields v in every world, and is of M -/
theorem anyButM_firstA {i : Nat} {oi : Oper} {v : Value} (hi : ops[i]? = some oi) (hsel : ∀ (j : Nat) (o : Oper) cs b, ops[j]? = some o → o.op ≠ .select cs b)
    (hQ : ∀ c a w, Q (.panic c) (a.put oi.dst v) w → Q (.panic c) a w) (hm : M i = true) : ∀ (k : Nat) (listed : Array Bool) (a : Act) (w : World),
      (∀ j oj, ops[j]? = some oj → j ≠ i → listed.getD j true = false → (∀ e ∈ oj.after, Region.binds md e = true → e.on ≠ i) → oi.apart ops oj = true) →
      i ∈ Region.ready md ops listed → YieldsIf P ops (fun _ => True) oi v a →
      anyButM P md ops Q S M k (listed.setIfInBounds i true) (a.put oi.dst v) w → anyButM P md ops Q S M (k + 1) listed a w := by
  intro k
  induction k with
  | zero =>
    intro listed a w _ hr hy H
    refine ⟨fun h => (by rw [h] at hr; cases hr), fun j hj => ?_⟩
    by_cases hji : j = i
    · subst hji; exact hy.wpOp hi trivial ⟨fun h => (by rw [hm] at h; cases h), H⟩
    · have := ready_mono hj hji
      rw [H.1] at this
      cases this
  | succ k ih =>
    intro listed a w hfree hr hy H
    refine ⟨fun h => (by rw [h] at hr; cases hr), fun j hj => ?_⟩
    by_cases hji : j = i
    · subst hji; exact hy.wpOp hi trivial ⟨fun h => (by rw [hm] at h; cases h), H⟩
    · obtain ⟨hjun, oj, hoj, hall⟩ := mem_ready.1 hj
      have hnot : ∀ e ∈ oj.after, Region.binds md e = true → e.on ≠ i := fun e he hb heq => by
        have h1 := hall e he hb
        have h0 := (mem_ready.1 hr).1
        rw [heq] at h1
        rcases Nat.lt_or_ge i listed.size with h' | h'
        · simp [h'] at h0 h1; rw [h0] at h1; cases h1
        · simp [Array.getElem?_eq_none h'] at h1
      have h2 := wpOp_putIf hoj (hfree j oj hoj hji hjun hnot) (fun cs b => hsel i oi cs b hi) (fun cs b => hsel j oj cs b hoj) hQ hy (H.2 j (ready_mono hj hji))
      refine wpOp_mono (fun a' w' h3 => ⟨h3.2.1, ih (listed.setIfInBounds j true) a' w' (fun k ok hk hki hun hno => hfree k ok hk hki ?_ hno) (ready_mono hr (Ne.symm hji)) h3.1 ?_⟩) h2
      · by_cases hjk : j = k
        · subst hjk; exact hjun
        · rw [getD_set_ne true hjk] at hun; exact hun
      · rw [Array.setIfInBounds_comm _ _ hji]
        exact h3.2.2

theorem tkAM {ms : List Nat} (i : Nat) {oi : Oper} {v : Value} {k : Nat} {listed : Array Bool} {a : Act} {w : World} (hi : ops.toList[i]? = some oi) (hQ : ∀ c a w, Q (.panic c) (a.put oi.dst v) w → Q (.panic c) a w)
    (hc : (canTake md ops listed i && inM ms i) = true) (hw : Region.wanted oi (yielded ops a.tmps) = true) (hy : ∀ w, (execOp a.eval oi).run P w = .ok (.value v) w)
    (h : anyButM P md ops Q S (inM ms) k (listed.setIfInBounds i true) (a.put oi.dst v) w) : anyButM P md ops Q S (inM ms) (k + 1) listed a w := by
  simp only [canTake, Bool.and_eq_true] at hc
  have hi' : ops[i]? = some oi := by rw [← hi, Array.getElem?_toList]
  exact anyButM_firstA hi' (Region.noSelect_spec hc.1.1.1) hQ hc.2 k listed a w (Region.free_spec hi' hc.1.1.2) (by simpa using hc.1.2) (.inl ⟨hw, fun w _ => hy w⟩) h

theorem kAM {ms : List Nat} (i : Nat) {oi : Oper} {v : Value} {k : Nat} {listed : Array Bool} {a : Act} {w : World} (h : anyButM P md ops Q S (inM ms) k (listed.setIfInBounds i true) (a.put oi.dst v) w)
    (hi : ops.toList[i]? = some oi := by exact rfl) (hQ : ∀ c a w, Q (.panic c) (a.put oi.dst v) w → Q (.panic c) a w := by exact fun _ _ _ h => h) (hc : (canTake md ops listed i && inM ms i) = true := by decide +kernel) (hw : Region.wanted oi (yielded ops a.tmps) = true := by rfl) (hy : ∀ w, (execOp a.eval oi).run P w = .ok (.value v) w := by intro w; go_simp; try with_reducible rfl) : anyButM P md ops Q S (inM ms) (k + 1) listed a w :=
  tkAM i hi hQ hc hw hy h

theorem step_toM {i : Nat} {oi : Oper} {k : Nat} {listed : Array Bool} {a : Act} {w : World} (hi : ops.toList[i]? = some oi) (hw : Region.wanted oi (yielded ops a.tmps) = true)
    (h : ∀ K' : Act → World → Prop, Shut (∀ a w, (M i = false → S w) → ((M i = false → S w) → anyButM P md ops Q S M k (listed.setIfInBounds i true) a w) → K' a w) → oi.wp P a w K' Q) :
    wpOp P ops Q i (fun a' w' => (M i = false → S w') ∧ anyButM P md ops Q S M k (listed.setIfInBounds i true) a' w') a w := by
  refine wpOp_step (by rw [← hi, Array.getElem?_toList]) fun K' hK => ?_
  rw [if_pos hw]
  exact h K' fun a w hS hW => hK a w ⟨hS, hW hS⟩

/-- not of M -/
theorem spkM {ms : List Nat} (i : Nat) {oi : Oper} {k : Nat} {listed : Array Bool} {a : Act} {w : World} (hi : ops.toList[i]? = some oi) (hin : inM ms i = false)
    (hr : Region.ready md ops listed = [i]) (hw : Region.wanted oi (yielded ops a.tmps) = true)
    (h : ∀ K' : Act → World → Prop, Shut (∀ a w, S w → (S w → anyButM P md ops Q S (inM ms) k (listed.setIfInBounds i true) a w) → K' a w) → oi.wp P a w K' Q) : anyButM P md ops Q S (inM ms) (k + 1) listed a w := by
  refine ⟨fun h0 => (by rw [h0] at hr; cases hr), fun j hj => ?_⟩
  rw [hr] at hj
  obtain rfl := List.mem_singleton.1 hj
  exact step_toM hi hw fun K' hK => h K' fun a w hS hW => hK a w (fun _ => hS) (fun hS' => hW (hS' hin))

/-- of M -/
theorem spkLM {ms : List Nat} (i : Nat) {oi : Oper} {k : Nat} {listed : Array Bool} {a : Act} {w : World} (hi : ops.toList[i]? = some oi) (hin : inM ms i = true)
    (hr : Region.ready md ops listed = [i]) (hw : Region.wanted oi (yielded ops a.tmps) = true)
    (h : ∀ K' : Act → World → Prop, Shut (∀ a w, anyButM P md ops Q S (inM ms) k (listed.setIfInBounds i true) a w → K' a w) → oi.wp P a w K' Q) : anyButM P md ops Q S (inM ms) (k + 1) listed a w := by
  refine ⟨fun h0 => (by rw [h0] at hr; cases hr), fun j hj => ?_⟩
  rw [hr] at hj
  obtain rfl := List.mem_singleton.1 hj
  exact step_toM hi hw fun K' hK => h K' fun a w hW => hK a w (fun hf => by rw [hin] at hf; cases hf) (fun _ => hW)

theorem anyButM_done {listed : Array Bool} {a : Act} {w : World} (hr : Region.ready md ops listed = []) (h : Q .normal a w) : ∀ k, anyButM P md ops Q S M k listed a w
  | 0 => ⟨hr, h⟩
  | _ + 1 => ⟨fun _ => h, by rw [hr]; simp⟩

theorem region_goM {id : Nat} {a : Act} {w : World} (ms : List Nat) (S : World → Prop) (hm : P.follows .mixedOrders = true) (hS : S w.drew)
    (h : S w.drew → anyButM P .any ops Q S (inM ms) ops.size (Array.replicate ops.size false) a w.drew) : (Code.region id ops true).wp P Q a w :=
  wp_region_any hm (anyButM_any _ _ _ _ (h hS))
end

end Go.Proofs.YtfmlhdikagogcaaDoor

namespace Go.Proofs.YtfmlhdikagogcaaDoor
open Go.RowKit
set_option maxRecDepth 20000

section
variable {α : Type}

/-- the cells of a row of structs -/
def flatU (f : α → List Value) : List α → List Value
  | [] => []
  | r :: rs => f r ++ flatU f rs

theorem flatU_length {f : α → List Value} {s : Nat} (hf : ∀ r, (f r).length = s) (rs : List α) : (flatU f rs).length = rs.length * s := by
  induction rs with
  | nil => simp [flatU]
  | cons r rs ih => simp only [flatU, List.length_append, ih, hf, List.length_cons]; rw [Nat.succ_mul]; omega

theorem flatU_append (f : α → List Value) (rs ss : List α) : flatU f (rs ++ ss) = flatU f rs ++ flatU f ss := by
  induction rs with
  | nil => rfl
  | cons r rs ih => simp [flatU, ih]

theorem flatU_drop {f : α → List Value} {s : Nat} (hf : ∀ r, (f r).length = s) (rs : List α) (n : Nat) : (flatU f rs).drop (n * s) = flatU f (rs.drop n) := by
  induction n generalizing rs with
  | zero => simp
  | succ n ih =>
    cases rs with
    | nil => simp [flatU]
    | cons r rs =>
      rw [Nat.succ_mul, Nat.add_comm, ← List.drop_drop]
      simp only [flatU, List.drop_succ_cons]
      rw [show s = (f r).length from (hf r).symm, List.drop_left, hf r]
      exact ih rs

theorem flatU_take {f : α → List Value} {s : Nat} (hf : ∀ r, (f r).length = s) (rs : List α) (n : Nat) : (flatU f rs).take (n * s) = flatU f (rs.take n) := by
  induction n generalizing rs with
  | zero => simp [flatU]
  | succ n ih =>
    cases rs with
    | nil => simp [flatU]
    | cons r rs =>
      simp only [flatU, List.take_succ_cons]
      rw [List.take_append, hf r, ← ih rs, List.take_of_length_le (by rw [hf r, Nat.succ_mul]; omega), Nat.succ_mul, Nat.add_sub_cancel]

theorem flatU_get {f : α → List Value} {s : Nat} (hf : ∀ r, (f r).length = s) (rs : List α) (i : Nat) (hi : i < rs.length) (j : Nat) (hj : j < s) : (flatU f rs)[i * s + j]? = (f rs[i])[j]? := by
  induction rs generalizing i with
  | nil => simp at hi
  | cons r rs ih =>
    cases i with
    | zero =>
      simp only [flatU, Nat.zero_mul, Nat.zero_add, List.getElem_cons_zero]
      rw [List.getElem?_append_left (by rw [hf]; exact hj)]
    | succ i =>
      simp only [flatU, List.getElem_cons_succ]
      rw [List.getElem?_append_right (by rw [hf, Nat.succ_mul]; omega), hf, show (i + 1) * s + j - s = i * s + j by rw [Nat.succ_mul]; omega]
      exact ih i (by simpa using hi)

theorem flatU_one {f : α → List Value} {rs : List α} (h : ∀ r ∈ rs, ∀ u ∈ f r, u.oneCell' = true) : ∀ u ∈ flatU f rs, u.oneCell' = true := by
  induction rs with
  | nil => simp [flatU]
  | cons r rs ih =>
    intro u hu
    simp only [flatU, List.mem_append] at hu
    rcases hu with hu | hu
    · exact h r (by simp) u hu
    · exact ih (fun r hr => h r (by simp [hr])) u hu

/-- a part of a row that is read -/
theorem SrcAt.subU {f : α → List Value} {s : Nat} (hf : ∀ r, (f r).length = s) {w : World} {b off m c : Nat} {rs : List α} (h : SrcAt w (some ⟨b, off, none⟩) m c s (flatU f rs)) (a k : Nat) (c' : Nat) (hk : a + k ≤ rs.length) : SrcAt w (some ⟨b, off + a * s, none⟩) k c' s (flatU f ((rs.drop a).take k)) := by
  refine ⟨by rw [flatU_length hf, List.length_take, List.length_drop]; rw [Nat.min_eq_left (by omega)], by simp, fun ad ha j u hj => ?_⟩
  obtain rfl := Option.some.inj ha
  rw [← flatU_take hf, ← flatU_drop hf, List.getElem?_take] at hj
  split at hj
  · rw [List.getElem?_drop] at hj
    have := h.cells _ rfl _ _ hj
    rw [Addr.add_lit] at this ⊢
    rw [Nat.add_assoc]; exact this
  · cases hj

/-- one of its elements -/
theorem SrcAt.range {f : α → List Value} {s : Nat} (hf : ∀ r, (f r).length = s) {w : World} {b off m c : Nat} {rs : List α} (h : SrcAt w (some ⟨b, off, none⟩) m c s (flatU f rs)) {k : Nat} (hk : k < rs.length) : w.rangeAt b (off + k * s) (f rs[k]) := by
  intro j u hj
  have hjs : j < s := by have := (List.getElem?_eq_some_iff.1 hj).1; rwa [hf] at this
  rw [← flatU_get hf rs k hk j hjs] at hj
  have := h.cells _ rfl _ _ hj
  rw [Addr.add_lit] at this
  rw [Nat.add_assoc]; exact this

/-- the cells of a row of the call's own -/
theorem own_range {f : α → List Value} {s : Nat} (hf : ∀ r, (f r).length = s) {w : World} {B e n : Nat} {v : Value} {rs : List α} (h : w.ownsRow B e s v n (flatU f rs)) {k : Nat} (hk : k < rs.length) (hs : 0 < s) :
    ∃ b cap, v = .slice (some ⟨b, 0, none⟩) n cap ∧ w.rangeAt b (k * s) (f rs[k]) := by
  have hl := h.1
  rw [flatU_length hf] at hl
  obtain ⟨h1, ⟨h2, h3⟩ | ⟨g, cap, cur, hv, hb, hg, hn, hc, hz, ht⟩⟩ := h
  · subst h3
    have : rs.length * s = 0 := by omega
    rcases Nat.mul_eq_zero.1 this with h | h <;> omega
  · refine ⟨g, cap, hv, fun j u hj => ?_⟩
    have hjs : j < s := by have := (List.getElem?_eq_some_iff.1 hj).1; rwa [hf] at this
    rw [← flatU_get hf rs k hk j hjs, ← ht, List.getElem?_take] at hj
    split at hj
    · simp only [World.cell?, hg]; simpa using hj
    · cases hj
end

/-- a question's parts, as the document has them: the number, has it told, what -/
def partsOf (q : Qs) : List (Int × Bool × List Hz) := q.parts.map fun p => (p, hasTold q.told p, toldOf q.told p)

theorem partsOf_length (q : Qs) : (partsOf q).length = q.parts.length := by simp [partsOf]

theorem partsOf_get (q : Qs) (k : Nat) (h : k < (partsOf q).length) (h' : k < q.parts.length) : (partsOf q)[k] = (q.parts[k], hasTold q.told q.parts[k], toldOf q.told q.parts[k]) := by simp [partsOf]

/-- a part, as it lies -/
structure Pv where
  n : Int
  told : Bool
  hits : Value

def Pv.cells (p : Pv) : List Value := [.int .i64 p.n, .bool p.told, p.hits]

/-- a slice of parts, and all that they reach, lies in F -/
def PartsF (w : World) (F : Nat → Prop) (v : Value) (l : List (Int × Bool × List Hz)) : Prop :=
  ∃ p cap, v = .slice p l.length cap ∧ l.length ≤ cap ∧ cap ≤ 9223372036854775807 ∧ (p = none → cap = 0) ∧
    ∀ i (hi : i < l.length), ∃ b off u, p = some ⟨b, off, none⟩ ∧ F b ∧ w.rangeAt b (off + i * 3) (Pv.cells ⟨l[i].1, l[i].2.1, u⟩) ∧ HitsF w F u l[i].2.2

theorem rangeAt_agree {w w' : World} {F : Nat → Prop} {b o : Nat} {cs : List Value} (h : w.rangeAt b o cs) (ha : Agree F w w') (hb : F b) : w'.rangeAt b o cs := fun j u hj => by
  rw [ha.cell (a := ⟨b, o + j, none⟩) hb]; exact h j u hj

theorem rangeAt_below {w w' : World} {b o : Nat} {cs : List Value} (h : w.rangeAt b o cs) (hb : Below w.heap.size w w') : w'.rangeAt b o cs := fun j u hj => below_cells hb (h j u hj)

theorem PartsF.agree {w w' : World} {F : Nat → Prop} {v : Value} {l : List (Int × Bool × List Hz)} (h : PartsF w F v l) (ha : Agree F w w') : PartsF w' F v l := by
  obtain ⟨p, cap, hv, h1, h2, h3, h4⟩ := h
  refine ⟨p, cap, hv, h1, h2, h3, fun i hi => ?_⟩
  obtain ⟨b, off, u, hp, hf, c0, hh⟩ := h4 i hi
  exact ⟨b, off, u, hp, hf, rangeAt_agree c0 ha hf, hh.agree ha⟩

theorem PartsF.below {w w' : World} {F : Nat → Prop} {v : Value} {l : List (Int × Bool × List Hz)} (h : PartsF w F v l) (hb : Below w.heap.size w w') : PartsF w' F v l := by
  obtain ⟨p, cap, hv, h1, h2, h3, h4⟩ := h
  refine ⟨p, cap, hv, h1, h2, h3, fun i hi => ?_⟩
  obtain ⟨b, off, u, hp, hf, c0, hh⟩ := h4 i hi
  exact ⟨b, off, u, hp, hf, rangeAt_below c0 hb, hh.below hb⟩

theorem PartsF.mono {w : World} {F G : Nat → Prop} {v : Value} {l : List (Int × Bool × List Hz)} (h : PartsF w F v l) (hs : ∀ k, F k → G k) : PartsF w G v l := by
  obtain ⟨p, cap, hv, h1, h2, h3, h4⟩ := h
  refine ⟨p, cap, hv, h1, h2, h3, fun i hi => ?_⟩
  obtain ⟨b, off, u, hp, hf, c0, hh⟩ := h4 i hi
  exact ⟨b, off, u, hp, hs _ hf, c0, hh.mono hs⟩

theorem PartsF.nil (w : World) (F : Nat → Prop) : PartsF w F (.slice none 0 0) [] := ⟨none, 0, rfl, by simp, by simp, by simp, fun i hi => absurd hi (by simp)⟩

theorem PartsF.elem {w : World} {F : Nat → Prop} {p : Option Addr} {n c : Nat} {l : List (Int × Bool × List Hz)} (h : PartsF w F (.slice p n c) l) {i : Nat} (hi : i < l.length) :
    ∃ b off up uc, p = some ⟨b, off, none⟩ ∧ F b ∧ w.rangeAt b (off + i * 3) [.int .i64 l[i].1, .bool l[i].2.1, .slice up l[i].2.2.length uc] ∧ HitsF w F (.slice up l[i].2.2.length uc) l[i].2.2 := by
  obtain ⟨p', cap, hv, h1, h2, h3, h4⟩ := h
  obtain ⟨rfl, rfl, rfl⟩ := Value.slice.inj hv
  obtain ⟨b, off, u, hp, hf, c0, hh⟩ := h4 i hi
  obtain ⟨up, uc, rfl, -⟩ := id hh
  exact ⟨b, off, up, uc, hp, hf, c0, hh⟩

/-- a row of the call's own -/
theorem PartsF.of_own {w : World} {F : Nat → Prop} {B e n : Nat} {v : Value} {rs : List Pv} {l : List (Int × Bool × List Hz)} (ho : w.ownsRow B e 3 v n (flatU Pv.cells rs)) (hv : ∀ b, v.ownBlock = some b → F b) (hlen : rs.length = l.length)
    (hr : ∀ i (h1 : i < rs.length) (h2 : i < l.length), rs[i].n = l[i].1 ∧ rs[i].told = l[i].2.1 ∧ HitsF w F rs[i].hits l[i].2.2) : PartsF w F v l := by
  have hf : ∀ r : Pv, r.cells.length = 3 := fun _ => rfl
  have h1 := ho.1
  rw [flatU_length hf] at h1
  have hn : n = l.length := by omega
  subst hn
  rcases id ho.2 with ⟨h2, h3⟩ | ⟨g, cap, cur, hvv, hb, hg, hn, hc, hs, ht⟩
  · have : l = [] := List.eq_nil_of_length_eq_zero h3
    subst this
    rw [h2]; exact PartsF.nil _ _
  · refine ⟨_, cap, hvv, hn, by simpa [maxLen] using hc, by simp, fun i hi => ?_⟩
    have hir : i < rs.length := by rw [hlen]; exact hi
    obtain ⟨a1, a2, a3⟩ := hr i hir hi
    obtain ⟨g', cap', hv', hrg⟩ := own_range hf ho hir (by decide)
    rw [hvv] at hv'
    obtain ⟨e1, -, -⟩ := Value.slice.inj hv'
    have e2 : g = g' := by simpa using e1
    subst e2
    refine ⟨g, 0, rs[i].hits, rfl, hv g (by rw [hvv]; rfl), ?_, a3⟩
    rw [Nat.zero_add, ← a1, ← a2]
    exact hrg

/-- where a question of the document's lies: its slices -/
structure Dq where
  vp : Value
  vo : Value
  vv : Value
  vh : Value
  pv : Value

/-- its cells -/
def dqCells (x : Qs × Dq) : List Value := (x.1.note.cells x.2.vp x.2.vo x.2.vv x.2.vh).toList ++ [.int .i64 x.1.who, .int .u64 x.1.query, x.2.pv]

theorem dqCells_length (x : Qs × Dq) : (dqCells x).length = 19 := rfl

/-- a question of the document's -/
structure DqAt (w : World) (F : Nat → Prop) (q : Qs) (d : Dq) : Prop where
  note : NoteM w F q.note d.vp d.vo d.vv d.vh
  parts : PartsF w F d.pv (partsOf q)

theorem DqAt.agree {w w' : World} {F : Nat → Prop} {q : Qs} {d : Dq} (h : DqAt w F q d) (ha : Agree F w w') : DqAt w' F q d := ⟨h.note.agree ha, h.parts.agree ha⟩
theorem DqAt.below {w w' : World} {F : Nat → Prop} {q : Qs} {d : Dq} (h : DqAt w F q d) (hb : Below w.heap.size w w') : DqAt w' F q d := ⟨h.note.below hb, h.parts.below hb⟩
theorem DqAt.mono {w : World} {F G : Nat → Prop} {q : Qs} {d : Dq} (h : DqAt w F q d) (hs : ∀ k, F k → G k) : DqAt w G q d := ⟨h.note.mono hs, h.parts.mono hs⟩

theorem DqAt.one {w : World} {F : Nat → Prop} {q : Qs} {d : Dq} (h : DqAt w F q d) : ∀ u ∈ dqCells (q, d), u.oneCell' = true := by
  obtain ⟨a1, a2, a3, a4⟩ := h.note.one
  obtain ⟨p, c, a5, -⟩ := h.parts
  have a6 : d.pv.oneCell' = true := by rw [a5]; rfl
  intro u hu
  simp only [dqCells, Nt.cells, List.mem_append, List.mem_cons, List.not_mem_nil, or_false] at hu
  rcases hu with (rfl | rfl | rfl | rfl | rfl | rfl | rfl | rfl | rfl | rfl | rfl | rfl | rfl | rfl | rfl | rfl) | rfl | rfl | rfl <;> first | rfl | assumption

/-- the slice of the document's questions, and all that they reach, lies in F -/
def DocF (w : World) (F : Nat → Prop) (v : Value) (xs : List (Qs × Dq)) : Prop :=
  ∃ p cap, v = .slice p xs.length cap ∧ xs.length ≤ cap ∧ cap ≤ 9223372036854775807 ∧ (p = none ∨ ∃ b off, p = some ⟨b, off, none⟩ ∧ F b) ∧ SrcAt w p xs.length cap 19 (flatU dqCells xs) ∧ ∀ x ∈ xs, DqAt w F x.1 x.2

theorem SrcAt.agreeF {w w' : World} {F : Nat → Prop} {p : Option Addr} {m c size : Nat} {news : List Value} (h : SrcAt w p m c size news) (ha : Agree F w w') (hF : p = none ∨ ∃ b off, p = some ⟨b, off, none⟩ ∧ F b) : SrcAt w' p m c size news := by
  refine ⟨h.len, h.nil, fun a hp j u hj => ?_⟩
  rcases hF with e | ⟨b, off, e, hb⟩
  · rw [e] at hp; cases hp
  · rw [e] at hp
    obtain rfl := Option.some.inj hp
    have := h.cells _ e j u hj
    rw [Addr.add_lit] at this ⊢
    rw [ha.cell (a := ⟨b, off + j, none⟩) hb]; exact this

theorem DocF.agree {w w' : World} {F : Nat → Prop} {v : Value} {xs : List (Qs × Dq)} (h : DocF w F v xs) (ha : Agree F w w') : DocF w' F v xs := by
  obtain ⟨p, cap, hv, h1, h2, h3, h4, h5⟩ := h
  exact ⟨p, cap, hv, h1, h2, h3, h4.agreeF ha h3, fun x hx => (h5 x hx).agree ha⟩

theorem DocF.below {w w' : World} {F : Nat → Prop} {v : Value} {xs : List (Qs × Dq)} (h : DocF w F v xs) (hb : Below w.heap.size w w') : DocF w' F v xs := by
  obtain ⟨p, cap, hv, h1, h2, h3, h4, h5⟩ := h
  exact ⟨p, cap, hv, h1, h2, h3, h4.below hb, fun x hx => (h5 x hx).below hb⟩

theorem DocF.mono {w : World} {F G : Nat → Prop} {v : Value} {xs : List (Qs × Dq)} (h : DocF w F v xs) (hs : ∀ k, F k → G k) : DocF w G v xs := by
  obtain ⟨p, cap, hv, h1, h2, h3, h4, h5⟩ := h
  exact ⟨p, cap, hv, h1, h2, h3.imp id (fun ⟨b, off, e, hb⟩ => ⟨b, off, e, hs b hb⟩), h4, fun x hx => (h5 x hx).mono hs⟩

theorem DocF.nil (w : World) (F : Nat → Prop) : DocF w F (.slice none 0 0) [] := ⟨none, 0, rfl, by simp, by simp, .inl rfl, ⟨rfl, fun _ => ⟨rfl, rfl⟩, fun a ha => by cases ha⟩, fun x hx => absurd hx (by simp)⟩

theorem DocF.of_own {w : World} {F : Nat → Prop} {B e n : Nat} {v : Value} {xs : List (Qs × Dq)} (ho : w.ownsRow B e 19 v n (flatU dqCells xs)) (hv : ∀ b, v.ownBlock = some b → F b) (hx : ∀ x ∈ xs, DqAt w F x.1 x.2) : DocF w F v xs := by
  have h1 := ho.1
  rw [flatU_length dqCells_length] at h1
  have hn : n = xs.length := by omega
  subst hn
  obtain ⟨p, m, c, rfl⟩ := own_form ho
  have hs := SrcAt.of_own ho
  rcases id ho.2 with ⟨h2, h3⟩ | ⟨g, cap, cur, hvv, hb, hg, hn, hc, hz, ht⟩
  · have : xs = [] := List.eq_nil_of_length_eq_zero h3
    subst this
    rw [h2]; exact DocF.nil _ _
  · obtain ⟨rfl, rfl, rfl⟩ := Value.slice.inj hvv
    exact ⟨_, c, rfl, hn, by simpa [maxLen] using hc, .inr ⟨g, 0, rfl, hv g rfl⟩, hs, hx⟩

/-- the document's gather at c: its questions are read from F -/
def RefG (w : World) (c : Nat) (F : Nat → Prop) (g : Gz) : Prop :=
  ∃ v xs, w.heap[c]? = some (.cells #[.int .i64 g.shards, .int .i64 g.dim, .int .u64 g.last, v] 68 (0, 0)) ∧ DocF w F v xs ∧ xs.map (·.1) = g.l ∧ ∀ k, F k → k < w.heap.size ∧ k ≠ c

theorem RefG.below {w w' : World} {c : Nat} {F : Nat → Prop} {g : Gz} (h : RefG w c F g) (hb : Below w.heap.size w w') : RefG w' c F g := by
  obtain ⟨v, xs, h1, h2, h3, h4⟩ := h
  exact ⟨v, xs, (hb.block c (Array.getElem?_eq_some_iff.1 h1).1).trans h1, h2.below hb, h3, fun k hk => ⟨Nat.lt_of_lt_of_le (h4 k hk).1 hb.size, (h4 k hk).2⟩⟩

theorem RefG.lt {w : World} {c : Nat} {F : Nat → Prop} {g : Gz} (h : RefG w c F g) : c < w.heap.size := by
  obtain ⟨v, xs, h1, -⟩ := h
  exact (Array.getElem?_eq_some_iff.1 h1).1

/-- the rest of the world moves -/
theorem RefG.mod {w w' : World} {c : Nat} {F P : Nat → Prop} {g : Gz} (h : RefG w c F g) (hm : Mod P w w') (hF : ∀ k, F k → ¬ P k) (hc : ¬ P c) : RefG w' c F g := by
  obtain ⟨v, xs, h1, h2, h3, h4⟩ := id h
  exact ⟨v, xs, (hm.block c h.lt hc).trans h1, h2.agree (Agree.of_mod hm (fun k hk => (h4 k hk).1) hF), h3, fun k hk => ⟨Nat.lt_of_lt_of_le (h4 k hk).1 hm.size, (h4 k hk).2⟩⟩

/-- what a call of the document's that tells mail leaves -/
def DTold (w : World) (c : Nat) (F E : Nat → Prop) (l : List (Int × Nt)) (g' : Gz) (r : Ending) (w' : World) : Prop :=
  ∃ v rs, ∃ G F' : Nat → Prop, r = .returned v ∧ w'.ownsRow w.heap.size 120 17 v rs.length (flatM rs) ∧ rs.map Mv.says = l ∧ MailF w' G rs ∧ (∀ k, G k → k < w'.heap.size) ∧
    RefG w' c F' g' ∧ Mod (fun k => k = c) w w' ∧ (∀ k, F' k → F k ∨ E k ∨ w.heap.size ≤ k)

end Go.Proofs.YtfmlhdikagogcaaDoor

namespace Go.Proofs.YtfmlhdikagogcaaDoor
open Go.RowKit
set_option maxRecDepth 20000

theorem rowMailR : RowTy Tryd.prog 69 120 17 200 (.agg #[.int .i64 0, .int .u8 0, .int .u64 0, .int .u64 0, .int .u64 0, .int .u64 0, .int .u64 0, .int .u64 0, .int .u64 0, .int .i64 0, .int .i64 0, .int .i64 0, .int .i64 0, .slice none 0 0, .slice none 0 0, .slice none 0 0, .slice none 0 0]) := ⟨Tryd.underlying69, by kernel_rfl, rfl, by decide⟩

set_option maxHeartbeats 4000000 in
theorem dlooks (q : Qs) (d : Dq) (F : Nat → Prop) (w : World) (h : DqAt w F q d) (hF : ∀ k, F k → k < w.heap.size) (hn : q.parts.length ≤ 1000) :
    Calls Tryd.prog 50 #[.agg (dqCells (q, d)).toArray] w (NewMails w 120 F (looksZ q)) := by
  obtain ⟨vp, vo, vv, vh, pv⟩ := d
  obtain ⟨hN, hP⟩ := h
  simp only at hN hP
  obtain ⟨p3, c3, rfl, -, -, -, -⟩ := hN.read.vec.slice
  obtain ⟨p1, c1, rfl, -, -, -, -⟩ := hN.read.parts.slice
  obtain ⟨p2, c2, rfl, -, -, -, -⟩ := id hN.read.ops
  obtain ⟨p4, c4, rfl, -, -, -, -⟩ := id hN.read.hits
  obtain ⟨pp, pc, hpv, -, -, -, -⟩ := id hP
  rw [partsOf_length] at hpv
  subst hpv
  have HP := Lib.hid hP
  have HN := Lib.hid hN
  have HF := Lib.hid hF
  have PN := Lib.hid hn
  have hl : q.parts.length ≤ 9223372036854775807 := by omega
  clear hP hN hF hn
  obtain ⟨CS, hCS⟩ : ∃ CS : Array Value, CS = (dqCells (q, ⟨.slice p1 q.note.parts.length c1, .slice p2 q.note.ops.length c2, .slice p3 q.note.vec.length c3, .slice p4 q.note.hits.length c4, .slice pp q.parts.length pc⟩)).toArray := ⟨_, rfl⟩
  rw [← hCS]
  have HCS := Lib.hid hCS
  clear hCS
  go_enter Tryd.func50, Tryd.ntmps50
  go_upto_region 2 with fail
  obtain ⟨W1, hW1⟩ : ∃ W1, W1 = w.alloc (.cells CS 108) := ⟨_, rfl⟩
  have y1 : W1.heap[w.heap.size]? = some (.cells CS 108 (0, 0)) := by rw [hW1]; exact heap_alloc_new _ _
  have b1 : Below w.heap.size w W1 := by rw [hW1]; exact (Below.refl _ _).alloc (Nat.le_refl _) _
  rw [← hW1]
  have z18 : W1.cell? ⟨w.heap.size, 18, none⟩ = some (.slice pp q.parts.length pc) := by rw [cells_get y1 18, HCS.out]; rfl
  have Y1 := Lib.hid (And.intro y1 b1)
  have hlt1 := lt_block y1
  clear hW1 y1 b1
  go_wp2_with fail
  go_loopg [3, 9] q.parts.length (fun m out i wr => ∃ (k : Nat) (rs : List Mv), m = q.parts.length - k ∧ k ≤ q.parts.length ∧ i = .int .i64 k ∧ rs.length ≤ k ∧ wr.ownsRow W1.heap.size 120 17 out rs.length (flatM rs) ∧ rs.map Mv.says = looksZ {q with parts := q.parts.take k} ∧ MailF w F rs ∧ Below W1.heap.size W1 wr)
  case atStart => exact ⟨0, [], rfl, by omega, rfl, Nat.le_refl _, World.ownsRow_nil _ _ _ _, rfl, fun r hr => absurd hr (by simp), Below.refl _ _⟩
  case round =>
    obtain ⟨k, rs, rfl, hk, rfl, hlen, hown, hsay, hm, hb⟩ := hrel
    by_cases hlt : k < q.parts.length
    · obtain ⟨bb, off, up, uc, hpp, -, hc, hh⟩ := HP.out.elem (i := k) (by rw [partsOf_length]; exact hlt)
      subst hpp
      have TK := Lib.hid (looks_take q k hlt)
      have BW := Lib.hid (Y1.out.2.trans (hb.mono (Nat.le_of_lt hlt1)))
      have yr := (hb.block _ hlt1).trans Y1.out.1
      have O := Lib.hid (And.intro hown (And.intro hsay hm))
      have LN := Lib.hid hlen
      have HB := Lib.hid hb
      obtain ⟨pn, hpn⟩ : ∃ pn, pn = q.parts[k] := ⟨_, rfl⟩
      obtain ⟨ph, hph⟩ : ∃ ph, ph = hasTold q.told pn := ⟨_, rfl⟩
      rw [partsOf_get q k _ hlt, ← hpn] at hc
      dsimp only at hc
      rw [← hph] at hc
      obtain ⟨hz, hhz⟩ : ∃ hz, hz = toldOf q.told pn := ⟨_, rfl⟩
      rw [← hhz] at hc
      obtain ⟨PS, hPS⟩ : ∃ PS : List Value, PS = [.int .i64 pn, .bool ph, .slice up hz.length uc] := ⟨_, rfl⟩
      have RA : wr.rangeAt bb (off + k * 3) PS := by rw [hPS]; exact rangeAt_below (rangeAt_below hc Y1.out.2) hb
      have SZ : (Tryd.prog.info? 112).map (·.size) = some PS.length := by rw [hPS]; kernel_rfl
      have SZ' : (Tryd.prog.info? 112).map (·.size) = some PS.toArray.size := by rw [hPS]; kernel_rfl
      have ONE : PS.toArray.all (·.oneCell') = true := by rw [hPS]; simp [Value.oneCell']
      have hsz : (#[.int .i64 0, .bool false, .slice none 0 0] : Array Value).size = PS.toArray.size := by rw [hPS]; rfl
      obtain ⟨W3, hW3⟩ : ∃ W3, W3 = (wr.alloc (.cells #[.int .i64 0, .bool false, .slice none 0 0] 112)).setRow wr.heap.size PS.toArray := ⟨_, rfl⟩
      have b3 : Below wr.heap.size wr W3 := by rw [hW3]; exact below_setRow ((Below.refl _ _).alloc (Nat.le_refl _) _) (Nat.le_refl _) _
      have y3 : W3.heap[wr.heap.size]? = some (.cells PS.toArray 112 (0, 0)) := by rw [hW3]; exact setRow_heap _ _ _ _ _ _ (heap_alloc_new _ _)
      have x0 : W3.cell? ⟨wr.heap.size, 0, none⟩ = some (.int .i64 pn) := by rw [cells_get y3 0, hPS]; rfl
      have x1 : W3.cell? ⟨wr.heap.size, 1, none⟩ = some (.bool ph) := by rw [cells_get y3 1, hPS]; rfl
      have yq : W3.heap[w.heap.size]? = some (.cells CS 108 (0, 0)) := (b3.block _ (lt_block yr)).trans yr
      have RQ : W3.rangeAt w.heap.size 0 [.int .u8 q.note.kind, .int .u64 q.note.txn, .int .u64 q.note.batch, .int .u64 q.note.stamp, .int .u64 q.note.after, .int .u64 q.note.mark, .int .u64 q.note.query, .int .u64 q.note.id, .int .i64 q.note.k, .int .i64 q.note.ef, .int .i64 q.note.code, .int .i64 q.note.who, .slice p1 q.note.parts.length c1, .slice p2 q.note.ops.length c2, .slice p3 q.note.vec.length c3, .slice p4 q.note.hits.length c4] := fun j u hj => by
        have hj16 : j < 16 := (List.getElem?_eq_some_iff.1 hj).1
        rw [cells_get yq (0 + j), HCS.out, List.getElem?_toArray, Nat.zero_add]
        unfold dqCells
        rw [List.getElem?_append_left (by exact hj16)]
        exact hj
      have HW3 := Lib.hid hW3
      have b03 := Lib.hid (BW.out.trans (b3.mono BW.out.size))
      have hs3 := b03.out.size
      have HPN := Lib.hid hpn
      have HPH := Lib.hid hph
      clear hown hsay hm hlen hb hc hh hPS y3 yq hW3 yr hhz hph hpn
      go_upto_region 5 with (first | refine wpList_load_mid rfl 112 _ rfl bb (off + k * 3) (by rfl) PS _ RA Tryd.underlying112 rfl SZ ?_ | refine wpList_store_row rfl 112 _ _ rfl wr.heap.size PS.toArray (by rfl) (by rfl) 112 #[.int .i64 0, .bool false, .slice none 0 0] (heap_alloc_new _ _) SZ' hsz ONE ?_)
      rw [← HW3.out]
      have B3 := Lib.hid b3
      cases ph
      · obtain ⟨g6, c6, w6, hrun, hown6, hg6, hat6, hlt6⟩ := run_push rowMailR (own_below O.out.1 B3.out) (Nat.le_trans HB.out.size B3.out.size) #[.int .i64 pn, .int .u8 q.note.kind, .int .u64 q.note.txn, .int .u64 q.note.batch, .int .u64 q.note.stamp, .int .u64 q.note.after, .int .u64 q.note.mark, .int .u64 q.note.query, .int .u64 q.note.id, .int .i64 q.note.k, .int .i64 q.note.ef, .int .i64 q.note.code, .int .i64 q.note.who, .slice p1 q.note.parts.length c1, .slice p2 q.note.ops.length c2, .slice p3 q.note.vec.length c3, .slice p4 q.note.hits.length c4] rfl (by simp [Value.oneCell']) (by have := LN.out; have := PN.out; simp [maxLen]; omega) (by have := LN.out; have := PN.out; omega)
        have own' : w6.ownsRow W1.heap.size 120 17 (.slice (some ⟨g6, 0, none⟩) (rs.length + 1) c6) (rs ++ [(⟨pn, q.note, .slice p1 q.note.parts.length c1, .slice p2 q.note.ops.length c2, .slice p3 q.note.vec.length c3, .slice p4 q.note.hits.length c4⟩ : Mv)]).length (flatM (rs ++ [(⟨pn, q.note, .slice p1 q.note.parts.length c1, .slice p2 q.note.ops.length c2, .slice p3 q.note.vec.length c3, .slice p4 q.note.hits.length c4⟩ : Mv)])) := by
          rw [flatM_append]
          simp only [List.length_append, List.length_cons, List.length_nil]
          exact hown6
        have bw6 : Below W1.heap.size W1 w6 := (((HB.out.trans (B3.out.mono HB.out.size)).alloc (by have := HB.out.size; have := B3.out.size; omega) _).grown hg6 (by have := HB.out.size; have := B3.out.size; simp; omega) (fun b e => (O.out.1.lt b e).1))
        have FF := Lib.hid (And.intro own' bw6)
        clear own' bw6 hown6 hg6 hat6 hlt6
        go_wp2_with (first | (with_reducible refine wpList_append_eq hrun rfl _ _ rfl rfl rfl ?_) | refine wpList_load_mid rfl 53 _ rfl w.heap.size 0 (by rfl) _ _ RQ Tryd.underlying53 rfl (by kernel_rfl) ?_)
        go_roundg (q.parts.length - (k + 1))
        case measure => omega
        case rel => exact ⟨k + 1, _, rfl, by omega, by go_num, by have := LN.out; simp; omega, FF.out.1, by rw [List.map_append, O.out.2.1, TK.out, ← HPN.out, ← HPH.out]; rfl, fun r hr => by
          rcases List.mem_append.1 hr with hr | hr
          · exact O.out.2.2 r hr
          · rw [List.mem_singleton.1 hr]; exact HN.out, FF.out.2⟩
      · go_wp2_with fail
        go_roundg (q.parts.length - (k + 1))
        case measure => omega
        case rel => exact ⟨k + 1, rs, rfl, by omega, by go_num, by have := LN.out; omega, own_below O.out.1 B3.out, by rw [O.out.2.1, TK.out, ← HPN.out, ← HPH.out]; simp, O.out.2.2, HB.out.trans (B3.out.mono HB.out.size)⟩
    · obtain rfl : k = q.parts.length := by omega
      go_wp2_with fail
      go_ret
      have hbw := Y1.out.2.trans (hb.mono (Nat.le_of_lt hlt1))
      exact ⟨_, rs, F, rfl, own_mono hown (Nat.le_of_lt hlt1), by rw [hsay, List.take_length], hm.below hbw, fun k hk => ⟨Nat.lt_of_lt_of_le (HF.out k hk) hbw.size, fun e => by have h1 := (hown.lt k e).1; have h2 := HF.out k hk; omega, .inr hk⟩, hbw⟩

end Go.Proofs.YtfmlhdikagogcaaDoor

namespace Go.Proofs.YtfmlhdikagogcaaDoor
open Go.RowKit
set_option maxRecDepth 20000

def quitL (g : Gz) : List (Int × Nt) := g.l.map fun q => (q.who, resN q.note.stamp q.query 12 [])

theorem quit_take (g : Gz) (k : Nat) (hk : k < g.l.length) : quitL {g with l := g.l.take (k + 1)} = quitL {g with l := g.l.take k} ++ [(g.l[k].who, resN g.l[k].note.stamp g.l[k].query 12 [])] := by
  unfold quitL
  simp only [List.take_succ_eq_append_getElem hk, List.map_append]
  rfl


/-- no question is left -/
theorem GIn.emptied {w wr w' : World} {B c : Nat} {F R : Nat → Prop} {g : Gz} {lv : Value} {Q : List Qp} (h : GIn w B c F R g lv Q) (hb : Below w.heap.size w wr) (hw : w' = wr.setCell ⟨c, 3, none⟩ (.slice none 0 0)) : GAt w' B c F R {g with l := []} ∧ Mod F w w' := by
  subst hw
  have hs := hb.size
  have hsz : (wr.setCell ⟨c, 3, none⟩ (.slice none 0 0)).heap.size = wr.heap.size := by simp [World.setCell]
  have hc : wr.heap[c]? = w.heap[c]? := hb.block c (h.low c h.here).2
  refine ⟨⟨.slice none 0 0, [], ?_⟩, (Mod.of_below hb).setCell (.inl h.here) _⟩
  refine ⟨?_, World.ownsRow_nil _ _ _ _, rfl, fun i h => absurd h (by simp), by simp, by simp, fun k h => by simp [Value.ownBlock] at h, fun q h => absurd h (by simp), h.here, fun k hk => ?_, fun k hk => ?_⟩
  · exact set_block (hc.trans h.obj) 3 _
  · have := h.low k hk; omega
  · have := h.apart k hk; exact ⟨by omega, this.2⟩

set_option maxHeartbeats 4000000 in
theorem quit (B c : Nat) (F R : Nat → Prop) (g : Gz) (w : World) (hG : GAt w B c F R g) (hB : B ≤ w.heap.size) (hl : g.l.length ≤ 1000) :
    Calls Tryd.prog 16 #[.pointer (some ⟨c, 0, none⟩)] w (GTold w B c F R (fun _ => False) (quitL g) {g with l := []}) := by
  obtain ⟨lv, Q, hI⟩ := hG
  obtain ⟨-, -, -, x3, fz⟩ := hI.get
  obtain ⟨p, m, cap, rfl⟩ := own_form hI.row
  obtain rfl : m = g.l.length := own_len hI.row
  have II := Lib.hid hI
  have HL := Lib.hid hl
  clear hI hl
  go_enter Tryd.func16, Tryd.ntmps16
  go_wp2_with fail
  go_loopg [3, 13] g.l.length (fun q out i wr => ∃ (k : Nat) (rs : List Mv) (G : Nat → Prop), q = g.l.length - k ∧ k ≤ g.l.length ∧ i = .int .i64 k ∧ rs.length = k ∧ wr.ownsRow w.heap.size 44 17 out rs.length (flatM rs) ∧ rs.map Mv.says = quitL {g with l := g.l.take k} ∧ MailF wr G rs ∧ (∀ k, G k → k < wr.heap.size ∧ out.ownBlock ≠ some k ∧ (w.heap.size ≤ k ∨ False)) ∧ Below w.heap.size w wr)
  case atStart => exact ⟨0, [], fun _ => False, rfl, by omega, rfl, rfl, World.ownsRow_nil _ _ _ _, rfl, fun r hr => absurd hr (by simp), fun _ h => h.elim, Below.refl _ _⟩
  case round =>
    obtain ⟨k, rs, G, rfl, hk, rfl, hlen, hown, hsay, hm, hF, hb⟩ := hrel
    by_cases hlt : k < g.l.length
    · have hI := II.out.below hb
      have hkQ : k < Q.length := by rw [hI.len]; exact hlt
      obtain ⟨b, rfl, -, c0⟩ := row_elem hI.row (i := k) (by simpa using hkQ)
      have c1 : wr.cell? ⟨b, k, none⟩ = some (.pointer (some ⟨Q[k].b, 0, none⟩)) := by rw [c0]; simp [Qp.ptr]
      have hq := hI.each k hkQ hlt
      obtain ⟨⟨-, -, -, x3', -⟩, -, -, -, x16, x17, -, -⟩ := hq.get
      have RS := Lib.hid (result Q[k].b _ _ _ 12 [] (.slice none 0 0) (fun _ => False) wr x3' x16 x17 (HitsF.nil _ _) (fun _ h => h.elim))
      obtain ⟨qo, no, co, rfl⟩ := own_form hown
      have O := Lib.hid (And.intro hown (And.intro hsay (And.intro hm (And.intro hF hb))))
      have LN := Lib.hid hlen
      have hkk : k ≤ 1000 := by have := HL.out; omega
      have hsz := hb.size
      clear hI hq x3' x16 x17 c0 hown hsay hm hF hb hlen x3
      go_wp2_with fail
      refine RS.out.mono ?_
      rintro e w4 ⟨v4, rs4, G4, rfl, ho4, hs4, hm4, hG4, hb4⟩
      obtain ⟨q4, n4, c4, rfl⟩ := own_form ho4
      have h41 : rs4.length = 1 := by have := congrArg List.length hs4; simpa using this
      obtain ⟨q5, n5, c5, w5, hrun, hown5, hg5, hat5⟩ := run_app rowMail (own_below O.out.1 hb4) (by have := hb4.size; omega) (SrcAt.of_own ho4) hm4.one (by have := LN.out; simp [maxLen]; omega) (by have := LN.out; omega)
      obtain rfl : n4 = rs4.length := own_len ho4
      have A := Lib.hid (mails_app (R := fun _ => False) O.out.1 O.out.2.2.1 O.out.2.2.2.1 O.out.2.2.2.2 (fun _ h => h.elim) hm4 (fun k hk => ⟨(hG4 k hk).1, (hG4 k hk).2.2⟩) hb4 hown5 hg5 hat5)
      have S4 := Lib.hid (And.intro hs4 h41)
      clear ho4 hs4 hm4 hG4 hb4 hown5 hg5 hat5 h41
      go_wp2_with (with_reducible refine wpList_append_eq hrun rfl _ _ rfl rfl rfl ?_)
      go_roundg (g.l.length - (k + 1))
      case measure => omega
      case rel =>
        obtain ⟨G', a1, a2, a3, a4⟩ := A.out
        exact ⟨k + 1, rs ++ rs4, G', rfl, by omega, by go_num, by have := LN.out; have := S4.out.2; simp; omega, a1, by rw [List.map_append, O.out.2.1, S4.out.1, quit_take g k hlt], a2, a3, a4⟩
    · obtain rfl : k = g.l.length := by omega
      obtain ⟨qo, no, co, rfl⟩ := own_form hown
      have hI := II.out.below hb
      obtain ⟨-, -, -, y3, yf⟩ := hI.get
      have yf3 := yf 3
      have O := Lib.hid (And.intro hown (And.intro hsay (And.intro hm (And.intro hF hb))))
      clear hI yf hown hsay hm hF hb hlen
      go_wp2_with fail
      go_returns
      obtain ⟨hown, hsay, hm, hF, hb⟩ := O.out
      obtain ⟨e1, e2⟩ := II.out.emptied hb rfl
      have hc := (II.out.low c II.out.here).2
      have hagree : ∀ k, k ≠ c → (wr.setCell ⟨c, 3, none⟩ (.slice none 0 0)).heap[k]? = wr.heap[k]? := fun k hk => Below.heap_setCell _ _ _ _ hk
      refine ⟨_, rs, G, F, R, rfl, ?_, by rw [hsay, List.take_length], ?_, fun k hk => ⟨?_, (hF k hk).2.1⟩, fun k hk hf => ?_, e1, e2, fun _ h => .inl h, fun _ h => .inl h⟩
      · exact hown.kept (grownBy_setCells c [.slice none 0 0] 3 wr) (.inr (by intro e; have := (hown.lt c e).1; omega))
      · refine hm.agree fun k hk => hagree k ?_
        rintro rfl
        rcases (hF _ hk).2.2 with h | h
        · omega
        · exact h
      · have := (hF k hk).1; simp [World.setCell]; exact this
      · have := (hown.lt k hk).1; have := (II.out.low k hf).2; omega

theorem quit_nil (w : World) :
    Calls Tryd.prog 16 #[.pointer none] w fun e w' => e = .returned (.slice none 0 0) ∧ w = w' := by
  go_enter Tryd.func16, Tryd.ntmps16
  go_wp2_with fail
  go_ret
  exact ⟨rfl, rfl⟩

end Go.Proofs.YtfmlhdikagogcaaDoor
