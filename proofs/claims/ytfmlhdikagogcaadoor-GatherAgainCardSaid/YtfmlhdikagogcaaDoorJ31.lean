/-
  best's document: all that it has, in order; a new one. Lists that are put together in no room.
  gather: a row of mail is put behind another one.
  gather: what Hear answers; a part's hits are put to what was told.
-/
import Derived.Test.YtfmlhdikagogcaaDoorJ30
import Derived.Test.YtfmlhdikagogcaaDoorJ11
import Derived.Test.YtfmlhdikagogcaaDoorJ18
namespace Go.Proofs.YtfmlhdikagogcaaDoor
open Go.RowKit
set_option maxRecDepth 20000

theorem refAll (F : Nat → Prop) (c : Nat) (most : Int) (n : Nat) (L : List Hz) (w : World) (hL : RefL w F c most L) (gL : GoodL n L) (hn : L.length ≤ 1000000) :
    Calls Tryd.prog 54 #[.pointer (some ⟨c, 0, none⟩)] w (SortTo w F L) := by
  obtain ⟨v, G, r, ho, hp, -, hG⟩ := hL
  obtain ⟨c0, c1, -⟩ := ho.cells
  have hlen := hp.length_eq
  have S := Lib.hid (sort r L gL.sorted (gL.ids.perm hp) hp (by omega) v G w ho.hits)
  have GF := Lib.hid hG
  clear ho hp gL hG hlen
  go_enter Tryd.func54, Tryd.ntmps54
  go_wp2_with fail
  refine S.out.mono ?_
  rintro e w' ⟨v', rfl, hh, hb⟩
  have R := Lib.hid (And.intro (hh.mono (G := Plus F w w') fun k hk => by
    rcases hk with hk | hk
    · exact .inl (GF.out k hk)
    · exact .inr hk) hb)
  clear hh hb
  go_wp2_with fail
  go_ret
  exact ⟨v', rfl, R.out.1, R.out.2⟩

theorem refAll_nil (w : World) : Calls Tryd.prog 54 #[.pointer none] w fun e w' => e = .returned (.slice none 0 0) ∧ w = w' := by
  go_enter Tryd.func54, Tryd.ntmps54
  go_wp2_with fail
  go_ret
  exact ⟨rfl, rfl⟩

theorem refAdd_nil (x : Value) (i d : Int) (w : World) : Calls Tryd.prog 53 #[.pointer none, .agg #[.int .u64 i, .int .u64 d, x]] w fun e w' => e = .returned (.bool false) ∧ Below w.heap.size w w' := by
  go_enter Tryd.func53, Tryd.ntmps53
  go_wp2_with fail
  go_ret
  exact ⟨rfl, by go_grown⟩

theorem refL_new (w : World) (most : Int) : RefL (w.alloc (.cells #[.int .i64 most, .slice none 0 0] 116)) (fun k => k = w.heap.size) w.heap.size most [] :=
  ⟨_, fun _ => False, [], ⟨heap_alloc_new _ _, HitsF.nil _ _, id, fun k hk => hk.elim⟩, List.Perm.refl _, rfl, fun k hk => hk.elim⟩

theorem merge_zero (ls : List (List Hz)) (E : Nat → Prop) (v : Value) (w : World) (h : ListsF w E v ls) :
    Calls Tryd.prog 41 #[.int .i64 0, v] w fun e w' => ∃ q c, e = .returned (.slice q 0 c) ∧ Below w.heap.size w w' := by
  obtain ⟨p, cap, rfl, hcap, hbig, -, -⟩ := id h
  have hl9 : ls.length ≤ 9223372036854775807 := by omega
  have H := Lib.hid h
  clear h hcap hbig
  go_enter Tryd.func41, Tryd.ntmps41
  go_wp2_with fail
  refine (new_no 0 w (by omega)).mono ?_
  rintro e w1 ⟨rfl, rfl⟩
  go_wp2_with fail
  go_loopg [16] ls.length (fun q i wr => ∃ k : Nat, q = ls.length - k ∧ k ≤ ls.length ∧ i = .int .i64 k ∧ wr = w)
  case atStart => exact ⟨0, rfl, by omega, rfl, rfl⟩
  case round =>
    obtain ⟨k, rfl, hk, rfl, rfl⟩ := hrel
    by_cases hlt : k < ls.length
    · obtain ⟨b, off, q, qc, rfl, c0, -⟩ := H.out.elem hlt
      go_wp2_with fail
      refine (adds_nil _ _).mono ?_
      rintro e w4 ⟨rfl, rfl⟩
      go_wp2_with fail
      go_roundg (ls.length - (k + 1))
      case measure => omega
      case rel => exact ⟨k + 1, rfl, by omega, by go_num, rfl⟩
    · obtain rfl : k = ls.length := by omega
      go_wp2_with fail
      refine (hits_nil _).mono ?_
      rintro e w4 ⟨v4, rs4, rfl, ho, hh, hb4⟩
      obtain rfl : rs4 = [] := List.eq_nil_of_length_eq_zero hh.len
      have BB := Lib.hid (And.intro ho hb4)
      clear ho hh hb4
      go_wp2_with fail
      go_ret
      obtain ⟨-, ⟨e, -⟩ | ⟨g, cap, cur, e, -⟩⟩ := BB.out.1
      · exact ⟨_, _, congrArg Ending.returned e, BB.out.2⟩
      · exact ⟨_, _, congrArg Ending.returned e, BB.out.2⟩

end Go.Proofs.YtfmlhdikagogcaaDoor

namespace Go.Proofs.YtfmlhdikagogcaaDoor
open Go.RowKit
set_option maxRecDepth 20000

theorem mails_app {w wr w4 w5 : World} {F F4 R : Nat → Prop} {e : Nat} {rs rs4 : List Mv} {v v5 : Value} (hown : wr.ownsRow w.heap.size e 17 v rs.length (flatM rs)) (hm : MailF wr F rs) (hF : ∀ k, F k → k < wr.heap.size ∧ v.ownBlock ≠ some k ∧ (w.heap.size ≤ k ∨ R k)) (hb : Below w.heap.size w wr) (hR : ∀ k, R k → k < w.heap.size)
    (hm4 : MailF w4 F4 rs4) (hF4 : ∀ k, F4 k → k < w4.heap.size ∧ (wr.heap.size ≤ k ∨ R k)) (hb4 : Below wr.heap.size wr w4)
    (hown5 : w5.ownsRow w.heap.size e 17 v5 (rs.length + rs4.length) (flatM rs ++ flatM rs4)) (hg5 : w4.grownBy w5 v.ownBlock) (hv5 : v5.ownBlock = v.ownBlock ∨ v5.ownBlock = some w4.heap.size) :
    ∃ F' : Nat → Prop, w5.ownsRow w.heap.size e 17 v5 (rs ++ rs4).length (flatM (rs ++ rs4)) ∧ MailF w5 F' (rs ++ rs4) ∧ (∀ k, F' k → k < w5.heap.size ∧ v5.ownBlock ≠ some k ∧ (w.heap.size ≤ k ∨ R k)) ∧ Below w.heap.size w w5 := by
  have hsz := hb.size
  have hsz4 := hb4.size
  have hs5 := hg5.size
  have hb5 : Below w.heap.size w w5 := (hb.trans (hb4.mono hsz)).grown hg5 (by omega) (fun b hbk => (hown.lt b hbk).1)
  have hk : ∀ k, k < w4.heap.size → v.ownBlock ≠ some k → w5.heap[k]? = w4.heap[k]? := fun k hk hne => hg5.block k hk (fun h => hne h.symm)
  have h4 : ∀ k, F4 k → v.ownBlock ≠ some k := by
    intro k hk e
    have h1 := hown.lt k e
    rcases (hF4 k hk).2 with h2 | h2
    · omega
    · have := hR k h2; omega
  refine ⟨fun k => F k ∨ F4 k, by rw [flatM_append, List.length_append]; exact hown5, ?_, ?_, hb5⟩
  · intro r hr
    rcases List.mem_append.1 hr with hr | hr
    · refine NoteM.mono (F := F) ?_ fun k h => .inl h
      refine (hm r hr).agree fun k hk' => ?_
      obtain ⟨h1, h2, -⟩ := hF k hk'
      rw [hk k (by omega) h2]
      exact hb4.block k h1
    · refine NoteM.mono (F := F4) ?_ fun k h => .inr h
      exact (hm4 r hr).agree fun k hk' => hk k (hF4 k hk').1 (h4 k hk')
  · intro k hk'
    rcases hk' with hk' | hk'
    · obtain ⟨h1, h2, h3⟩ := hF k hk'
      refine ⟨by omega, ?_, h3⟩
      rcases hv5 with e | e <;> rw [e]
      · exact h2
      · intro e2; have := Option.some.inj e2; omega
    · obtain ⟨h1, h2⟩ := hF4 k hk'
      refine ⟨by omega, ?_, h2.imp (fun h => by omega) id⟩
      rcases hv5 with e | e <;> rw [e]
      · exact h4 k hk'
      · intro e2; have := Option.some.inj e2; omega

end Go.Proofs.YtfmlhdikagogcaaDoor

namespace Go.Proofs.YtfmlhdikagogcaaDoor
open Go.RowKit
set_option maxRecDepth 20000

/-- a note's count is small -/
theorem right_k {n : Nt} (h : rightN n = true) : 0 ≤ n.k ∧ n.k ≤ 16 := by
  obtain ⟨-, -, -, hb⟩ := right_parts h
  unfold boundedB at hb
  simp only [Bool.and_eq_true] at hb
  have hn := hb.1.1.1.1
  unfold numsB at hn
  simp only [Bool.and_eq_true, decide_eq_true_eq] at hn
  omega

/-- what p told -/
def toldOf (t : List (Int × List Hz)) (p : Int) : List Hz := match t.find? (fun x => x.1 == p) with | some x => x.2 | none => []

/-- what all that was told comes to -/
def answerZ (q : Qs) (t : List (Int × List Hz)) : List Hz :=
  if q.note.vec.length = 0 then toldOf t (q.parts.headD 0) else if q.note.k < 1 then [] else mergeZ q.note.k.toNat (q.parts.map (toldOf t))

/-- question k has been told this -/
def toldZ (g : Gz) (k : Nat) (q : Qs) (t : List (Int × List Hz)) : Gz := {g with l := g.l.set k {q with told := t}}

def hearAt (g : Gz) (k : Nat) (q : Qs) (frm : Int) (n : Nt) : List (Int × Nt) × Gz :=
  if hasTold q.told frm || !(q.parts.any fun y => decide (frm = y)) then ([], g)
  else if n.code ≠ 0 then ([(q.who, resN q.note.stamp q.query n.code [])], dropZ g k)
  else if q.told.length + 1 < q.parts.length then ([], toldZ g k q (q.told ++ [(frm, n.hits)]))
  else ([(q.who, resN q.note.stamp q.query 0 (answerZ q (q.told ++ [(frm, n.hits)])))], dropZ g k)

def hearP (n : Nt) (q : Qs) : Bool := q.note.query == n.query

def hearZ (g : Gz) (frm : Int) (n : Nt) : List (Int × Nt) × Gz :=
  if oddB frm n 10 then ([], g) else
  match g.l.findIdx? (hearP n) with
  | none => ([], g)
  | some k => match g.l[k]? with
    | none => ([], g)
    | some q => hearAt g k q frm n

theorem hearZ_none {g : Gz} {frm : Int} {n : Nt} (h : oddB frm n 10 = false) (hn : ∀ j (h : j < g.l.length), hearP n g.l[j] = false) : hearZ g frm n = ([], g) := by
  have : g.l.findIdx? (hearP n) = none := by
    rw [List.findIdx?_eq_none_iff]
    intro x hx
    obtain ⟨i, hi, rfl⟩ := List.mem_iff_getElem.1 hx
    exact hn i hi
  unfold hearZ
  rw [h, this]
  rfl

theorem hearZ_at {g : Gz} {frm : Int} {n : Nt} {k : Nat} (h : oddB frm n 10 = false) (hk : k < g.l.length) (hp : hearP n g.l[k] = true) (hn : ∀ j (h : j < g.l.length), j < k → hearP n g.l[j] = false) : hearZ g frm n = hearAt g k g.l[k] frm n := by
  have : g.l.findIdx? (hearP n) = some k := by
    rw [List.findIdx?_eq_some_iff_getElem]
    exact ⟨hk, hp, fun j hj => by simp [hn j (by omega) hj]⟩
  unfold hearZ
  rw [h, this]
  simp [List.getElem?_eq_getElem hk]

theorem putK_none {L : List (Int × Value)} {a : Int} (h : getK L a = none) (v : Value) : putK L a v = L ++ [(a, v)] := by
  induction L with
  | nil => rfl
  | cons p L ih =>
    unfold getK at h
    by_cases hp : p.1 = a
    · simp [hp] at h
    · rw [List.find?_cons_of_neg (by simpa using hp)] at h
      simp only [putK, hp, if_false, List.cons_append]
      rw [ih h]

theorem ToldF.snoc {w : World} {R : Nat → Prop} {L : List (Int × Value)} {t : List (Int × List Hz)} (h : ToldF w R L t) {p : Int} {v : Value} {hs : List Hz} (hv : HitsF w R v hs) : ToldF w R (L ++ [(p, v)]) (t ++ [(p, hs)]) := by
  refine ⟨by simp [h.1], fun i h1 h2 => ?_⟩
  by_cases hi : i < L.length
  · have hi2 : i < t.length := by have := h.1; omega
    rw [List.getElem_append_left hi, List.getElem_append_left hi2]
    exact h.2 i hi hi2
  · have : i = L.length := by simp at h1; omega
    subst this
    have e := h.1
    rw [List.getElem_append_right (by omega), List.getElem_append_right (by omega)]
    simp [e]
    exact hv

/-- the map of question k is given one more -/
theorem GIn.put {w w' : World} {B c k : Nat} {F R E : Nat → Prop} {g : Gz} {lv : Value} {Q : List Qp} (h : GIn w B c F R g lv Q) (hk : k < Q.length) (hk' : k < g.l.length) (hE : ∀ j, E j → j < w.heap.size ∧ ¬ F j)
    (hw : w.grownBy w' (some Q[k].mb)) {L : List (Int × Value)} {t : List (Int × List Hz)} (hL : MapAt w' (Value.int .i64) Q[k].mb L) (hT : ToldF w' (fun j => R j ∨ E j) L t) :
    GIn w' B c F (fun j => R j ∨ E j) (toldZ g k g.l[k] t) lv Q ∧ Mod F w w' := by
  obtain ⟨m1, m2, m3⟩ := h.mbF Q[k] (List.getElem_mem hk)
  have hs := hw.size
  have hsame : ∀ j, j < w.heap.size → j ≠ Q[k].mb → w'.heap[j]? = w.heap[j]? := fun j hj hne => hw.block j hj (fun e => hne (Option.some.inj e))
  have hmod : Mod F w w' := (Mod.refl F w).grown hw (fun j e => .inl (by rw [← Option.some.inj e]; exact m1))
  have hA : Agree R w w' := fun j hj => hsame j (h.apart j hj).1 (fun e => (h.apart j hj).2 (e ▸ m1))
  refine ⟨⟨?_, ?_, by simp [toldZ, h.len], ?_, h.bs, h.mbs, h.lvF, h.mbF, h.here, fun j hj => ?_, fun j hj => ?_⟩, hmod⟩
  · rw [hsame c (h.low c h.here).2 (fun e => m2 e.symm)]; exact h.obj
  · have := h.row.kept hw (.inr m3)
    simpa [toldZ] using this
  · intro i h1 h2
    have hi : i < g.l.length := by rw [← h.len]; exact h1
    have hq := h.each i h1 hi
    by_cases hik : i = k
    · subst hik
      have e : (toldZ g i g.l[i] t).l[i] = {g.l[i] with told := t} := by simp [toldZ]
      rw [e]
      exact ⟨fun j u hj => by rw [hA.cell hq.own]; exact hq.cells j u hj, by obtain ⟨ca, ta, ho⟩ := hq.obj; exact ⟨ca, ta, (hA _ hq.own).trans ho⟩, .inl hq.own, (hq.note.agree hA).mono fun _ => .inl, hq.parts.agree hq.lies hA, hq.lies.mono fun _ => .inl, hq.empty, L, hL, hT⟩
    · have e : (toldZ g k g.l[k] t).l[i] = g.l[i] := by simp [toldZ, Ne.symm hik]
      rw [e]
      refine (hq.agree hA (hsame _ (h.low _ (h.mbF Q[i] (List.getElem_mem h1)).1).2 ?_)).mono fun _ => .inl
      intro e
      have hp := List.pairwise_iff_getElem.1 h.mbs
      rcases Nat.lt_or_ge i k with h3 | h3
      · exact hp i k (by simpa using h1) (by simpa using hk) h3 (by simpa using e)
      · exact hp k i (by simpa using hk) (by simpa using h1) (by omega) (by simpa using e.symm)
  · have := h.low j hj; exact ⟨this.1, by omega⟩
  · rcases hj with hj | hj
    · have := h.apart j hj; exact ⟨by omega, this.2⟩
    · have := hE j hj; exact ⟨by omega, this.2⟩

end Go.Proofs.YtfmlhdikagogcaaDoor
