/-
  best.Merge of no number of hits.
  gather: Hear: the lists of what was told.
-/
import Derived.Test.YtfmlhdikagogcaaDoorJ27
import Derived.Test.YtfmlhdikagogcaaDoorJ31
import Derived.Test.YtfmlhdikagogcaaDoorJ33
namespace Go.Proofs.YtfmlhdikagogcaaDoor
open Go.RowKit
set_option maxRecDepth 20000

theorem merge_no (n : Int) (hn : n < 1) (ls : List (List Hz)) (E : Nat → Prop) (v : Value) (w : World) (h : ListsF w E v ls) :
    Calls Tryd.prog 41 #[.int .i64 n, v] w (FreshHits w []) := by
  obtain ⟨p, cap, rfl, hcap, hbig, -, -⟩ := id h
  have hl9 : ls.length ≤ 9223372036854775807 := by omega
  have H := Lib.hid h
  clear h hcap hbig
  go_enter Tryd.func41, Tryd.ntmps41
  go_wp2_with fail
  refine (new_no n w (.inl hn)).mono ?_
  rintro e w1 ⟨rfl, rfl⟩
  go_wp2_with fail
  go_loopg [16] ls.length (fun q i wr => ∃ k : Nat, q = ls.length - k ∧ k ≤ ls.length ∧ i = .int .i64 k ∧ wr = w)
  case atStart => exact ⟨0, rfl, by omega, rfl, rfl⟩
  case round =>
    obtain ⟨k, rfl, hk, rfl, rfl⟩ := hrel
    by_cases hlt : k < ls.length
    · obtain ⟨b, off, q, qc, rfl, c0, -⟩ := H.out.elem hlt
      have A := Lib.hid (adds_nil (.slice q ls[k].length qc) wr)
      go_wp2_with fail
      refine A.out.mono ?_
      rintro e w4 ⟨rfl, rfl⟩
      go_wp2_with fail
      go_roundg (ls.length - (k + 1))
      case measure => omega
      case rel => exact ⟨k + 1, rfl, by omega, by go_num, rfl⟩
    · obtain rfl : k = ls.length := by omega
      have HC := Lib.hid (hits_nil wr)
      go_wp2_with fail
      refine HC.out.mono ?_
      rintro e w9 ⟨v9, rs9, rfl, ho9, hh9, hb9⟩
      have N9 := Lib.hid (HitsF.of_own (F := fun k => wr.heap.size ≤ k ∧ k < w9.heap.size) ho9 (fun b hb => ho9.lt b hb) hh9.rows)
      have B9 := Lib.hid hb9
      clear ho9 hh9 hb9
      go_wp2_with fail
      go_ret
      exact ⟨_, rfl, N9.out, B9.out⟩

end Go.Proofs.YtfmlhdikagogcaaDoor

namespace Go.Proofs.YtfmlhdikagogcaaDoor
open Go.RowKit
set_option maxRecDepth 20000

theorem rowLs : RowTy Tryd.prog 22 35 1 24 (.slice none 0 0) := ⟨Tryd.underlying22, by kernel_rfl, rfl, by decide⟩

theorem told_look {w : World} {R : Nat → Prop} {L : List (Int × Value)} {t : List (Int × List Hz)} (h : ToldF w R L t) (p : Int) : ∃ q c, (getK L p).getD (.slice none 0 0) = .slice q (toldOf t p).length c ∧ HitsF w R (.slice q (toldOf t p).length c) (toldOf t p) := by
  rcases told_get h p with ⟨h1, h2⟩ | ⟨-, v, x, h2, -, -, h5, h6⟩
  · have : t.find? (fun x => x.1 == p) = none := by
      rw [List.find?_eq_none]
      intro x hx
      have := List.any_eq_false.1 h1 x hx
      simpa using this
    unfold toldOf
    rw [h2, this]
    exact ⟨none, 0, rfl, HitsF.nil _ _⟩
  · unfold toldOf
    rw [h2, h5]
    obtain ⟨q, c, rfl, -⟩ := id h6
    exact ⟨q, c, rfl, h6⟩

theorem ListsF.of_own {w w' : World} {F G : Nat → Prop} {B e n : Nat} {v : Value} {us : List Value} {ls : List (List Hz)} (ho : w'.ownsRow B e 1 v n us) (hl : us.length = ls.length) (hv : ∀ b, v.ownBlock = some b → G b) (hF : ∀ k, F k → G k) (hb : Below w.heap.size w w')
    (h : ∀ i (h1 : i < us.length) (h2 : i < ls.length), HitsF w F us[i] ls[i]) : ListsF w' G v ls := by
  have hn : n = ls.length := by have := ho.1; omega
  subst hn
  obtain ⟨q, m, c, rfl⟩ := own_form ho
  obtain ⟨h1, ⟨h2, h3⟩ | ⟨g, cap, cur, hvv, hbb, hh, hn, hc, hs, ht⟩⟩ := id ho
  · cases h2
    exact ⟨Option.none, 0, by rw [h3], by omega, by omega, fun _ => rfl, fun i hi => absurd hi (by omega)⟩
  · obtain ⟨rfl, rfl, rfl⟩ := Value.slice.inj hvv
    refine ⟨_, _, rfl, hn, hc, fun e => (by cases e), fun i hi => ?_⟩
    have hiu : i < us.length := by omega
    obtain ⟨b, e1, -, c0⟩ := row_elem ho (i := i) hiu
    cases e1
    exact ⟨g, 0, us[i], rfl, hv g rfl, by simpa using c0, ((h i hiu hi).below hb).mono hF⟩

theorem drop_told (g : Gz) (k : Nat) (q : Qs) (t : List (Int × List Hz)) : dropZ (toldZ g k q t) k = dropZ g k := by
  unfold dropZ toldZ
  simp only [List.eraseIdx_set_eq]

/-- what was told is small -/
theorem told_small {g : Gz} (hok : GOk g) {k : Nat} (hk : k < g.l.length) {frm : Int} {n : Nt} (ho : oddB frm n 10 = false) : ∀ p, (toldOf (g.l[k].told ++ [(frm, n.hits)]) p).length ≤ 1000000 ∧ ∀ h ∈ toldOf (g.l[k].told ++ [(frm, n.hits)]) p, h.vec.length ≤ 1000000 := by
  have hs := right_seen (n := n) (by unfold oddB at ho; simp at ho; exact ho.1.1.2) (by unfold oddB at ho; simp at ho; exact ho.1.1.1)
  have hall : ∀ x ∈ g.l[k].told ++ [(frm, n.hits)], x.2.length ≤ 1000000 ∧ ∀ h ∈ x.2, h.vec.length ≤ 1000000 := by
    intro x hx
    rcases List.mem_append.1 hx with hx | hx
    · have := (hok.each _ (List.getElem_mem hk)).2.2.2.2.2 x hx
      exact ⟨by omega, fun h hh => by have := this.2 h hh; omega⟩
    · rw [List.mem_singleton.1 hx]
      refine ⟨by have := hs.1; show n.hits.length ≤ _; omega, fun h hh => ?_⟩
      have := hs.2.1 h hh
      unfold badHit rightB at this
      simp at this
      omega
  intro p
  unfold toldOf
  cases e : (g.l[k].told ++ [(frm, n.hits)]).find? (fun x => x.1 == p) with
  | none => exact ⟨by simp, fun h hh => absurd hh (by simp)⟩
  | some x => exact hall x (List.mem_of_find?_eq_some e)

end Go.Proofs.YtfmlhdikagogcaaDoor
