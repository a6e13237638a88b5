/-
  gather: Hear, whole.
-/
import Derived.Test.YtfmlhdikagogcaaDoorJ28
import Derived.Test.YtfmlhdikagogcaaDoorJ29
import Derived.Test.YtfmlhdikagogcaaDoorJ30
import Derived.Test.YtfmlhdikagogcaaDoorJ31
namespace Go.Proofs.YtfmlhdikagogcaaDoor
open Go.RowKit
set_option maxRecDepth 20000


theorem hear
    (B c : Nat) (F R E : Nat → Prop) (g : Gz) (n : Nt) (vp vo vv vh : Value) (frm : Int) (w : World) (hT : Tab w) (hG : GAt w B c F R g) (hB : B ≤ w.heap.size) (hok : GOk g) (hv : NoteV w E n vp vo vv vh) (hkd : 0 ≤ n.kind ∧ n.kind ≤ 255) (hlen : n.parts.length ≤ 1000000 ∧ n.ops.length ≤ 1000000 ∧ n.vec.length ≤ 1000000 ∧ n.hits.length ≤ 1000000) (hE : ∀ k, E k → k < w.heap.size ∧ ¬ F k)
    :
    Calls Tryd.prog 13 #[.pointer (some ⟨c, 0, none⟩), .int .i64 frm, .agg (n.cells vp vo vv vh)] w (GTold w B c F R E (hearZ g frm n).1 (hearZ g frm n).2) := by
  cases hodd : oddB frm n 10
  · cases hf : g.l.findIdx? (hearP n) with
    | none =>
      rw [List.findIdx?_eq_none_iff] at hf
      exact hearNone B c F R E g n vp vo vv vh frm w hT hG hB hok hv hkd hlen hE hodd (fun j h => hf _ (List.getElem_mem h))
    | some k =>
      rw [List.findIdx?_eq_some_iff_getElem] at hf
      obtain ⟨hk, hp, hm⟩ := hf
      have hmin : ∀ j (h : j < g.l.length), j < k → hearP n g.l[j] = false := fun j h hj => by have := hm j hj; simpa using this
      cases hskip : (hasTold g.l[k].told frm || !(g.l[k].parts.any fun y => decide (frm = y)))
      · rw [Bool.or_eq_false_iff] at hskip
        obtain ⟨hnt, hpt⟩ := hskip
        have hpt : (g.l[k].parts.any fun y => decide (frm = y)) = true := by simpa using hpt
        by_cases hcode : n.code = 0
        · by_cases hmore : g.l[k].told.length + 1 < g.l[k].parts.length
          · exact hearMore B c F R E g n vp vo vv vh frm w hT hG hB hok hv hkd hlen hE hodd k hk hp hmin hnt hpt hcode hmore
          · by_cases h0 : g.l[k].note.vec.length = 0
            · exact hearGet B c F R E g n vp vo vv vh frm w hT hG hB hok hv hkd hlen hE hodd k hk hp hmin hnt hpt hcode hmore h0
            · exact hearBest B c F R E g n vp vo vv vh frm w hT hG hB hok hv hkd hlen hE hodd k hk hp hmin hnt hpt hcode hmore (by omega)
        · exact hearCode B c F R E g n vp vo vv vh frm w hT hG hB hok hv hkd hlen hE hodd k hk hp hmin hnt hpt hcode
      · exact hearSkip B c F R E g n vp vo vv vh frm w hT hG hB hok hv hkd hlen hE hodd k hk hp hmin hskip
  · exact hearOdd B c F R E g n vp vo vv vh frm w hT hG hB hok hv hkd hlen hE hodd

end Go.Proofs.YtfmlhdikagogcaaDoor
