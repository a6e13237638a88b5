/-
  gather: Ask, whole.
  gather: all are given up.
-/
import Derived.Test.YtfmlhdikagogcaaDoorJ41
import Derived.Test.YtfmlhdikagogcaaDoorJ42
import Derived.Test.YtfmlhdikagogcaaDoorJ43
import Derived.Test.YtfmlhdikagogcaaDoorJ44
import Derived.Test.YtfmlhdikagogcaaDoorJ22
import Derived.Test.YtfmlhdikagogcaaDoorJ38
namespace Go.Proofs.YtfmlhdikagogcaaDoor
open Go.RowKit
set_option maxRecDepth 20000


theorem ask
    (B c : Nat) (F R E : Nat → Prop) (g : Gz) (n : Nt) (vp vo vv vh : Value) (frm stamp mark : Int) (w : World) (hT : Tab w) (hG : GAt w B c F R g) (hB : B ≤ w.heap.size) (hok : GOk g) (hv : NoteV w E n vp vo vv vh) (hkd : 0 ≤ n.kind ∧ n.kind ≤ 255) (hlen : n.parts.length ≤ 1000000 ∧ n.ops.length ≤ 1000000 ∧ n.vec.length ≤ 1000000 ∧ n.hits.length ≤ 1000000)
    :
    Calls Tryd.prog 11 #[.pointer (some ⟨c, 0, none⟩), .int .i64 frm, .agg (n.cells vp vo vv vh), .int .u64 stamp, .int .u64 mark] w (GTold w B c F R (fun _ => False) (askZ g frm n stamp mark).1 (askZ g frm n stamp mark).2) := by
  cases hodd : oddB frm n 8
  · cases hfind : g.l.find? (isQ frm n) with
    | some q => exact askFound B c F R E g n vp vo vv vh frm stamp mark w hT hG hB hok hv hkd hlen hodd q hfind
    | none =>
      by_cases h0 : n.vec.length = 0
      · by_cases h8 : 8 ≤ g.l.length
        · exact askFull B c F R E g n vp vo vv vh frm stamp mark w hT hG hB hok hv hkd hlen hodd hfind (.inl h0) h8
        · exact askGet B c F R E g n vp vo vv vh frm stamp mark w hT hG hB hok hv hkd hlen hodd hfind h0 h8
      · by_cases hd : (n.vec.length : Int) = g.dim
        · by_cases h8 : 8 ≤ g.l.length
          · exact askFull B c F R E g n vp vo vv vh frm stamp mark w hT hG hB hok hv hkd hlen hodd hfind (.inr hd) h8
          · exact askAll B c F R E g n vp vo vv vh frm stamp mark w hT hG hB hok hv hkd hlen hodd hfind (by omega) hd h8
        · exact askForm B c F R E g n vp vo vv vh frm stamp mark w hT hG hB hok hv hkd hlen hodd hfind (by omega) hd
  · exact askOdd B c F R E g n vp vo vv vh frm stamp mark w hT hG hB hok hv hkd hlen hodd

theorem ask_nil (n : Nt) (vp vo vv vh : Value) (frm stamp mark : Int) (w : World) :
    Calls Tryd.prog 11 #[.pointer none, .int .i64 frm, .agg (n.cells vp vo vv vh), .int .u64 stamp, .int .u64 mark] w fun e w' => e = .returned (.slice none 0 0) ∧ Below w.heap.size w w' := by
  unfold Nt.cells
  go_enter Tryd.func11, Tryd.ntmps11
  go_wp2_with fail
  go_ret
  exact ⟨rfl, (Below.refl _ _).alloc (Nat.le_refl _) _⟩

end Go.Proofs.YtfmlhdikagogcaaDoor

namespace Go.Proofs.YtfmlhdikagogcaaDoor
open Go.RowKit
set_option maxRecDepth 20000

def quitL (g : Gz) : List (Int × Nt) := g.l.map fun q => (q.who, resN q.note.stamp q.query 12 [])

theorem quit_take (g : Gz) (k : Nat) (hk : k < g.l.length) : quitL {g with l := g.l.take (k + 1)} = quitL {g with l := g.l.take k} ++ [(g.l[k].who, resN g.l[k].note.stamp g.l[k].query 12 [])] := by
  unfold quitL
  simp only [List.take_succ_eq_append_getElem hk, List.map_append]
  rfl


/-- no question is left -/
theorem GIn.emptied {w wr w' : World} {B c : Nat} {F R : Nat → Prop} {g : Gz} {lv : Value} {Q : List Qp} (h : GIn w B c F R g lv Q) (hb : Below w.heap.size w wr) (hw : w' = wr.setCell ⟨c, 3, none⟩ (.slice none 0 0)) : GAt w' B c F R {g with l := []} ∧ Mod F w w' := by
  subst hw
  have hs := hb.size
  have hsz : (wr.setCell ⟨c, 3, none⟩ (.slice none 0 0)).heap.size = wr.heap.size := by simp [World.setCell]
  have hc : wr.heap[c]? = w.heap[c]? := hb.block c (h.low c h.here).2
  refine ⟨⟨.slice none 0 0, [], ?_⟩, (Mod.of_below hb).setCell (.inl h.here) _⟩
  refine ⟨?_, World.ownsRow_nil _ _ _ _, rfl, fun i h => absurd h (by simp), by simp, by simp, fun k h => by simp [Value.ownBlock] at h, fun q h => absurd h (by simp), h.here, fun k hk => ?_, fun k hk => ?_⟩
  · exact set_block (hc.trans h.obj) 3 _
  · have := h.low k hk; omega
  · have := h.apart k hk; exact ⟨by omega, this.2⟩

set_option maxHeartbeats 4000000 in
theorem quit (B c : Nat) (F R : Nat → Prop) (g : Gz) (w : World) (hG : GAt w B c F R g) (hB : B ≤ w.heap.size) (hl : g.l.length ≤ 1000) :
    Calls Tryd.prog 16 #[.pointer (some ⟨c, 0, none⟩)] w (GTold w B c F R (fun _ => False) (quitL g) {g with l := []}) := by
  obtain ⟨lv, Q, hI⟩ := hG
  obtain ⟨-, -, -, x3, fz⟩ := hI.get
  obtain ⟨p, m, cap, rfl⟩ := own_form hI.row
  obtain rfl : m = g.l.length := own_len hI.row
  have II := Lib.hid hI
  have HL := Lib.hid hl
  clear hI hl
  go_enter Tryd.func16, Tryd.ntmps16
  go_wp2_with fail
  go_loopg [3, 13] g.l.length (fun q out i wr => ∃ (k : Nat) (rs : List Mv) (G : Nat → Prop), q = g.l.length - k ∧ k ≤ g.l.length ∧ i = .int .i64 k ∧ rs.length = k ∧ wr.ownsRow w.heap.size 44 17 out rs.length (flatM rs) ∧ rs.map Mv.says = quitL {g with l := g.l.take k} ∧ MailF wr G rs ∧ (∀ k, G k → k < wr.heap.size ∧ out.ownBlock ≠ some k ∧ (w.heap.size ≤ k ∨ False)) ∧ Below w.heap.size w wr)
  case atStart => exact ⟨0, [], fun _ => False, rfl, by omega, rfl, rfl, World.ownsRow_nil _ _ _ _, rfl, fun r hr => absurd hr (by simp), fun _ h => h.elim, Below.refl _ _⟩
  case round =>
    obtain ⟨k, rs, G, rfl, hk, rfl, hlen, hown, hsay, hm, hF, hb⟩ := hrel
    by_cases hlt : k < g.l.length
    · have hI := II.out.below hb
      have hkQ : k < Q.length := by rw [hI.len]; exact hlt
      obtain ⟨b, rfl, -, c0⟩ := row_elem hI.row (i := k) (by simpa using hkQ)
      have c1 : wr.cell? ⟨b, k, none⟩ = some (.pointer (some ⟨Q[k].b, 0, none⟩)) := by rw [c0]; simp [Qp.ptr]
      have hq := hI.each k hkQ hlt
      obtain ⟨⟨-, -, -, x3', -⟩, -, -, -, x16, x17, -, -⟩ := hq.get
      have RS := Lib.hid (result Q[k].b _ _ _ 12 [] (.slice none 0 0) (fun _ => False) wr x3' x16 x17 (HitsF.nil _ _) (fun _ h => h.elim))
      obtain ⟨qo, no, co, rfl⟩ := own_form hown
      have O := Lib.hid (And.intro hown (And.intro hsay (And.intro hm (And.intro hF hb))))
      have LN := Lib.hid hlen
      have hkk : k ≤ 1000 := by have := HL.out; omega
      have hsz := hb.size
      clear hI hq x3' x16 x17 c0 hown hsay hm hF hb hlen x3
      go_wp2_with fail
      refine RS.out.mono ?_
      rintro e w4 ⟨v4, rs4, G4, rfl, ho4, hs4, hm4, hG4, hb4⟩
      obtain ⟨q4, n4, c4, rfl⟩ := own_form ho4
      have h41 : rs4.length = 1 := by have := congrArg List.length hs4; simpa using this
      obtain ⟨q5, n5, c5, w5, hrun, hown5, hg5, hat5⟩ := run_app rowMail (own_below O.out.1 hb4) (by have := hb4.size; omega) (SrcAt.of_own ho4) hm4.one (by have := LN.out; simp [maxLen]; omega) (by have := LN.out; omega)
      obtain rfl : n4 = rs4.length := own_len ho4
      have A := Lib.hid (mails_app (R := fun _ => False) O.out.1 O.out.2.2.1 O.out.2.2.2.1 O.out.2.2.2.2 (fun _ h => h.elim) hm4 (fun k hk => ⟨(hG4 k hk).1, (hG4 k hk).2.2⟩) hb4 hown5 hg5 hat5)
      have S4 := Lib.hid (And.intro hs4 h41)
      clear ho4 hs4 hm4 hG4 hb4 hown5 hg5 hat5 h41
      go_wp2_with (with_reducible refine wpList_append_eq hrun rfl _ _ rfl rfl rfl ?_)
      go_roundg (g.l.length - (k + 1))
      case measure => omega
      case rel =>
        obtain ⟨G', a1, a2, a3, a4⟩ := A.out
        exact ⟨k + 1, rs ++ rs4, G', rfl, by omega, by go_num, by have := LN.out; have := S4.out.2; simp; omega, a1, by rw [List.map_append, O.out.2.1, S4.out.1, quit_take g k hlt], a2, a3, a4⟩
    · obtain rfl : k = g.l.length := by omega
      obtain ⟨qo, no, co, rfl⟩ := own_form hown
      have hI := II.out.below hb
      obtain ⟨-, -, -, y3, yf⟩ := hI.get
      have yf3 := yf 3
      have O := Lib.hid (And.intro hown (And.intro hsay (And.intro hm (And.intro hF hb))))
      clear hI yf hown hsay hm hF hb hlen
      go_wp2_with fail
      go_returns
      obtain ⟨hown, hsay, hm, hF, hb⟩ := O.out
      obtain ⟨e1, e2⟩ := II.out.emptied hb rfl
      have hc := (II.out.low c II.out.here).2
      have hagree : ∀ k, k ≠ c → (wr.setCell ⟨c, 3, none⟩ (.slice none 0 0)).heap[k]? = wr.heap[k]? := fun k hk => Below.heap_setCell _ _ _ _ hk
      refine ⟨_, rs, G, F, R, rfl, ?_, by rw [hsay, List.take_length], ?_, fun k hk => ⟨?_, (hF k hk).2.1⟩, fun k hk hf => ?_, e1, e2, fun _ h => .inl h, fun _ h => .inl h⟩
      · exact hown.kept (grownBy_setCells c [.slice none 0 0] 3 wr) (.inr (by intro e; have := (hown.lt c e).1; omega))
      · refine hm.agree fun k hk => hagree k ?_
        rintro rfl
        rcases (hF _ hk).2.2 with h | h
        · omega
        · exact h
      · have := (hF k hk).1; simp [World.setCell]; exact this
      · have := (hown.lt k hk).1; have := (II.out.low k hf).2; omega

theorem quit_nil (w : World) :
    Calls Tryd.prog 16 #[.pointer none] w fun e w' => e = .returned (.slice none 0 0) ∧ w = w' := by
  go_enter Tryd.func16, Tryd.ntmps16
  go_wp2_with fail
  go_ret
  exact ⟨rfl, rfl⟩

end Go.Proofs.YtfmlhdikagogcaaDoor
