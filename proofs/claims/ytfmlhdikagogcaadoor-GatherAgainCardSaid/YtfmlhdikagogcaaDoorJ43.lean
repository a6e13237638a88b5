/-
  gather: Ask, whole.
  gather: all are given up.
  gather: once more; the least stamp.
  gather: mail that was told is looked at; a gather between two calls.
  gather: sound numbers stay sound.
  gather: GatherAgain: the plain law.
  gather: every question has one answer: the plain law.
  A map in memory whose keys are pairs of numbers: to look, to put, to strike.
-/
import Derived.Test.YtfmlhdikagogcaaDoorJ39
import Derived.Test.YtfmlhdikagogcaaDoorJ40
import Derived.Test.YtfmlhdikagogcaaDoorJ41
import Derived.Test.YtfmlhdikagogcaaDoorJ42
import Derived.Test.YtfmlhdikagogcaaDoorJ18
import Derived.Test.YtfmlhdikagogcaaDoorJ31
import Derived.Test.YtfmlhdikagogcaaDoorJ38
import Derived.Test.YtfmlhdikagogcaaDoorJ11
import Derived.Laws.StructEq
namespace Go.Proofs.YtfmlhdikagogcaaDoor
open Go.RowKit
set_option maxRecDepth 20000


theorem ask
    (B c : Nat) (F R E : Nat → Prop) (g : Gz) (n : Nt) (vp vo vv vh : Value) (frm stamp mark : Int) (w : World) (hT : Tab w) (hG : GAt w B c F R g) (hB : B ≤ w.heap.size) (hok : GOk g) (hv : NoteV w E n vp vo vv vh) (hkd : 0 ≤ n.kind ∧ n.kind ≤ 255) (hlen : n.parts.length ≤ 1000000 ∧ n.ops.length ≤ 1000000 ∧ n.vec.length ≤ 1000000 ∧ n.hits.length ≤ 1000000)
    :
    Calls Tryd.prog 11 #[.pointer (some ⟨c, 0, none⟩), .int .i64 frm, .agg (n.cells vp vo vv vh), .int .u64 stamp, .int .u64 mark] w (GTold w B c F R (fun _ => False) (askZ g frm n stamp mark).1 (askZ g frm n stamp mark).2) := by
  cases hodd : oddB frm n 8
  · cases hfind : g.l.find? (isQ frm n) with
    | some q => exact askFound B c F R E g n vp vo vv vh frm stamp mark w hT hG hB hok hv hkd hlen hodd q hfind
    | none =>
      by_cases h0 : n.vec.length = 0
      · by_cases h8 : 8 ≤ g.l.length
        · exact askFull B c F R E g n vp vo vv vh frm stamp mark w hT hG hB hok hv hkd hlen hodd hfind (.inl h0) h8
        · exact askGet B c F R E g n vp vo vv vh frm stamp mark w hT hG hB hok hv hkd hlen hodd hfind h0 h8
      · by_cases hd : (n.vec.length : Int) = g.dim
        · by_cases h8 : 8 ≤ g.l.length
          · exact askFull B c F R E g n vp vo vv vh frm stamp mark w hT hG hB hok hv hkd hlen hodd hfind (.inr hd) h8
          · exact askAll B c F R E g n vp vo vv vh frm stamp mark w hT hG hB hok hv hkd hlen hodd hfind (by omega) hd h8
        · exact askForm B c F R E g n vp vo vv vh frm stamp mark w hT hG hB hok hv hkd hlen hodd hfind (by omega) hd
  · exact askOdd B c F R E g n vp vo vv vh frm stamp mark w hT hG hB hok hv hkd hlen hodd

theorem ask_nil (n : Nt) (vp vo vv vh : Value) (frm stamp mark : Int) (w : World) :
    Calls Tryd.prog 11 #[.pointer none, .int .i64 frm, .agg (n.cells vp vo vv vh), .int .u64 stamp, .int .u64 mark] w fun e w' => e = .returned (.slice none 0 0) ∧ Below w.heap.size w w' := by
  unfold Nt.cells
  go_enter Tryd.func11, Tryd.ntmps11
  go_wp2_with fail
  go_ret
  exact ⟨rfl, (Below.refl _ _).alloc (Nat.le_refl _) _⟩

end Go.Proofs.YtfmlhdikagogcaaDoor

namespace Go.Proofs.YtfmlhdikagogcaaDoor
open Go.RowKit
set_option maxRecDepth 20000

def quitL (g : Gz) : List (Int × Nt) := g.l.map fun q => (q.who, resN q.note.stamp q.query 12 [])

theorem quit_take (g : Gz) (k : Nat) (hk : k < g.l.length) : quitL {g with l := g.l.take (k + 1)} = quitL {g with l := g.l.take k} ++ [(g.l[k].who, resN g.l[k].note.stamp g.l[k].query 12 [])] := by
  unfold quitL
  simp only [List.take_succ_eq_append_getElem hk, List.map_append]
  rfl


/-- no question is left -/
theorem GIn.emptied {w wr w' : World} {B c : Nat} {F R : Nat → Prop} {g : Gz} {lv : Value} {Q : List Qp} (h : GIn w B c F R g lv Q) (hb : Below w.heap.size w wr) (hw : w' = wr.setCell ⟨c, 3, none⟩ (.slice none 0 0)) : GAt w' B c F R {g with l := []} ∧ Mod F w w' := by
  subst hw
  have hs := hb.size
  have hsz : (wr.setCell ⟨c, 3, none⟩ (.slice none 0 0)).heap.size = wr.heap.size := by simp [World.setCell]
  have hc : wr.heap[c]? = w.heap[c]? := hb.block c (h.low c h.here).2
  refine ⟨⟨.slice none 0 0, [], ?_⟩, (Mod.of_below hb).setCell (.inl h.here) _⟩
  refine ⟨?_, World.ownsRow_nil _ _ _ _, rfl, fun i h => absurd h (by simp), by simp, by simp, fun k h => by simp [Value.ownBlock] at h, fun q h => absurd h (by simp), h.here, fun k hk => ?_, fun k hk => ?_⟩
  · exact set_block (hc.trans h.obj) 3 _
  · have := h.low k hk; omega
  · have := h.apart k hk; exact ⟨by omega, this.2⟩

set_option maxHeartbeats 4000000 in
theorem quit (B c : Nat) (F R : Nat → Prop) (g : Gz) (w : World) (hG : GAt w B c F R g) (hB : B ≤ w.heap.size) (hl : g.l.length ≤ 1000) :
    Calls Tryd.prog 16 #[.pointer (some ⟨c, 0, none⟩)] w (GTold w B c F R (fun _ => False) (quitL g) {g with l := []}) := by
  obtain ⟨lv, Q, hI⟩ := hG
  obtain ⟨-, -, -, x3, fz⟩ := hI.get
  obtain ⟨p, m, cap, rfl⟩ := own_form hI.row
  obtain rfl : m = g.l.length := own_len hI.row
  have II := Lib.hid hI
  have HL := Lib.hid hl
  clear hI hl
  go_enter Tryd.func16, Tryd.ntmps16
  go_wp2_with fail
  go_loopg [3, 13] g.l.length (fun q out i wr => ∃ (k : Nat) (rs : List Mv) (G : Nat → Prop), q = g.l.length - k ∧ k ≤ g.l.length ∧ i = .int .i64 k ∧ rs.length = k ∧ wr.ownsRow w.heap.size 44 17 out rs.length (flatM rs) ∧ rs.map Mv.says = quitL {g with l := g.l.take k} ∧ MailF wr G rs ∧ (∀ k, G k → k < wr.heap.size ∧ out.ownBlock ≠ some k ∧ (w.heap.size ≤ k ∨ False)) ∧ Below w.heap.size w wr)
  case atStart => exact ⟨0, [], fun _ => False, rfl, by omega, rfl, rfl, World.ownsRow_nil _ _ _ _, rfl, fun r hr => absurd hr (by simp), fun _ h => h.elim, Below.refl _ _⟩
  case round =>
    obtain ⟨k, rs, G, rfl, hk, rfl, hlen, hown, hsay, hm, hF, hb⟩ := hrel
    by_cases hlt : k < g.l.length
    · have hI := II.out.below hb
      have hkQ : k < Q.length := by rw [hI.len]; exact hlt
      obtain ⟨b, rfl, -, c0⟩ := row_elem hI.row (i := k) (by simpa using hkQ)
      have c1 : wr.cell? ⟨b, k, none⟩ = some (.pointer (some ⟨Q[k].b, 0, none⟩)) := by rw [c0]; simp [Qp.ptr]
      have hq := hI.each k hkQ hlt
      obtain ⟨⟨-, -, -, x3', -⟩, -, -, -, x16, x17, -, -⟩ := hq.get
      have RS := Lib.hid (result Q[k].b _ _ _ 12 [] (.slice none 0 0) (fun _ => False) wr x3' x16 x17 (HitsF.nil _ _) (fun _ h => h.elim))
      obtain ⟨qo, no, co, rfl⟩ := own_form hown
      have O := Lib.hid (And.intro hown (And.intro hsay (And.intro hm (And.intro hF hb))))
      have LN := Lib.hid hlen
      have hkk : k ≤ 1000 := by have := HL.out; omega
      have hsz := hb.size
      clear hI hq x3' x16 x17 c0 hown hsay hm hF hb hlen x3
      go_wp2_with fail
      refine RS.out.mono ?_
      rintro e w4 ⟨v4, rs4, G4, rfl, ho4, hs4, hm4, hG4, hb4⟩
      obtain ⟨q4, n4, c4, rfl⟩ := own_form ho4
      have h41 : rs4.length = 1 := by have := congrArg List.length hs4; simpa using this
      obtain ⟨q5, n5, c5, w5, hrun, hown5, hg5, hat5⟩ := run_app rowMail (own_below O.out.1 hb4) (by have := hb4.size; omega) (SrcAt.of_own ho4) hm4.one (by have := LN.out; simp [maxLen]; omega) (by have := LN.out; omega)
      obtain rfl : n4 = rs4.length := own_len ho4
      have A := Lib.hid (mails_app (R := fun _ => False) O.out.1 O.out.2.2.1 O.out.2.2.2.1 O.out.2.2.2.2 (fun _ h => h.elim) hm4 (fun k hk => ⟨(hG4 k hk).1, (hG4 k hk).2.2⟩) hb4 hown5 hg5 hat5)
      have S4 := Lib.hid (And.intro hs4 h41)
      clear ho4 hs4 hm4 hG4 hb4 hown5 hg5 hat5 h41
      go_wp2_with (with_reducible refine wpList_append_eq hrun rfl _ _ rfl rfl rfl ?_)
      go_roundg (g.l.length - (k + 1))
      case measure => omega
      case rel =>
        obtain ⟨G', a1, a2, a3, a4⟩ := A.out
        exact ⟨k + 1, rs ++ rs4, G', rfl, by omega, by go_num, by have := LN.out; have := S4.out.2; simp; omega, a1, by rw [List.map_append, O.out.2.1, S4.out.1, quit_take g k hlt], a2, a3, a4⟩
    · obtain rfl : k = g.l.length := by omega
      obtain ⟨qo, no, co, rfl⟩ := own_form hown
      have hI := II.out.below hb
      obtain ⟨-, -, -, y3, yf⟩ := hI.get
      have yf3 := yf 3
      have O := Lib.hid (And.intro hown (And.intro hsay (And.intro hm (And.intro hF hb))))
      clear hI yf hown hsay hm hF hb hlen
      go_wp2_with fail
      go_returns
      obtain ⟨hown, hsay, hm, hF, hb⟩ := O.out
      obtain ⟨e1, e2⟩ := II.out.emptied hb rfl
      have hc := (II.out.low c II.out.here).2
      have hagree : ∀ k, k ≠ c → (wr.setCell ⟨c, 3, none⟩ (.slice none 0 0)).heap[k]? = wr.heap[k]? := fun k hk => Below.heap_setCell _ _ _ _ hk
      refine ⟨_, rs, G, F, R, rfl, ?_, by rw [hsay, List.take_length], ?_, fun k hk => ⟨?_, (hF k hk).2.1⟩, fun k hk hf => ?_, e1, e2, fun _ h => .inl h, fun _ h => .inl h⟩
      · exact hown.kept (grownBy_setCells c [.slice none 0 0] 3 wr) (.inr (by intro e; have := (hown.lt c e).1; omega))
      · refine hm.agree fun k hk => hagree k ?_
        rintro rfl
        rcases (hF _ hk).2.2 with h | h
        · omega
        · exact h
      · have := (hF k hk).1; simp [World.setCell]; exact this
      · have := (hown.lt k hk).1; have := (II.out.low k hf).2; omega

theorem quit_nil (w : World) :
    Calls Tryd.prog 16 #[.pointer none] w fun e w' => e = .returned (.slice none 0 0) ∧ w = w' := by
  go_enter Tryd.func16, Tryd.ntmps16
  go_wp2_with fail
  go_ret
  exact ⟨rfl, rfl⟩

end Go.Proofs.YtfmlhdikagogcaaDoor

namespace Go.Proofs.YtfmlhdikagogcaaDoor
open Go.RowKit
set_option maxRecDepth 20000

def wakeL (g : Gz) : List (Int × Nt) := g.l.flatMap looksZ

theorem wake_take (g : Gz) (k : Nat) (hk : k < g.l.length) : wakeL {g with l := g.l.take (k + 1)} = wakeL {g with l := g.l.take k} ++ looksZ g.l[k] := by
  unfold wakeL
  simp only [List.take_succ_eq_append_getElem hk, List.flatMap_append, List.flatMap_cons, List.flatMap_nil, List.append_nil]

set_option maxHeartbeats 4000000 in
theorem wake (B c : Nat) (F R : Nat → Prop) (g : Gz) (w : World) (hG : GAt w B c F R g) (hB : B ≤ w.heap.size) (hok : GOk g) :
    Calls Tryd.prog 21 #[.pointer (some ⟨c, 0, none⟩)] w (GTold w B c F R (fun _ => False) (wakeL g) g) := by
  obtain ⟨lv, Q, hI⟩ := hG
  obtain ⟨-, -, -, x3, fz⟩ := hI.get
  obtain ⟨p, m, cap, rfl⟩ := own_form hI.row
  obtain rfl : m = g.l.length := own_len hI.row
  have II := Lib.hid hI
  have OK := Lib.hid hok
  have hl8 := hok.most
  have HR := Lib.hid (show ∀ k, R k → k < w.heap.size from fun k hk => (hI.apart k hk).1)
  clear hI hok
  go_enter Tryd.func21, Tryd.ntmps21
  go_wp2_with fail
  go_loopg [3, 13] g.l.length (fun q out i wr => ∃ (k : Nat) (rs : List Mv) (G : Nat → Prop), q = g.l.length - k ∧ k ≤ g.l.length ∧ i = .int .i64 k ∧ rs.length ≤ k * 4 ∧ wr.ownsRow w.heap.size 44 17 out rs.length (flatM rs) ∧ rs.map Mv.says = wakeL {g with l := g.l.take k} ∧ MailF wr G rs ∧ (∀ k, G k → k < wr.heap.size ∧ out.ownBlock ≠ some k ∧ (w.heap.size ≤ k ∨ R k)) ∧ Below w.heap.size w wr)
  case atStart => exact ⟨0, [], fun _ => False, rfl, by omega, rfl, Nat.le_refl _, World.ownsRow_nil _ _ _ _, rfl, fun r hr => absurd hr (by simp), fun _ h => h.elim, Below.refl _ _⟩
  case round =>
    obtain ⟨k, rs, G, rfl, hk, rfl, hlen, hown, hsay, hm, hF, hb⟩ := hrel
    by_cases hlt : k < g.l.length
    · have hI := II.out.below hb
      have hkQ : k < Q.length := by rw [hI.len]; exact hlt
      obtain ⟨b, rfl, -, c0⟩ := row_elem hI.row (i := k) (by simpa using hkQ)
      have c1 : wr.cell? ⟨b, k, none⟩ = some (.pointer (some ⟨Q[k].b, 0, none⟩)) := by rw [c0]; simp [Qp.ptr]
      have hq := hI.each k hkQ hlt
      have hqk := OK.out.each g.l[k] (List.getElem_mem hlt)
      have RS := Lib.hid (looks g.l[k] R _ _ _ _ _ _ _ _ hq (by omega) (by omega))
      have PL := Lib.hid hqk.1
      obtain ⟨qo, no, co, rfl⟩ := own_form hown
      have O := Lib.hid (And.intro hown (And.intro hsay (And.intro hm (And.intro hF hb))))
      have LN := Lib.hid hlen
      have hsz := hb.size
      clear hI hq hqk c0 hown hsay hm hF hb hlen x3
      go_wp2_with fail
      refine RS.out.mono ?_
      rintro e w4 ⟨v4, rs4, G4, rfl, ho4, hs4, hm4, hG4, hb4⟩
      obtain ⟨q4, n4, c4, rfl⟩ := own_form ho4
      have h41 : rs4.length ≤ 4 := by have := congrArg List.length hs4; simp only [List.length_map, looksZ] at this; have h2 := List.length_filter_le (fun p => !hasTold g.l[k].told p) g.l[k].parts; have := PL.out; omega
      obtain ⟨q5, n5, c5, w5, hrun, hown5, hg5, hat5⟩ := run_app rowMail (own_below O.out.1 hb4) (by have := hb4.size; omega) (SrcAt.of_own ho4) hm4.one (by have := LN.out; simp [maxLen]; omega) (by have := LN.out; omega)
      obtain rfl : n4 = rs4.length := own_len ho4
      have A := Lib.hid (mails_app (R := R) O.out.1 O.out.2.2.1 O.out.2.2.2.1 O.out.2.2.2.2 HR.out hm4 (fun k hk => ⟨(hG4 k hk).1, (hG4 k hk).2.2⟩) hb4 hown5 hg5 hat5)
      have S4 := Lib.hid (And.intro hs4 h41)
      clear ho4 hs4 hm4 hG4 hb4 hown5 hg5 hat5 h41
      go_wp2_with (with_reducible refine wpList_append_eq hrun rfl _ _ rfl rfl rfl ?_)
      go_roundg (g.l.length - (k + 1))
      case measure => omega
      case rel =>
        obtain ⟨G', a1, a2, a3, a4⟩ := A.out
        exact ⟨k + 1, rs ++ rs4, G', rfl, by omega, by go_num, by have := LN.out; have := S4.out.2; simp; omega, a1, by rw [List.map_append, O.out.2.1, S4.out.1, wake_take g k hlt], a2, a3, a4⟩
    · obtain rfl : k = g.l.length := by omega
      obtain ⟨qo, no, co, rfl⟩ := own_form hown
      have O := Lib.hid (And.intro hown (And.intro hsay (And.intro hm (And.intro hF hb))))
      clear hown hsay hm hF hb hlen
      go_wp2_with fail
      go_ret
      obtain ⟨hown, hsay, hm, hF, hb⟩ := O.out
      exact ⟨_, rs, G, F, R, rfl, hown, by rw [hsay, List.take_length], hm, fun k hk => ⟨(hF k hk).1, (hF k hk).2.1⟩, fun k hk hf => by have := (hown.lt k hk).1; have := (II.out.low k hf).2; omega, ⟨_, _, II.out.below hb⟩, Mod.of_below hb, fun _ h => .inl h, fun _ h => .inl h⟩

theorem wake_nil (w : World) :
    Calls Tryd.prog 21 #[.pointer none] w fun e w' => e = .returned (.slice none 0 0) ∧ w = w' := by
  go_enter Tryd.func21, Tryd.ntmps21
  go_wp2_with fail
  go_ret
  exact ⟨rfl, rfl⟩

/-- the least stamp -/
def oldZ (l : List Qs) (s : Int) : Int := l.foldl (fun s q => min s q.note.stamp) s

theorem oldZ_take (l : List Qs) (s : Int) (k : Nat) (hk : k < l.length) : oldZ (l.take (k + 1)) s = min (oldZ (l.take k) s) l[k].note.stamp := by
  unfold oldZ
  rw [List.take_succ_eq_append_getElem hk, List.foldl_append]
  rfl

theorem min2 (a b : Int) (w : World) : (Builtin.min_ #[29, 29] 29 #[.int .u64 a, .int .u64 b]).run Tryd.prog w = .ok (.int .u64 (min a b)) w := by
  simp [Builtin.min_, Builtin.min2]
  by_cases h : b < a
  · simp [h]; omega
  · simp [h]; omega

theorem oldest (B c : Nat) (F R : Nat → Prop) (g : Gz) (s : Int) (w : World) (hG : GAt w B c F R g) (hl : g.l.length ≤ 1000) :
    Calls Tryd.prog 22 #[.pointer (some ⟨c, 0, none⟩), .int .u64 s] w fun e w' => e = .returned (.int .u64 (oldZ g.l s)) ∧ w = w' := by
  obtain ⟨lv, Q, hI⟩ := hG
  obtain ⟨-, -, -, x3, -⟩ := hI.get
  obtain ⟨p, m, cap, rfl⟩ := own_form hI.row
  obtain rfl : m = g.l.length := own_len hI.row
  have II := Lib.hid hI
  clear hI
  go_enter Tryd.func22, Tryd.ntmps22
  go_wp2_with fail
  go_loopg [1, 14] g.l.length (fun q s' i wr => ∃ k : Nat, q = g.l.length - k ∧ k ≤ g.l.length ∧ i = .int .i64 k ∧ s' = .int .u64 (oldZ (g.l.take k) s) ∧ w = wr)
  case atStart => exact ⟨0, rfl, by omega, rfl, rfl, rfl⟩
  case round =>
    obtain ⟨k, rfl, hk, rfl, rfl, rfl⟩ := hrel
    by_cases hlt : k < g.l.length
    · have hI := II.out
      have hkQ : k < Q.length := by rw [hI.len]; exact hlt
      obtain ⟨b, rfl, -, c0⟩ := row_elem hI.row (i := k) (by simpa using hkQ)
      have c1 : w.cell? ⟨b, k, none⟩ = some (.pointer (some ⟨Q[k].b, 0, none⟩)) := by rw [c0]; simp [Qp.ptr]
      obtain ⟨⟨-, -, -, x3', -⟩, -, -, -, -, -, -, -⟩ := (hI.each k hkQ hlt).get
      have OT := Lib.hid (oldZ_take g.l s k hlt)
      have hmn := min2 (oldZ (g.l.take k) s) g.l[k].note.stamp w
      clear hI c0
      go_wp2_with fail
      go_roundg (g.l.length - (k + 1))
      case measure => omega
      case rel => exact ⟨k + 1, rfl, by omega, by go_num, by rw [OT.out], rfl⟩
    · obtain rfl : k = g.l.length := by omega
      go_wp2_with fail
      go_ret
      exact ⟨ret_int (by rw [List.take_length]), rfl⟩

theorem oldest_nil (s : Int) (w : World) :
    Calls Tryd.prog 22 #[.pointer none, .int .u64 s] w fun e w' => e = .returned (.int .u64 s) ∧ w = w' := by
  go_enter Tryd.func22, Tryd.ntmps22
  go_wp2_with fail
  go_ret
  exact ⟨rfl, rfl⟩

end Go.Proofs.YtfmlhdikagogcaaDoor

namespace Go.Proofs.YtfmlhdikagogcaaDoor
open Go.RowKit
set_option maxRecDepth 20000

theorem mails_at {w : World} {B e m c : Nat} {rs : List Mv} {p : Option Addr} (h : w.ownsRow B e 17 (.slice p m c) rs.length (flatM rs)) (hi : 0 < rs.length) :
    ∃ b, p = some ⟨b, 0, none⟩ ∧ m = rs.length ∧ B ≤ b ∧ b < w.heap.size ∧ ∀ i j u (h1 : i < rs.length), rs[i].cells[j]? = some u → w.cell? ⟨b, i * 17 + j, none⟩ = some u := by
  obtain ⟨h1, ⟨h2, h3⟩ | ⟨g, cp, cur, hv, hb, hg, hn, hc, hs, ht⟩⟩ := h
  · omega
  · obtain ⟨rfl, rfl, rfl⟩ := Value.slice.inj hv
    refine ⟨g, rfl, rfl, hb, lt_block hg, fun i j u h1 hj => ?_⟩
    have hj17 : j < 17 := by
      rcases Nat.lt_or_ge j 17 with h | h
      · exact h
      · rw [List.getElem?_eq_none (by rw [Mv.cells_length]; exact h)] at hj; cases hj
    have : (cur.toList.take (rs.length * 17))[i * 17 + j]? = some u := by rw [ht, flatM_get _ _ h1 _ hj17]; exact hj
    rw [List.getElem?_take] at this
    split at this
    · simp only [World.cell?, hg]; simpa using this
    · cases this

theorem says_nil {rs : List Mv} (h : rs.map Mv.says = []) : rs = [] := by simpa using h

theorem says_cons {rs : List Mv} {x : Int} {n : Nt} {l : List (Int × Nt)} (h : rs.map Mv.says = (x, n) :: l) : ∃ vp vo vv vh rs', rs = ⟨x, n, vp, vo, vv, vh⟩ :: rs' ∧ rs'.map Mv.says = l := by
  cases rs with
  | nil => simp at h
  | cons r rs =>
    obtain ⟨a, b, c, d, e, f⟩ := r
    simp only [List.map_cons, List.cons.injEq, Mv.says, Prod.mk.injEq] at h
    obtain ⟨⟨rfl, rfl⟩, h⟩ := h
    exact ⟨c, d, e, f, rs, rfl, h⟩

/-- nothing below B has been touched -/
theorem GTold.below {w w' : World} {B c : Nat} {F R E : Nat → Prop} {l : List (Int × Nt)} {g' : Gz} {r : Ending} (h : GTold w B c F R E l g' r w') (hB : B ≤ w.heap.size) (hF : ∀ k, F k → B ≤ k) : Below B w w' := by
  obtain ⟨v, rs, G, F', R', -, -, -, -, -, -, -, hm, -⟩ := h
  exact hm.below hB hF

/-- a gather that lies above B, whatever else -/
def GHas (w : World) (B c : Nat) (g : Gz) : Prop := ∃ F R : Nat → Prop, GAt w B c F R g

theorem GAt.low {w : World} {B c : Nat} {F R : Nat → Prop} {g : Gz} (h : GAt w B c F R g) : ∀ k, F k → B ≤ k ∧ k < w.heap.size := by
  obtain ⟨lv, Q, h⟩ := h
  exact h.low

theorem GHas.below {w w' : World} {B c : Nat} {g : Gz} (h : GHas w B c g) (hb : Below w.heap.size w w') : GHas w' B c g := by
  obtain ⟨F, R, h⟩ := h
  exact ⟨F, R, h.below hb⟩

theorem GHas.mono {w : World} {B B' c : Nat} {g : Gz} (h : GHas w B c g) (hB : B' ≤ B) : GHas w B' c g := by
  obtain ⟨F, R, lv, Q, h⟩ := h
  exact ⟨F, R, lv, Q, h.obj, own_mono h.row hB, h.len, h.each, h.bs, h.mbs, h.lvF, h.mbF, h.here, fun k hk => ⟨Nat.le_trans hB (h.low k hk).1, (h.low k hk).2⟩, h.apart⟩

/-- what a call tells, whatever else -/
def GSays (w : World) (B c : Nat) (l : List (Int × Nt)) (g' : Gz) (r : Ending) (w' : World) : Prop :=
  ∃ v rs, ∃ G : Nat → Prop, r = .returned v ∧ w'.ownsRow w.heap.size 44 17 v rs.length (flatM rs) ∧ rs.map Mv.says = l ∧ MailF w' G rs ∧ (∀ k, G k → k < w'.heap.size) ∧ GHas w' B c g' ∧ Below B w w'

theorem GTold.says {w w' : World} {B c : Nat} {F R E : Nat → Prop} {l : List (Int × Nt)} {g' : Gz} {r : Ending} (h : GTold w B c F R E l g' r w') (hB : B ≤ w.heap.size) (hF : ∀ k, F k → B ≤ k) : GSays w B c l g' r w' := by
  have hb := h.below hB hF
  obtain ⟨v, rs, G, F', R', h1, h2, h3, h4, h5, h6, h7, -⟩ := h
  exact ⟨v, rs, G, h1, h2, h3, h4, fun k hk => (h5 k hk).1, ⟨F', R', h7⟩, hb⟩

theorem askS (B c : Nat) (g : Gz) (n : Nt) (vp vo vv vh : Value) (E : Nat → Prop) (frm stamp mark : Int) (w : World) (hT : Tab w) (hG : GHas w B c g) (hB : B ≤ w.heap.size) (hok : GOk g) (hv : NoteV w E n vp vo vv vh) (hkd : 0 ≤ n.kind ∧ n.kind ≤ 255) (hlen : n.parts.length ≤ 1000000 ∧ n.ops.length ≤ 1000000 ∧ n.vec.length ≤ 1000000 ∧ n.hits.length ≤ 1000000) {l : List (Int × Nt)} {g' : Gz} (hz : askZ g frm n stamp mark = (l, g')) :
    Calls Tryd.prog 11 #[.pointer (some ⟨c, 0, none⟩), .int .i64 frm, .agg (n.cells vp vo vv vh), .int .u64 stamp, .int .u64 mark] w (GSays w B c l g') := by
  obtain ⟨F, R, hG⟩ := hG
  have := ask B c F R E g n vp vo vv vh frm stamp mark w hT hG hB hok hv hkd hlen
  rw [hz] at this
  exact this.mono fun e w' h => h.says hB (fun k hk => (hG.low k hk).1)

/-- E: what lies above all that was there when the gather was last changed -/
theorem hearS (B c : Nat) (g : Gz) (n : Nt) (vp vo vv vh : Value) (frm : Int) (w0 w : World) (hT : Tab w) (hG : GHas w0 B c g) (hb : Below w0.heap.size w0 w) (hB : B ≤ w0.heap.size) (hok : GOk g) (hv : NoteV w (fun k => w0.heap.size ≤ k ∧ k < w.heap.size) n vp vo vv vh) (hkd : 0 ≤ n.kind ∧ n.kind ≤ 255) (hlen : n.parts.length ≤ 1000000 ∧ n.ops.length ≤ 1000000 ∧ n.vec.length ≤ 1000000 ∧ n.hits.length ≤ 1000000) {l : List (Int × Nt)} {g' : Gz} (hz : hearZ g frm n = (l, g')) :
    Calls Tryd.prog 13 #[.pointer (some ⟨c, 0, none⟩), .int .i64 frm, .agg (n.cells vp vo vv vh)] w (GSays w B c l g') := by
  obtain ⟨F, R, hG⟩ := hG
  have hB' : B ≤ w.heap.size := Nat.le_trans hB hb.size
  have := hear B c F R _ g n vp vo vv vh frm w hT (hG.below hb) hB' hok hv hkd hlen (fun k hk => ⟨hk.2, fun hf => by have := (hG.low k hf).2; omega⟩)
  rw [hz] at this
  exact this.mono fun e w' h => h.says hB' (fun k hk => (hG.low k hk).1)

theorem quitS (B c : Nat) (g : Gz) (w : World) (hG : GHas w B c g) (hB : B ≤ w.heap.size) (hl : g.l.length ≤ 1000) :
    Calls Tryd.prog 16 #[.pointer (some ⟨c, 0, none⟩)] w (GSays w B c (quitL g) {g with l := []}) := by
  obtain ⟨F, R, hG⟩ := hG
  exact (quit B c F R g w hG hB hl).mono fun e w' h => h.says hB (fun k hk => (hG.low k hk).1)

theorem wakeS (B c : Nat) (g : Gz) (w : World) (hG : GHas w B c g) (hB : B ≤ w.heap.size) (hok : GOk g) :
    Calls Tryd.prog 21 #[.pointer (some ⟨c, 0, none⟩)] w (GSays w B c (wakeL g) g) := by
  obtain ⟨F, R, hG⟩ := hG
  exact (wake B c F R g w hG hB hok).mono fun e w' h => h.says hB (fun k hk => (hG.low k hk).1)

theorem lenS (B c : Nat) (g : Gz) (w : World) (hG : GHas w B c g) :
    Calls Tryd.prog 15 #[.pointer (some ⟨c, 0, none⟩)] w fun e w' => e = .returned (.int .i64 g.l.length) ∧ w = w' := by
  obtain ⟨F, R, hG⟩ := hG
  exact glen B c F R g w hG

theorem oldestS (B c : Nat) (g : Gz) (s : Int) (w : World) (hG : GHas w B c g) (hl : g.l.length ≤ 1000) :
    Calls Tryd.prog 22 #[.pointer (some ⟨c, 0, none⟩), .int .u64 s] w fun e w' => e = .returned (.int .u64 (oldZ g.l s)) ∧ w = w' := by
  obtain ⟨F, R, hG⟩ := hG
  exact oldest B c F R g s w hG hl

theorem newS (shards dim base : Int) (w : World) (h : 1 ≤ shards ∧ shards ≤ 4 ∧ 1 ≤ dim ∧ dim ≤ 8) :
    Calls Tryd.prog 10 #[.int .i64 shards, .int .i64 dim, .int .u64 base] w fun e w' => ∃ c, e = .returned (.tuple #[.pointer (some ⟨c, 0, none⟩), .int .i64 0]) ∧ GHas w' w.heap.size c ⟨shards, dim, base, []⟩ ∧ Below w.heap.size w w' :=
  (newG shards dim base w h).mono fun e w' ⟨c, h1, h2, _, h4⟩ => ⟨c, h1, ⟨_, _, h2⟩, h4⟩

end Go.Proofs.YtfmlhdikagogcaaDoor

namespace Go.Proofs.YtfmlhdikagogcaaDoor
open Go.RowKit
set_option maxRecDepth 20000

theorem askQ_ok {g : Gz} (hg : GOk g) {frm stamp mark : Int} {n : Nt} (ho : oddB frm n 8 = false) : (askQ g frm n stamp mark).parts.length ≤ 4 ∧ (askQ g frm n stamp mark).note.vec.length ≤ 8 ∧ (askQ g frm n stamp mark).told.length < (askQ g frm n stamp mark).parts.length ∧ 0 ≤ (askQ g frm n stamp mark).note.k ∧ (askQ g frm n stamp mark).note.k ≤ 16 ∧ ∀ x ∈ (askQ g frm n stamp mark).told, x.2.length ≤ 16 ∧ ∀ h ∈ x.2, h.vec.length ≤ 8 := by
  have hr : rightN n = true := by unfold oddB at ho; simp at ho; exact ho.1.1.2
  have hk : n.kind = 8 := by unfold oddB at ho; simp at ho; exact ho.1.1.1
  have h1 := right_query hr hk
  have h2 := right_k hr
  have h3 := hg.shards
  refine ⟨?_, h1.2.1, ?_, h2.1, h2.2, fun x hx => absurd hx (by simp [askQ])⟩
  · unfold askQ
    split
    · simp
    · simp; omega
  · unfold askQ
    split
    · simp
    · simp; omega

theorem askZ_ok {g : Gz} (hg : GOk g) (frm : Int) (n : Nt) (stamp mark : Int) : GOk (askZ g frm n stamp mark).2 := by
  unfold askZ
  cases ho : oddB frm n 8
  · rw [if_neg (by simp)]
    cases g.l.find? (isQ frm n) with
    | some q => exact hg
    | none =>
      simp only
      split
      · exact hg
      · split
        · exact hg
        · rename_i h8
          refine ⟨by simp; omega, hg.shards, fun q hq => ?_⟩
          rcases List.mem_append.1 hq with hq | hq
          · exact hg.each q hq
          · rw [List.mem_singleton.1 hq]; exact askQ_ok hg ho
  · exact hg

theorem dropZ_ok {g : Gz} (hg : GOk g) (k : Nat) : GOk (dropZ g k) :=
  ⟨by have := List.length_eraseIdx_le g.l k; have := hg.most; simp only [dropZ]; omega, hg.shards, fun q hq => hg.each q (List.mem_of_mem_eraseIdx hq)⟩

theorem hearAt_ok {g : Gz} (hg : GOk g) {k : Nat} {q : Qs} (hq : q ∈ g.l) {frm : Int} {n : Nt} (ho : oddB frm n 10 = false) : GOk (hearAt g k q frm n).2 := by
  have hr := right_seen (n := n) (by unfold oddB at ho; simp at ho; exact ho.1.1.2) (by unfold oddB at ho; simp at ho; exact ho.1.1.1)
  unfold hearAt
  by_cases h1 : (hasTold q.told frm || !(q.parts.any fun y => decide (frm = y))) = true
  · rw [if_pos h1]; exact hg
  · rw [if_neg h1]
    by_cases h2 : n.code ≠ 0
    · rw [if_pos h2]; exact dropZ_ok hg k
    · rw [if_neg h2]
      by_cases h3 : q.told.length + 1 < q.parts.length
      · rw [if_pos h3]
        refine ⟨by simp [toldZ]; exact hg.most, hg.shards, fun x hx => ?_⟩
        rcases List.mem_or_eq_of_mem_set hx with hx | rfl
        · exact hg.each x hx
        · obtain ⟨a, b, c, d, e, f⟩ := hg.each q hq
          refine ⟨a, b, by simpa using h3, d, e, fun y hy => ?_⟩
          rcases List.mem_append.1 hy with hy | hy
          · exact f y hy
          · rw [List.mem_singleton.1 hy]
            refine ⟨hr.1, fun h hh => ?_⟩
            have := hr.2.1 h hh
            unfold badHit rightB at this
            simp at this
            omega
      · rw [if_neg h3]; exact dropZ_ok hg k

theorem hearZ_ok {g : Gz} (hg : GOk g) (frm : Int) (n : Nt) : GOk (hearZ g frm n).2 := by
  unfold hearZ
  cases ho : oddB frm n 10
  · rw [if_neg (by simp)]
    split
    · exact hg
    · split
      · exact hg
      · rename_i hk
        exact hearAt_ok hg (List.mem_of_getElem? hk) ho
  · exact hg

theorem quit_ok {g : Gz} (hg : GOk g) : GOk {g with l := []} := ⟨by simp, hg.shards, fun q hq => absurd hq (by simp)⟩

end Go.Proofs.YtfmlhdikagogcaaDoor

namespace Go.Proofs.YtfmlhdikagogcaaDoor
open Go.RowKit
set_option maxRecDepth 20000

def seenN (x : Int) : Nt := ⟨10, 0, 0, 0, 0, 0, x, 0, 0, 0, 0, 0, [], [], [], []⟩
def lookN (n : Nt) (s : Int) : Nt := {n with kind := 9, stamp := s, mark := 0, query := 1}
def agQ (n : Nt) (s : Int) (t : List (Int × List Hz)) : Qs := ⟨lookN n s, 4, n.query, [1, 2, 3], t⟩
def agG (n : Nt) (s : Int) (t : List (Int × List Hz)) : Gz := ⟨3, 2, 1, [agQ n s t]⟩

/-- the two that are left -/
def leftA (p : Int) : Int := if p = 1 then 2 else 1
def leftB (p : Int) : Int := if p = 3 then 2 else 3

theorem seen_odd (p : Int) (h : 0 ≤ p ∧ p < 16) : oddB p (seenN 1) 10 = false := by
  have hr : rightN (seenN 1) = true := by rfl
  unfold oddB
  rw [hr, decide_eq_false (show ¬ p < 0 by omega), decide_eq_false (show ¬ 16 ≤ p by omega)]
  rfl

theorem ask_odd {n : Nt} (hk : n.kind = 8) (hr : rightN n = true) : oddB 4 n 8 = false := by
  unfold oddB
  rw [hr, hk]
  rfl

theorem agn_ask {n : Nt} (hk : n.kind = 8) (hr : rightN n = true) (hv : n.vec.length = 2) (s : Int) : askZ ⟨3, 2, 0, []⟩ 4 n s 0 = ([(1, lookN n s), (2, lookN n s), (3, lookN n s)], agG n s []) := by
  have hq : askQ ⟨3, 2, 0, []⟩ 4 n s 0 = agQ n s [] := by
    unfold askQ agQ lookN
    rw [if_neg (show ¬ n.vec.length = 0 by omega)]
    rfl
  unfold askZ
  rw [ask_odd hk hr, hq]
  simp only [Bool.false_eq_true, if_false, List.find?_nil]
  rw [if_neg (show ¬ (0 < n.vec.length ∧ (n.vec.length : Int) ≠ 2) by omega), if_neg (show ¬ 8 ≤ ([] : List Qs).length by simp)]
  rfl

theorem agn_hear {n : Nt} {s p : Int} (hp : p = 1 ∨ p = 2 ∨ p = 3) : hearZ (agG n s []) p (seenN 1) = ([], agG n s [(p, [])]) := by
  rw [hearZ_at (k := 0) (seen_odd p (by omega)) (by simp [agG]) (by rfl) (fun j _ h => absurd h (Nat.not_lt_zero _))]
  rcases hp with rfl | rfl | rfl <;> rfl

theorem agn_twice {n : Nt} {s p : Int} (hp : p = 1 ∨ p = 2 ∨ p = 3) : hearZ (agG n s [(p, [])]) p (seenN 1) = ([], agG n s [(p, [])]) := by
  rw [hearZ_at (k := 0) (seen_odd p (by omega)) (by simp [agG]) (by rfl) (fun j _ h => absurd h (Nat.not_lt_zero _))]
  rcases hp with rfl | rfl | rfl <;> rfl

theorem agn_nine {n : Nt} {s p : Int} (hp : p = 1 ∨ p = 2 ∨ p = 3) : hearZ (agG n s [(p, [])]) 9 (seenN 1) = ([], agG n s [(p, [])]) := by
  rw [hearZ_at (k := 0) (seen_odd 9 (by omega)) (by simp [agG]) (by rfl) (fun j _ h => absurd h (Nat.not_lt_zero _))]
  rcases hp with rfl | rfl | rfl <;> rfl

theorem agn_looks {n : Nt} {s p : Int} (hp : p = 1 ∨ p = 2 ∨ p = 3) : looksZ (agQ n s [(p, [])]) = [(leftA p, lookN n s), (leftB p, lookN n s)] := by
  rcases hp with rfl | rfl | rfl <;> rfl

theorem left_ne {p : Int} (hp : p = 1 ∨ p = 2 ∨ p = 3) : leftA p ≠ p ∧ leftB p ≠ p := by
  rcases hp with rfl | rfl | rfl <;> decide

theorem agn_again {n : Nt} {s s' m p : Int} (hk : n.kind = 8) (hr : rightN n = true) (hp : p = 1 ∨ p = 2 ∨ p = 3) : askZ (agG n s [(p, [])]) 4 n s' m = ([(leftA p, lookN n s), (leftB p, lookN n s)], agG n s [(p, [])]) := by
  have hf : (agG n s [(p, [])]).l.find? (isQ 4 n) = some (agQ n s [(p, [])]) := by
    show [agQ n s [(p, [])]].find? (isQ 4 n) = _
    rw [List.find?_cons_of_pos]
    simp [isQ, agQ]
  unfold askZ
  rw [ask_odd hk hr, hf]
  simp only [Bool.false_eq_true, if_false]
  rw [agn_looks hp]

theorem agn_wake {n : Nt} {s p : Int} (hp : p = 1 ∨ p = 2 ∨ p = 3) : wakeL (agG n s [(p, [])]) = [(leftA p, lookN n s), (leftB p, lookN n s)] := by
  show looksZ (agQ n s [(p, [])]) ++ [] = _
  rw [agn_looks hp, List.append_nil]

theorem agn_old {n : Nt} {s p : Int} : oldZ (agG n s [(p, [])]).l (s + 1) = s := by
  show min (s + 1) s = s
  omega

theorem agn_ok0 : GOk ⟨3, 2, 0, []⟩ := ⟨by simp, by decide, fun q h => absurd h (by simp)⟩

theorem agn_ok {n : Nt} (hk : n.kind = 8) (hr : rightN n = true) (hv : n.vec.length = 2) (s : Int) : GOk (agG n s []) := by
  have := askZ_ok agn_ok0 4 n s 0
  rw [agn_ask hk hr hv] at this
  exact this

theorem agn_ok1 {n : Nt} (hk : n.kind = 8) (hr : rightN n = true) (hv : n.vec.length = 2) (s : Int) {p : Int} (hp : p = 1 ∨ p = 2 ∨ p = 3) : GOk (agG n s [(p, [])]) := by
  have := hearZ_ok (agn_ok hk hr hv s) p (seenN 1)
  rw [agn_hear hp] at this
  exact this

theorem agn_p (first : Int) (h : 0 ≤ first) : 1 + first % 3 = 1 ∨ 1 + first % 3 = 2 ∨ 1 + first % 3 = 3 := by omega

end Go.Proofs.YtfmlhdikagogcaaDoor

namespace Go.Proofs.YtfmlhdikagogcaaDoor
open Go.RowKit Go.ChangeMaps
set_option maxRecDepth 20000

theorem filter_ne_at {α : Type} [BEq α] [LawfulBEq α] : ∀ (xs : List α) (k : Nat) (hk : k < xs.length), xs.Nodup → (xs.filter fun x => x != xs[k]) = xs.eraseIdx k
  | x :: xs, 0, _, h => by
    rw [List.nodup_cons] at h
    simp only [List.getElem_cons_zero, List.eraseIdx_cons_zero, List.filter_cons, bne_self_eq_false, Bool.false_eq_true, if_false]
    rw [List.filter_eq_self]
    intro y hy
    simp only [bne_iff_ne, ne_eq]
    exact fun e => h.1 (e ▸ hy)
  | x :: xs, k + 1, hk, h => by
    rw [List.nodup_cons] at h
    have hk' : k < xs.length := by simpa using hk
    have hx : (x != xs[k]) = true := by
      simp only [bne_iff_ne, ne_eq]
      exact fun e => h.1 (e ▸ List.getElem_mem hk')
    simp only [List.getElem_cons_succ, List.eraseIdx_cons_succ, List.filter_cons, hx, if_true]
    rw [filter_ne_at xs k hk' h.2]

abbrev KV := (Int × Int) × Value

def keyQ (q : Qs) : Int × Int := (q.who, q.query)
def keyM (m : Int × Nt) : Int × Int := (m.1, m.2.query)
def isRes (m : Int × Nt) : Bool := m.2.kind == 11

/-- a Result's key is struck -/
def strike (L : List KV) (m : Int × Nt) : List KV := if isRes m then delK L (keyM m) else L
def strikes (L : List KV) (l : List (Int × Nt)) : List KV := l.foldl strike L

theorem strikes_snoc (L : List KV) (l : List (Int × Nt)) (i : Nat) (h : i < l.length) : strikes L (l.take (i + 1)) = strike (strikes L (l.take i)) l[i] := by
  unfold strikes
  rw [List.take_succ_eq_append_getElem h, List.foldl_append]
  rfl

/-- the keys that are open are the questions' -/
structure OpenOk (g : Gz) (L : List KV) : Prop where
  kinds : ∀ q ∈ g.l, q.note.kind = 9
  keys : (L.map (·.1)).Perm (g.l.map keyQ)
  nodup : (L.map (·.1)).Nodup
  vals : ∀ p ∈ L, p.2 = .bool true

/-- each Result's key is open when it comes up -/
def Goes (L : List KV) (l : List (Int × Nt)) : Prop := ∀ i (h : i < l.length), isRes l[i] = true → getK (strikes L (l.take i)) (keyM l[i]) = some (.bool true)

theorem strikes_none {L : List KV} {l : List (Int × Nt)} (h : ∀ m ∈ l, isRes m = false) : strikes L l = L := by
  induction l generalizing L with
  | nil => rfl
  | cons m l ih =>
    have h1 : strike L m = L := by unfold strike; rw [h m (by simp)]; rfl
    show strikes (strike L m) l = L
    rw [h1]
    exact ih fun x hx => h x (by simp [hx])

theorem goes_none {L : List KV} {l : List (Int × Nt)} (h : ∀ m ∈ l, isRes m = false) : Goes L l := fun i hi hr => by
  rw [h _ (List.getElem_mem hi)] at hr
  cases hr

theorem getK_strikes {L : List KV} {l : List (Int × Nt)} {k : Int × Int} (h : ∀ m ∈ l, keyM m ≠ k) : getK (strikes L l) k = getK L k := by
  induction l generalizing L with
  | nil => rfl
  | cons m l ih =>
    show getK (strikes (strike L m) l) k = _
    rw [ih fun x hx => h x (by simp [hx])]
    unfold strike
    split
    · rw [getK_del, if_neg (fun e => h m (by simp) e.symm)]
    · rfl

theorem goes_res {L : List KV} {l : List (Int × Nt)} (hn : (l.map keyM).Nodup) (hk : ∀ m ∈ l, getK L (keyM m) = some (.bool true)) : Goes L l := fun i hi _ => by
  rw [getK_strikes fun m hm e => ?_]
  · exact hk _ (List.getElem_mem hi)
  · obtain ⟨j, hj, rfl⟩ := List.mem_iff_getElem.1 hm
    rw [List.length_take] at hj
    rw [List.getElem_take] at e
    have := List.pairwise_iff_getElem.1 hn j i (by simp; omega) (by simpa using hi) (by omega)
    simp only [List.getElem_map] at this
    exact this e

theorem strikes_res {L : List KV} {l : List (Int × Nt)} (h : ∀ m ∈ l, isRes m = true) : strikes L l = L.filter fun p => decide (p.1 ∉ l.map keyM) := by
  induction l generalizing L with
  | nil => exact (List.filter_eq_self.2 (by simp)).symm
  | cons m l ih =>
    show strikes (strike L m) l = _
    rw [ih fun x hx => h x (by simp [hx])]
    unfold strike delK
    rw [h m (by simp), if_pos rfl, List.filter_filter]
    congr 1
    funext p
    simp only [List.map_cons, List.mem_cons, not_or, Bool.decide_and]
    rw [Bool.and_comm]

theorem OpenOk.get {g : Gz} {L : List KV} (h : OpenOk g L) {k : Int × Int} (hk : k ∈ g.l.map keyQ) : getK L k = some (.bool true) := by
  obtain ⟨p, hp, rfl⟩ := List.mem_map.1 (h.keys.mem_iff.2 hk)
  unfold getK
  cases hf : L.find? fun x => decide (x.1 = p.1) with
  | none => have := List.find?_eq_none.1 hf p hp; simp at this
  | some x => rw [Option.map_some, h.vals x (List.mem_of_find?_eq_some hf)]

theorem OpenOk.none {g : Gz} {L : List KV} (h : OpenOk g L) {k : Int × Int} (hk : k ∉ g.l.map keyQ) : getK L k = none := by
  unfold getK
  rw [Option.map_eq_none_iff, List.find?_eq_none]
  intro p hp e
  simp only [decide_eq_true_eq] at e
  exact hk (h.keys.mem_iff.1 (List.mem_map.2 ⟨p, hp, e⟩))

theorem OpenOk.length {g : Gz} {L : List KV} (h : OpenOk g L) : L.length = g.l.length := by
  have := h.keys.length_eq
  simpa using this

theorem OpenOk.start (shards dim last : Int) : OpenOk ⟨shards, dim, last, []⟩ [] := ⟨fun q hq => absurd hq (by simp), List.Perm.refl _, List.nodup_nil, fun p hp => absurd hp (by simp)⟩

theorem looks_kind {q : Qs} (h : q.note.kind = 9) : ∀ m ∈ looksZ q, isRes m = false := fun m hm => by
  unfold looksZ at hm
  obtain ⟨p, -, rfl⟩ := List.mem_map.1 hm
  simp [isRes, h]

theorem wake_kind {g : Gz} (h : ∀ q ∈ g.l, q.note.kind = 9) : ∀ m ∈ wakeL g, isRes m = false := fun m hm => by
  obtain ⟨q, hq, hm⟩ := List.mem_flatMap.1 hm
  exact looks_kind (h q hq) m hm

/-- Quit -/
theorem once_quit {g : Gz} {L : List KV} (h : OpenOk g L) : Goes L (quitL g) ∧ OpenOk {g with l := []} (strikes L (quitL g)) := by
  have hm : (quitL g).map keyM = g.l.map keyQ := by
    unfold quitL
    rw [List.map_map]
    rfl
  have hr : ∀ m ∈ quitL g, isRes m = true := fun m hm => by
    unfold quitL at hm
    obtain ⟨q, -, rfl⟩ := List.mem_map.1 hm
    rfl
  refine ⟨goes_res (by rw [hm]; exact h.keys.nodup_iff.1 h.nodup) fun m hq => h.get (by rw [← hm]; exact List.mem_map.2 ⟨m, hq, rfl⟩), ?_⟩
  have e : strikes L (quitL g) = [] := by
    rw [strikes_res hr, hm, List.filter_eq_nil_iff]
    intro p hp
    simp only [decide_not, Bool.not_eq_true', decide_eq_false_iff_not, Classical.not_not]
    exact h.keys.mem_iff.1 (List.mem_map.2 ⟨p, hp, rfl⟩)
  rw [e]
  exact ⟨fun q hq => absurd hq (by simp), List.Perm.refl _, List.nodup_nil, fun p hp => absurd hp (by simp)⟩

/-- a question is told, and is over -/
theorem once_drop {g : Gz} {L : List KV} (h : OpenOk g L) {k : Nat} (hk : k < g.l.length) (stamp code : Int) (hits : List Hz) :
    Goes L [(g.l[k].who, resN stamp g.l[k].query code hits)] ∧ OpenOk (dropZ g k) (strikes L [(g.l[k].who, resN stamp g.l[k].query code hits)]) := by
  have hkm : keyM (g.l[k].who, resN stamp g.l[k].query code hits) = keyQ g.l[k] := rfl
  have hin : keyQ g.l[k] ∈ g.l.map keyQ := List.mem_map.2 ⟨_, List.getElem_mem hk, rfl⟩
  have hnd : (g.l.map keyQ).Nodup := h.keys.nodup_iff.1 h.nodup
  refine ⟨goes_res (by simp) fun m hm => by rw [List.mem_singleton.1 hm, hkm]; exact h.get hin, ?_⟩
  have e : strikes L [(g.l[k].who, resN stamp g.l[k].query code hits)] = L.filter fun p => decide (p.1 ≠ keyQ g.l[k]) := rfl
  rw [e]
  refine ⟨fun q hq => h.kinds q (List.mem_of_mem_eraseIdx hq), ?_, h.nodup.sublist (List.filter_sublist.map _), fun p hp => h.vals p (List.mem_filter.1 hp).1⟩
  have e1 : (L.filter fun p => decide (p.1 ≠ keyQ g.l[k])).map (·.1) = (L.map (·.1)).filter fun x => x != keyQ g.l[k] := by
    rw [List.filter_map]
    congr 1
    apply List.filter_congr
    intro p _
    simp only [Function.comp, bne, ne_eq, decide_not]
    congr 1
    rw [Bool.eq_iff_iff]
    simp
  rw [e1]
  refine (h.keys.filter _).trans ?_
  have e2 : (dropZ g k).l.map keyQ = (g.l.map keyQ).eraseIdx k := by
    show (g.l.eraseIdx k).map keyQ = _
    rw [map_eraseIdx]
  have hk' : k < (g.l.map keyQ).length := by simpa using hk
  have e3 := filter_ne_at _ k hk' hnd
  rw [List.getElem_map] at e3
  rw [e2, ← e3]

theorem OpenOk.told {g : Gz} {L : List KV} (h : OpenOk g L) {k : Nat} (hk : k < g.l.length) (t : List (Int × List Hz)) : OpenOk (toldZ g k g.l[k] t) L := by
  refine ⟨fun q hq => ?_, ?_, h.nodup, h.vals⟩
  · rcases List.mem_or_eq_of_mem_set hq with hq | rfl
    · exact h.kinds q hq
    · exact (h.kinds g.l[k] (List.getElem_mem hk) :)
  · have e : (g.l.set k {g.l[k] with told := t}).map keyQ = g.l.map keyQ := by
      rw [List.map_set]
      have : keyQ {g.l[k] with told := t} = (g.l.map keyQ)[k]'(by simpa using hk) := by simp [keyQ]
      rw [this, List.set_getElem_self]
    exact e ▸ h.keys

/-- Hear -/
theorem once_hear {g : Gz} {L : List KV} (h : OpenOk g L) (frm : Int) (n : Nt) : Goes L (hearZ g frm n).1 ∧ OpenOk (hearZ g frm n).2 (strikes L (hearZ g frm n).1) := by
  have hnil : Goes L [] ∧ OpenOk g (strikes L []) := ⟨fun i hi => absurd hi (by simp), h⟩
  unfold hearZ
  split
  · exact hnil
  · split
    · exact hnil
    · rename_i k hk
      split
      · exact hnil
      · rename_i q hq
        obtain ⟨hkl, rfl⟩ := List.getElem?_eq_some_iff.1 hq
        unfold hearAt
        split
        · exact hnil
        · split
          · exact once_drop h hkl _ _ _
          · split
            · exact ⟨fun i hi => absurd hi (by simp), h.told hkl _⟩
            · exact once_drop h hkl _ _ _

/-- Ask -/
theorem once_ask {g : Gz} {L : List KV} (h : OpenOk g L) (frm : Int) (n : Nt) (stamp mark : Int) :
    (g.l.length < (askZ g frm n stamp mark).2.l.length ∧ OpenOk (askZ g frm n stamp mark).2 (putK L (frm, n.query) (.bool true)) ∧ ∀ m ∈ (askZ g frm n stamp mark).1, isRes m = false) ∨
    ((askZ g frm n stamp mark).2 = g ∧ ((∀ m ∈ (askZ g frm n stamp mark).1, isRes m = false) ∨ ((∃ e, (askZ g frm n stamp mark).1 = [(frm, resN 0 n.query e [])]) ∧ getK L (frm, n.query) = none))) := by
  unfold askZ
  split
  · exact .inr ⟨rfl, .inl fun m hm => absurd hm (by simp)⟩
  · split
    · rename_i q hq
      exact .inr ⟨rfl, .inl (looks_kind (h.kinds q (List.mem_of_find?_eq_some hq)))⟩
    · rename_i hq
      have hnk : (frm, n.query) ∉ g.l.map keyQ := fun hm => by
        obtain ⟨q, hq', e⟩ := List.mem_map.1 hm
        have := List.find?_eq_none.1 hq q hq'
        simp only [keyQ, Prod.mk.injEq] at e
        simp [isQ, e.1, e.2] at this
      split
      · exact .inr ⟨rfl, .inr ⟨⟨_, rfl⟩, h.none hnk⟩⟩
      · split
        · exact .inr ⟨rfl, .inr ⟨⟨_, rfl⟩, h.none hnk⟩⟩
        · refine .inl ⟨by simp, ?_, looks_kind rfl⟩
          have hf : L.findIdx? (fun p => decide (p.1 = (frm, n.query))) = none := by
            rw [List.findIdx?_eq_none_iff]
            intro p hp
            simp only [decide_eq_false_iff_not]
            exact fun e => hnk (h.keys.mem_iff.1 (List.mem_map.2 ⟨p, hp, e⟩))
          rw [putK_new hf]
          refine ⟨fun q hq => ?_, ?_, ?_, fun p hp => ?_⟩
          · rcases List.mem_append.1 hq with hq | hq
            · exact h.kinds q hq
            · rw [List.mem_singleton.1 hq]; rfl
          · rw [List.map_append, List.map_append]
            exact h.keys.append (List.Perm.refl _)
          · rw [← putK_new hf (.bool true)]
            exact nodup_putK h.nodup _ _
          · rcases List.mem_append.1 hp with hp | hp
            · exact h.vals p hp
            · rw [List.mem_singleton.1 hp]

end Go.Proofs.YtfmlhdikagogcaaDoor

namespace Go.Proofs.YtfmlhdikagogcaaDoor
open Go.RowKit Go.ChangeMaps
set_option maxRecDepth 20000

/-- keys of the type K are the values mk a, whichever way they are found -/
structure KeyF (P : Program) (K : TypeId) {α : Type} [DecidableEq α] (mk : α → Value) : Prop where
  find : ∀ (es : List MapEntry) (L : List (α × Value)) (a : α) (w : World), es.map (fun e => (e.key, e.val)) = L.map (fun p => (mk p.1, p.2)) →
    (Instr.findKey K (mk a) es).run P w = .ok ((L.findIdx? fun p => decide (p.1 = a)).bind fun j => (L[j]?).map fun p => (j, p.2)) w
  check : ∀ e w (a : α), (Instr.checkKey e 10000 K (mk a)).run P w = .ok () w
  bits : ∀ a, Instr.sameBits 10000 (mk a) (mk a) = true

section
variable {P : Program} {K : TypeId} {α : Type} [DecidableEq α] {mk : α → Value}

theorem run_asking (hq : ∀ a b w, (Op.equal K (mk a) (mk b)).run P w = .ok (decide (a = b)) w) (a : α) :
    ∀ (es : List MapEntry) (L : List (α × Value)) (i : Nat) (w : World), es.map (fun e => (e.key, e.val)) = L.map (fun p => (mk p.1, p.2)) →
      (Instr.findAsking K (mk a) es i).run P w = .ok ((L.findIdx? fun p => decide (p.1 = a)).bind fun j => (L[j]?).map fun p => (i + j, p.2)) w
  | [], [], i, w, _ => by simp [Instr.findAsking]
  | [], _ :: _, _, _, h => by simp at h
  | _ :: _, [], _, _, h => by simp at h
  | e :: es, p :: L, i, w, h => by
    simp only [List.map_cons, List.cons.injEq, Prod.mk.injEq] at h
    simp only [Instr.findAsking, Sem.run_bind, h.1.1, hq, Result.andThen_ok]
    by_cases hp : p.1 = a
    · have h1 : decide (a = p.1) = true := by simp [hp]
      have h2 : decide (p.1 = a) = true := by simp [hp]
      rw [h1]
      simp [List.findIdx?_cons, h2, h.1.2]
    · have h1 : decide (a = p.1) = false := by simp; exact fun e => hp e.symm
      have h2 : decide (p.1 = a) = false := by simp [hp]
      rw [h1]
      simp only [Bool.false_eq_true, if_false]
      rw [run_asking hq a es L (i + 1) w h.2]
      simp only [List.findIdx?_cons, h2]
      cases L.findIdx? fun p => decide (p.1 = a) with
      | none => simp
      | some j => simp [Nat.add_comm, Nat.add_left_comm]

theorem run_lookF (KO : KeyF P K mk) {T E : TypeId} (hT : P.underlying T = some (.map K E)) {w : World} {b : Nat} {L : List (α × Value)} (h : MapAt w mk b L) {z : Value} (hz : (zeroValue E).run P w = .ok z w) (a : α) (c : Bool) :
    (Instr.lookup T (.map (some b)) (mk a) c).run P w = .ok (if c then .tuple #[(getK L a).getD z, .bool (getK L a).isSome] else (getK L a).getD z) w := by
  obtain ⟨es, clock, h⟩ := h
  have hf := KO.find es.toList L a w h.ents
  rw [getK_eq]
  have hg := MapKept.run_getObj_map (P := P) h.obj
  have hc := KO.check es.isEmpty w a
  simp only [Instr.lookup, Sem.run_bind, run_underlying hT, hg, Result.andThen_ok, Sem.run_pure, hc, hf]
  cases hj : L.findIdx? fun p => decide (p.1 = a) with
  | none => cases c <;> simp [hz, Result.andThen]
  | some j =>
    obtain ⟨hj', _⟩ := List.findIdx?_eq_some_iff_getElem.1 hj
    cases c <;> simp [List.getElem?_eq_getElem hj']

theorem run_putF (KO : KeyF P K mk) {T E : TypeId} (hT : P.underlying T = some (.map K E)) {w : World} {b : Nat} {L : List (α × Value)} (h : MapAt w mk b L) (a : α) (v : Value) :
    ∃ w', (Instr.mapUpdate T (.map (some b)) (mk a) v).run P w = .ok () w' ∧ MapAt w' mk b (putK L a v) ∧ w.grownBy w' (some b) ∧ w'.heap.size = w.heap.size := by
  obtain ⟨es, clock, h⟩ := h
  have hf := KO.find es.toList L a w h.ents
  have hg := MapKept.run_getObj_map (P := P) h.obj
  have hc := KO.check false w a
  have hlen : es.size = L.length := by have := congrArg List.length h.ents; simpa using this
  cases hj : L.findIdx? fun p => decide (p.1 = a) with
  | none =>
    rw [hj] at hf
    refine ⟨setBlock w b (.map (es.push { key := mk a, val := v, born := clock }) (clock + 1)), ?_, ⟨_, _, ⟨heap_setBlock_same h.obj _, ?_, nodup_putK h.keys a v, ?_, ?_⟩⟩, grownBy_setBlock h.obj _, by simp [setBlock]⟩
    · simp only [Option.bind_none] at hf
      simp only [Instr.mapUpdate, Sem.run_bind, run_underlying hT, hg, Result.andThen_ok, hc, hf, MapKept.run_setObj_map _ h.obj]
      rfl
    · rw [putK_new hj]; simp [h.ents]
    · simp only [Array.toList_push, List.map_append, List.map_cons, List.map_nil]
      rw [List.nodup_append]
      refine ⟨h.stamps, by simp, fun x hx y hy => ?_⟩
      simp only [List.mem_singleton] at hy
      subst hy
      obtain ⟨e, he, rfl⟩ := List.mem_map.1 hx
      have := h.young e he
      omega
    · intro e he
      rw [Array.toList_push, List.mem_append] at he
      rcases he with he | he
      · have := h.young e he; omega
      · simp at he; subst he; simp
  | some j =>
    obtain ⟨hj', hja, _⟩ := List.findIdx?_eq_some_iff_getElem.1 hj
    rw [hj] at hf
    simp only [Option.bind_some, List.getElem?_eq_getElem hj', Option.map_some] at hf
    have hjs : j < es.size := by omega
    have hkey : es[j].key = mk a := by
      have e1 := congrArg (fun l => l[j]?) h.ents
      simp [List.getElem?_eq_getElem hj', hjs] at e1
      have : L[j].1 = a := by simpa using hja
      rw [e1.1, this]
    refine ⟨setBlock w b (.map (es.modify j fun e => { e with key := mk a, val := v }) clock), ?_, ⟨_, _, ⟨heap_setBlock_same h.obj _, ?_, nodup_putK h.keys a v, ?_, ?_⟩⟩, grownBy_setBlock h.obj _, by simp [setBlock]⟩
    · have hst : (Instr.keyThatStays (((es[j]?).map (·.key)).getD (mk a)) (mk a)).run P w = .ok (mk a) w := by
        simp [Instr.keyThatStays, Array.getElem?_eq_getElem hjs, hkey, KO.bits]
      simp only [Instr.mapUpdate, Sem.run_bind, run_underlying hT, hg, Result.andThen_ok, hc, hf, hst, MapKept.run_setObj_map _ h.obj]
      rfl
    · rw [putK_old hj, List.map_set, ← h.ents]
      refine List.ext_getElem? fun i => ?_
      simp only [List.getElem?_map, Array.getElem?_toList, Array.getElem?_modify, List.getElem?_set]
      by_cases hij : j = i
      · subst hij; simp [hjs]
      · simp [hij]
    · have e1 : (es.modify j fun e => { e with key := mk a, val := v }).toList.map (·.born) = es.toList.map (·.born) := by
        refine List.ext_getElem? fun i => ?_
        simp only [List.getElem?_map, Array.getElem?_toList, Array.getElem?_modify]
        by_cases hij : j = i
        · subst hij; simp [Array.getElem?_eq_getElem hjs]
        · simp [hij]
      rw [e1]; exact h.stamps
    · intro e he
      obtain ⟨i, hi, rfl⟩ := List.mem_iff_getElem.1 he
      simp only [Array.length_toList, Array.size_modify] at hi
      simp only [Array.getElem_toList, Array.getElem_modify]
      have := h.young es[i] (by simp)
      split <;> exact this

theorem run_delF (KO : KeyF P K mk) {T E : TypeId} (hT : P.underlying T = some (.map K E)) {w : World} {b : Nat} {L : List (α × Value)} (h : MapAt w mk b L) (a : α) :
    ∃ w', (∀ ty, (Builtin.delete_ #[T, K] ty #[.map (some b), mk a]).run P w = .ok (.tuple #[]) w') ∧ MapAt w' mk b (delK L a) ∧ w.grownBy w' (some b) ∧ w'.heap.size = w.heap.size := by
  obtain ⟨es, clock, h⟩ := h
  have hf := KO.find es.toList L a w h.ents
  have hg := MapKept.run_getObj_map (P := P) h.obj
  have hc := KO.check es.isEmpty w a
  have hlen : es.size = L.length := by have := congrArg List.length h.ents; simpa using this
  cases hj : L.findIdx? fun p => decide (p.1 = a) with
  | none =>
    rw [hj] at hf
    simp only [Option.bind_none] at hf
    refine ⟨setBlock w b (.map es clock), ?_, ⟨_, _, ⟨heap_setBlock_same h.obj _, ?_, ?_, h.stamps, h.young⟩⟩, grownBy_setBlock h.obj _, by simp [setBlock]⟩
    · intro ty
      simp only [Builtin.delete_, Sem.run_bind, run_underlying hT, hg, Result.andThen_ok, List.getElem?_toArray, List.getElem?_cons_zero, List.getElem?_cons_succ, hc, hf, MapKept.run_setObj_map _ h.obj]
      rfl
    · rw [delK_none hj]; exact h.ents
    · rw [delK_none hj]; exact h.keys
  | some j =>
    obtain ⟨hj', hja, _⟩ := List.findIdx?_eq_some_iff_getElem.1 hj
    rw [hj] at hf
    simp only [Option.bind_some, List.getElem?_eq_getElem hj', Option.map_some] at hf
    refine ⟨setBlock w b (.map (es.eraseIdxIfInBounds j) clock), ?_, ⟨_, _, ⟨heap_setBlock_same h.obj _, ?_, ?_, ?_, ?_⟩⟩, grownBy_setBlock h.obj _, by simp [setBlock]⟩
    · intro ty
      simp only [Builtin.delete_, Sem.run_bind, run_underlying hT, hg, Result.andThen_ok, List.getElem?_toArray, List.getElem?_cons_zero, List.getElem?_cons_succ, hc, hf, MapKept.run_setObj_map _ h.obj]
      rfl
    · rw [delK_some h.keys hj, Array.toList_eraseIdxIfInBounds, map_eraseIdx, map_eraseIdx, h.ents]
    · rw [delK_some h.keys hj, map_eraseIdx]; exact h.keys.sublist (List.eraseIdx_sublist _ _)
    · rw [Array.toList_eraseIdxIfInBounds, map_eraseIdx]; exact h.stamps.sublist (List.eraseIdx_sublist _ _)
    · intro e he
      rw [Array.toList_eraseIdxIfInBounds] at he
      exact h.young e (List.mem_of_mem_eraseIdx he)

end

/-- a pair as a key -/
def pairV (p : Int × Int) : Value := .agg #[.int .i64 p.1, .int .u64 p.2]

theorem eq_pair (a b : Int × Int) (w : World) : (Op.equal 63 (pairV a) (pairV b)).run Tryd.prog w = .ok (decide (a = b)) w := by
  have u3 := Tryd.underlying3
  have a3 := Tryd.isAgg3
  have z3 := Tryd.sizeOf3
  have u4 := Tryd.underlying29
  have a4 := Tryd.isAgg29
  have z4 := Tryd.sizeOf29
  have hS : Tryd.prog.underlying 63 = some (.struct (Tryd.prog.fieldsOf 63)) := by kernel_rfl
  have hp : Tryd.prog.stoodInHeld 63 = false := by kernel_rfl
  show (Op.equalIn 10000 _ _ _).run _ _ = _
  unfold pairV
  rw [show (10000 : Nat) = 9999 + 1 from rfl, run_equalIn_agg w 9999 63 _ _ hS hp]
  simp only [Program.fieldsOf, Tryd.underlying63]
  go_simp
  obtain ⟨a1, a2⟩ := a
  obtain ⟨b1, b2⟩ := b
  by_cases h1 : a1 = b1 <;> by_cases h2 : a2 = b2 <;> simp [h1, h2]

theorem pair_keyF : KeyF Tryd.prog 63 pairV where
  find es L a w h := by
    have hk : ∀ k e, Instr.sameNow (.struct (Tryd.prog.fieldsOf 63)) (pairV k) e = none := fun k e => by simp [Instr.sameNow, pairV]
    have hS : Tryd.prog.underlying 63 = some (.struct (Tryd.prog.fieldsOf 63)) := by kernel_rfl
    cases es with
    | nil =>
      cases L with
      | nil => simp [Instr.findKey, run_underlying hS, Instr.findNow, Result.andThen]
      | cons p L => simp at h
    | cons e es =>
      have := run_asking (P := Tryd.prog) eq_pair a (e :: es) L 0 w h
      simp only [Nat.zero_add] at this
      simp only [Instr.findKey, Sem.run_bind, run_underlying hS, Result.andThen_ok, Instr.findNow, hk]
      exact this
  check e w a := by
    have u3 := Tryd.underlying3
    have u4 := Tryd.underlying29
    have a3 := Tryd.isAgg3
    have z3 := Tryd.sizeOf3
    have a4 := Tryd.isAgg29
    have z4 := Tryd.sizeOf29
    have hc : ∀ t k x w, Tryd.prog.underlying t = some (.int k) → (Instr.checkKey e 9999 t (.int k x)).run Tryd.prog w = .ok () w := fun t k x w ht => by
      rw [show (9999 : Nat) = 9998 + 1 from rfl, Instr.checkKey]
      simp [run_underlying ht, Result.andThen]
    have h3 := hc 3 .i64 a.1
    have h4 := hc 29 .u64 a.2
    rw [show (10000 : Nat) = 9999 + 1 from rfl, Instr.checkKey]
    simp only [Sem.run_bind, run_underlying Tryd.underlying63, Result.andThen_ok, pairV]
    rw [← Array.forIn_toList]
    simp only [List.forIn_cons, List.forIn_nil]
    go_simp
  bits a := by simp [Instr.sameBits, pairV]

end Go.Proofs.YtfmlhdikagogcaaDoor
