/-
  gather: Ask, whole.
  gather: all are given up.
  gather: once more; the least stamp.
  gather: mail that was told is looked at; a gather between two calls.
  gather: sound numbers stay sound.
-/
import Derived.Test.YtfmlhdikagogcaaDoorJ40
import Derived.Test.YtfmlhdikagogcaaDoorJ41
import Derived.Test.YtfmlhdikagogcaaDoorJ42
import Derived.Test.YtfmlhdikagogcaaDoorJ43
import Derived.Test.YtfmlhdikagogcaaDoorJ20
import Derived.Test.YtfmlhdikagogcaaDoorJ32
import Derived.Test.YtfmlhdikagogcaaDoorJ39
namespace Go.Proofs.YtfmlhdikagogcaaDoor
open Go.RowKit
set_option maxRecDepth 20000


theorem ask
    (B c : Nat) (F R E : Nat → Prop) (g : Gz) (n : Nt) (vp vo vv vh : Value) (frm stamp mark : Int) (w : World) (hT : Tab w) (hG : GAt w B c F R g) (hB : B ≤ w.heap.size) (hok : GOk g) (hv : NoteV w E n vp vo vv vh) (hkd : 0 ≤ n.kind ∧ n.kind ≤ 255) (hlen : n.parts.length ≤ 1000000 ∧ n.ops.length ≤ 1000000 ∧ n.vec.length ≤ 1000000 ∧ n.hits.length ≤ 1000000)
    :
    Calls Tryd.prog 11 #[.pointer (some ⟨c, 0, none⟩), .int .i64 frm, .agg (n.cells vp vo vv vh), .int .u64 stamp, .int .u64 mark] w (GTold w B c F R (fun _ => False) (askZ g frm n stamp mark).1 (askZ g frm n stamp mark).2) := by
  cases hodd : oddB frm n 8
  · cases hfind : g.l.find? (isQ frm n) with
    | some q => exact askFound B c F R E g n vp vo vv vh frm stamp mark w hT hG hB hok hv hkd hlen hodd q hfind
    | none =>
      by_cases h0 : n.vec.length = 0
      · by_cases h8 : 8 ≤ g.l.length
        · exact askFull B c F R E g n vp vo vv vh frm stamp mark w hT hG hB hok hv hkd hlen hodd hfind (.inl h0) h8
        · exact askGet B c F R E g n vp vo vv vh frm stamp mark w hT hG hB hok hv hkd hlen hodd hfind h0 h8
      · by_cases hd : (n.vec.length : Int) = g.dim
        · by_cases h8 : 8 ≤ g.l.length
          · exact askFull B c F R E g n vp vo vv vh frm stamp mark w hT hG hB hok hv hkd hlen hodd hfind (.inr hd) h8
          · exact askAll B c F R E g n vp vo vv vh frm stamp mark w hT hG hB hok hv hkd hlen hodd hfind (by omega) hd h8
        · exact askForm B c F R E g n vp vo vv vh frm stamp mark w hT hG hB hok hv hkd hlen hodd hfind (by omega) hd
  · exact askOdd B c F R E g n vp vo vv vh frm stamp mark w hT hG hB hok hv hkd hlen hodd

theorem ask_nil (n : Nt) (vp vo vv vh : Value) (frm stamp mark : Int) (w : World) :
    Calls Tryd.prog 11 #[.pointer none, .int .i64 frm, .agg (n.cells vp vo vv vh), .int .u64 stamp, .int .u64 mark] w fun e w' => e = .returned (.slice none 0 0) ∧ Below w.heap.size w w' := by
  unfold Nt.cells
  go_enter Tryd.func11, Tryd.ntmps11
  go_wp2_with fail
  go_ret
  exact ⟨rfl, (Below.refl _ _).alloc (Nat.le_refl _) _⟩

end Go.Proofs.YtfmlhdikagogcaaDoor

namespace Go.Proofs.YtfmlhdikagogcaaDoor
open Go.RowKit
set_option maxRecDepth 20000

def quitL (g : Gz) : List (Int × Nt) := g.l.map fun q => (q.who, resN q.note.stamp q.query 12 [])

theorem quit_take (g : Gz) (k : Nat) (hk : k < g.l.length) : quitL {g with l := g.l.take (k + 1)} = quitL {g with l := g.l.take k} ++ [(g.l[k].who, resN g.l[k].note.stamp g.l[k].query 12 [])] := by
  unfold quitL
  simp only [List.take_succ_eq_append_getElem hk, List.map_append]
  rfl


/-- no question is left -/
theorem GIn.emptied {w wr w' : World} {B c : Nat} {F R : Nat → Prop} {g : Gz} {lv : Value} {Q : List Qp} (h : GIn w B c F R g lv Q) (hb : Below w.heap.size w wr) (hw : w' = wr.setCell ⟨c, 3, none⟩ (.slice none 0 0)) : GAt w' B c F R {g with l := []} ∧ Mod F w w' := by
  subst hw
  have hs := hb.size
  have hsz : (wr.setCell ⟨c, 3, none⟩ (.slice none 0 0)).heap.size = wr.heap.size := by simp [World.setCell]
  have hc : wr.heap[c]? = w.heap[c]? := hb.block c (h.low c h.here).2
  refine ⟨⟨.slice none 0 0, [], ?_⟩, (Mod.of_below hb).setCell (.inl h.here) _⟩
  refine ⟨?_, World.ownsRow_nil _ _ _ _, rfl, fun i h => absurd h (by simp), by simp, by simp, fun k h => by simp [Value.ownBlock] at h, fun q h => absurd h (by simp), h.here, fun k hk => ?_, fun k hk => ?_⟩
  · exact set_block (hc.trans h.obj) 3 _
  · have := h.low k hk; omega
  · have := h.apart k hk; exact ⟨by omega, this.2⟩

set_option maxHeartbeats 4000000 in
theorem quit (B c : Nat) (F R : Nat → Prop) (g : Gz) (w : World) (hG : GAt w B c F R g) (hB : B ≤ w.heap.size) (hl : g.l.length ≤ 1000) :
    Calls Tryd.prog 16 #[.pointer (some ⟨c, 0, none⟩)] w (GTold w B c F R (fun _ => False) (quitL g) {g with l := []}) := by
  obtain ⟨lv, Q, hI⟩ := hG
  obtain ⟨-, -, -, x3, fz⟩ := hI.get
  obtain ⟨p, m, cap, rfl⟩ := own_form hI.row
  obtain rfl : m = g.l.length := own_len hI.row
  have II := Lib.hid hI
  have HL := Lib.hid hl
  clear hI hl
  go_enter Tryd.func16, Tryd.ntmps16
  go_wp2_with fail
  go_loopg [3, 13] g.l.length (fun q out i wr => ∃ (k : Nat) (rs : List Mv) (G : Nat → Prop), q = g.l.length - k ∧ k ≤ g.l.length ∧ i = .int .i64 k ∧ rs.length = k ∧ wr.ownsRow w.heap.size 44 17 out rs.length (flatM rs) ∧ rs.map Mv.says = quitL {g with l := g.l.take k} ∧ MailF wr G rs ∧ (∀ k, G k → k < wr.heap.size ∧ out.ownBlock ≠ some k ∧ (w.heap.size ≤ k ∨ False)) ∧ Below w.heap.size w wr)
  case atStart => exact ⟨0, [], fun _ => False, rfl, by omega, rfl, rfl, World.ownsRow_nil _ _ _ _, rfl, fun r hr => absurd hr (by simp), fun _ h => h.elim, Below.refl _ _⟩
  case round =>
    obtain ⟨k, rs, G, rfl, hk, rfl, hlen, hown, hsay, hm, hF, hb⟩ := hrel
    by_cases hlt : k < g.l.length
    · have hI := II.out.below hb
      have hkQ : k < Q.length := by rw [hI.len]; exact hlt
      obtain ⟨b, rfl, -, c0⟩ := row_elem hI.row (i := k) (by simpa using hkQ)
      have c1 : wr.cell? ⟨b, k, none⟩ = some (.pointer (some ⟨Q[k].b, 0, none⟩)) := by rw [c0]; simp [Qp.ptr]
      have hq := hI.each k hkQ hlt
      obtain ⟨⟨-, -, -, x3', -⟩, -, -, -, x16, x17, -, -⟩ := hq.get
      have RS := Lib.hid (result Q[k].b _ _ _ 12 [] (.slice none 0 0) (fun _ => False) wr x3' x16 x17 (HitsF.nil _ _) (fun _ h => h.elim))
      obtain ⟨qo, no, co, rfl⟩ := own_form hown
      have O := Lib.hid (And.intro hown (And.intro hsay (And.intro hm (And.intro hF hb))))
      have LN := Lib.hid hlen
      have hkk : k ≤ 1000 := by have := HL.out; omega
      have hsz := hb.size
      clear hI hq x3' x16 x17 c0 hown hsay hm hF hb hlen x3
      go_wp2_with fail
      refine RS.out.mono ?_
      rintro e w4 ⟨v4, rs4, G4, rfl, ho4, hs4, hm4, hG4, hb4⟩
      obtain ⟨q4, n4, c4, rfl⟩ := own_form ho4
      have h41 : rs4.length = 1 := by have := congrArg List.length hs4; simpa using this
      obtain ⟨q5, n5, c5, w5, hrun, hown5, hg5, hat5⟩ := run_app rowMail (own_below O.out.1 hb4) (by have := hb4.size; omega) (SrcAt.of_own ho4) hm4.one (by have := LN.out; simp [maxLen]; omega) (by have := LN.out; omega)
      obtain rfl : n4 = rs4.length := own_len ho4
      have A := Lib.hid (mails_app (R := fun _ => False) O.out.1 O.out.2.2.1 O.out.2.2.2.1 O.out.2.2.2.2 (fun _ h => h.elim) hm4 (fun k hk => ⟨(hG4 k hk).1, (hG4 k hk).2.2⟩) hb4 hown5 hg5 hat5)
      have S4 := Lib.hid (And.intro hs4 h41)
      clear ho4 hs4 hm4 hG4 hb4 hown5 hg5 hat5 h41
      go_wp2_with (with_reducible refine wpList_append_eq hrun rfl _ _ rfl rfl rfl ?_)
      go_roundg (g.l.length - (k + 1))
      case measure => omega
      case rel =>
        obtain ⟨G', a1, a2, a3, a4⟩ := A.out
        exact ⟨k + 1, rs ++ rs4, G', rfl, by omega, by go_num, by have := LN.out; have := S4.out.2; simp; omega, a1, by rw [List.map_append, O.out.2.1, S4.out.1, quit_take g k hlt], a2, a3, a4⟩
    · obtain rfl : k = g.l.length := by omega
      obtain ⟨qo, no, co, rfl⟩ := own_form hown
      have hI := II.out.below hb
      obtain ⟨-, -, -, y3, yf⟩ := hI.get
      have yf3 := yf 3
      have O := Lib.hid (And.intro hown (And.intro hsay (And.intro hm (And.intro hF hb))))
      clear hI yf hown hsay hm hF hb hlen
      go_wp2_with fail
      go_returns
      obtain ⟨hown, hsay, hm, hF, hb⟩ := O.out
      obtain ⟨e1, e2⟩ := II.out.emptied hb rfl
      have hc := (II.out.low c II.out.here).2
      have hagree : ∀ k, k ≠ c → (wr.setCell ⟨c, 3, none⟩ (.slice none 0 0)).heap[k]? = wr.heap[k]? := fun k hk => Below.heap_setCell _ _ _ _ hk
      refine ⟨_, rs, G, F, R, rfl, ?_, by rw [hsay, List.take_length], ?_, fun k hk => ⟨?_, (hF k hk).2.1⟩, fun k hk hf => ?_, e1, e2, fun _ h => .inl h, fun _ h => .inl h⟩
      · exact hown.kept (grownBy_setCells c [.slice none 0 0] 3 wr) (.inr (by intro e; have := (hown.lt c e).1; omega))
      · refine hm.agree fun k hk => hagree k ?_
        rintro rfl
        rcases (hF _ hk).2.2 with h | h
        · omega
        · exact h
      · have := (hF k hk).1; simp [World.setCell]; exact this
      · have := (hown.lt k hk).1; have := (II.out.low k hf).2; omega

theorem quit_nil (w : World) :
    Calls Tryd.prog 16 #[.pointer none] w fun e w' => e = .returned (.slice none 0 0) ∧ w = w' := by
  go_enter Tryd.func16, Tryd.ntmps16
  go_wp2_with fail
  go_ret
  exact ⟨rfl, rfl⟩

end Go.Proofs.YtfmlhdikagogcaaDoor

namespace Go.Proofs.YtfmlhdikagogcaaDoor
open Go.RowKit
set_option maxRecDepth 20000

def wakeL (g : Gz) : List (Int × Nt) := g.l.flatMap looksZ

theorem wake_take (g : Gz) (k : Nat) (hk : k < g.l.length) : wakeL {g with l := g.l.take (k + 1)} = wakeL {g with l := g.l.take k} ++ looksZ g.l[k] := by
  unfold wakeL
  simp only [List.take_succ_eq_append_getElem hk, List.flatMap_append, List.flatMap_cons, List.flatMap_nil, List.append_nil]

set_option maxHeartbeats 4000000 in
theorem wake (B c : Nat) (F R : Nat → Prop) (g : Gz) (w : World) (hG : GAt w B c F R g) (hB : B ≤ w.heap.size) (hok : GOk g) :
    Calls Tryd.prog 21 #[.pointer (some ⟨c, 0, none⟩)] w (GTold w B c F R (fun _ => False) (wakeL g) g) := by
  obtain ⟨lv, Q, hI⟩ := hG
  obtain ⟨-, -, -, x3, fz⟩ := hI.get
  obtain ⟨p, m, cap, rfl⟩ := own_form hI.row
  obtain rfl : m = g.l.length := own_len hI.row
  have II := Lib.hid hI
  have OK := Lib.hid hok
  have hl8 := hok.most
  have HR := Lib.hid (show ∀ k, R k → k < w.heap.size from fun k hk => (hI.apart k hk).1)
  clear hI hok
  go_enter Tryd.func21, Tryd.ntmps21
  go_wp2_with fail
  go_loopg [3, 13] g.l.length (fun q out i wr => ∃ (k : Nat) (rs : List Mv) (G : Nat → Prop), q = g.l.length - k ∧ k ≤ g.l.length ∧ i = .int .i64 k ∧ rs.length ≤ k * 4 ∧ wr.ownsRow w.heap.size 44 17 out rs.length (flatM rs) ∧ rs.map Mv.says = wakeL {g with l := g.l.take k} ∧ MailF wr G rs ∧ (∀ k, G k → k < wr.heap.size ∧ out.ownBlock ≠ some k ∧ (w.heap.size ≤ k ∨ R k)) ∧ Below w.heap.size w wr)
  case atStart => exact ⟨0, [], fun _ => False, rfl, by omega, rfl, Nat.le_refl _, World.ownsRow_nil _ _ _ _, rfl, fun r hr => absurd hr (by simp), fun _ h => h.elim, Below.refl _ _⟩
  case round =>
    obtain ⟨k, rs, G, rfl, hk, rfl, hlen, hown, hsay, hm, hF, hb⟩ := hrel
    by_cases hlt : k < g.l.length
    · have hI := II.out.below hb
      have hkQ : k < Q.length := by rw [hI.len]; exact hlt
      obtain ⟨b, rfl, -, c0⟩ := row_elem hI.row (i := k) (by simpa using hkQ)
      have c1 : wr.cell? ⟨b, k, none⟩ = some (.pointer (some ⟨Q[k].b, 0, none⟩)) := by rw [c0]; simp [Qp.ptr]
      have hq := hI.each k hkQ hlt
      have hqk := OK.out.each g.l[k] (List.getElem_mem hlt)
      have RS := Lib.hid (looks g.l[k] R _ _ _ _ _ _ _ _ hq (by omega) (by omega))
      have PL := Lib.hid hqk.1
      obtain ⟨qo, no, co, rfl⟩ := own_form hown
      have O := Lib.hid (And.intro hown (And.intro hsay (And.intro hm (And.intro hF hb))))
      have LN := Lib.hid hlen
      have hsz := hb.size
      clear hI hq hqk c0 hown hsay hm hF hb hlen x3
      go_wp2_with fail
      refine RS.out.mono ?_
      rintro e w4 ⟨v4, rs4, G4, rfl, ho4, hs4, hm4, hG4, hb4⟩
      obtain ⟨q4, n4, c4, rfl⟩ := own_form ho4
      have h41 : rs4.length ≤ 4 := by have := congrArg List.length hs4; simp only [List.length_map, looksZ] at this; have h2 := List.length_filter_le (fun p => !hasTold g.l[k].told p) g.l[k].parts; have := PL.out; omega
      obtain ⟨q5, n5, c5, w5, hrun, hown5, hg5, hat5⟩ := run_app rowMail (own_below O.out.1 hb4) (by have := hb4.size; omega) (SrcAt.of_own ho4) hm4.one (by have := LN.out; simp [maxLen]; omega) (by have := LN.out; omega)
      obtain rfl : n4 = rs4.length := own_len ho4
      have A := Lib.hid (mails_app (R := R) O.out.1 O.out.2.2.1 O.out.2.2.2.1 O.out.2.2.2.2 HR.out hm4 (fun k hk => ⟨(hG4 k hk).1, (hG4 k hk).2.2⟩) hb4 hown5 hg5 hat5)
      have S4 := Lib.hid (And.intro hs4 h41)
      clear ho4 hs4 hm4 hG4 hb4 hown5 hg5 hat5 h41
      go_wp2_with (with_reducible refine wpList_append_eq hrun rfl _ _ rfl rfl rfl ?_)
      go_roundg (g.l.length - (k + 1))
      case measure => omega
      case rel =>
        obtain ⟨G', a1, a2, a3, a4⟩ := A.out
        exact ⟨k + 1, rs ++ rs4, G', rfl, by omega, by go_num, by have := LN.out; have := S4.out.2; simp; omega, a1, by rw [List.map_append, O.out.2.1, S4.out.1, wake_take g k hlt], a2, a3, a4⟩
    · obtain rfl : k = g.l.length := by omega
      obtain ⟨qo, no, co, rfl⟩ := own_form hown
      have O := Lib.hid (And.intro hown (And.intro hsay (And.intro hm (And.intro hF hb))))
      clear hown hsay hm hF hb hlen
      go_wp2_with fail
      go_ret
      obtain ⟨hown, hsay, hm, hF, hb⟩ := O.out
      exact ⟨_, rs, G, F, R, rfl, hown, by rw [hsay, List.take_length], hm, fun k hk => ⟨(hF k hk).1, (hF k hk).2.1⟩, fun k hk hf => by have := (hown.lt k hk).1; have := (II.out.low k hf).2; omega, ⟨_, _, II.out.below hb⟩, Mod.of_below hb, fun _ h => .inl h, fun _ h => .inl h⟩

theorem wake_nil (w : World) :
    Calls Tryd.prog 21 #[.pointer none] w fun e w' => e = .returned (.slice none 0 0) ∧ w = w' := by
  go_enter Tryd.func21, Tryd.ntmps21
  go_wp2_with fail
  go_ret
  exact ⟨rfl, rfl⟩

/-- the least stamp -/
def oldZ (l : List Qs) (s : Int) : Int := l.foldl (fun s q => min s q.note.stamp) s

theorem oldZ_take (l : List Qs) (s : Int) (k : Nat) (hk : k < l.length) : oldZ (l.take (k + 1)) s = min (oldZ (l.take k) s) l[k].note.stamp := by
  unfold oldZ
  rw [List.take_succ_eq_append_getElem hk, List.foldl_append]
  rfl

theorem min2 (a b : Int) (w : World) : (Builtin.min_ #[29, 29] 29 #[.int .u64 a, .int .u64 b]).run Tryd.prog w = .ok (.int .u64 (min a b)) w := by
  simp [Builtin.min_, Builtin.min2]
  by_cases h : b < a
  · simp [h]; omega
  · simp [h]; omega

theorem oldest (B c : Nat) (F R : Nat → Prop) (g : Gz) (s : Int) (w : World) (hG : GAt w B c F R g) (hl : g.l.length ≤ 1000) :
    Calls Tryd.prog 22 #[.pointer (some ⟨c, 0, none⟩), .int .u64 s] w fun e w' => e = .returned (.int .u64 (oldZ g.l s)) ∧ w = w' := by
  obtain ⟨lv, Q, hI⟩ := hG
  obtain ⟨-, -, -, x3, -⟩ := hI.get
  obtain ⟨p, m, cap, rfl⟩ := own_form hI.row
  obtain rfl : m = g.l.length := own_len hI.row
  have II := Lib.hid hI
  clear hI
  go_enter Tryd.func22, Tryd.ntmps22
  go_wp2_with fail
  go_loopg [1, 14] g.l.length (fun q s' i wr => ∃ k : Nat, q = g.l.length - k ∧ k ≤ g.l.length ∧ i = .int .i64 k ∧ s' = .int .u64 (oldZ (g.l.take k) s) ∧ w = wr)
  case atStart => exact ⟨0, rfl, by omega, rfl, rfl, rfl⟩
  case round =>
    obtain ⟨k, rfl, hk, rfl, rfl, rfl⟩ := hrel
    by_cases hlt : k < g.l.length
    · have hI := II.out
      have hkQ : k < Q.length := by rw [hI.len]; exact hlt
      obtain ⟨b, rfl, -, c0⟩ := row_elem hI.row (i := k) (by simpa using hkQ)
      have c1 : w.cell? ⟨b, k, none⟩ = some (.pointer (some ⟨Q[k].b, 0, none⟩)) := by rw [c0]; simp [Qp.ptr]
      obtain ⟨⟨-, -, -, x3', -⟩, -, -, -, -, -, -, -⟩ := (hI.each k hkQ hlt).get
      have OT := Lib.hid (oldZ_take g.l s k hlt)
      have hmn := min2 (oldZ (g.l.take k) s) g.l[k].note.stamp w
      clear hI c0
      go_wp2_with fail
      go_roundg (g.l.length - (k + 1))
      case measure => omega
      case rel => exact ⟨k + 1, rfl, by omega, by go_num, by rw [OT.out], rfl⟩
    · obtain rfl : k = g.l.length := by omega
      go_wp2_with fail
      go_ret
      exact ⟨ret_int (by rw [List.take_length]), rfl⟩

theorem oldest_nil (s : Int) (w : World) :
    Calls Tryd.prog 22 #[.pointer none, .int .u64 s] w fun e w' => e = .returned (.int .u64 s) ∧ w = w' := by
  go_enter Tryd.func22, Tryd.ntmps22
  go_wp2_with fail
  go_ret
  exact ⟨rfl, rfl⟩

end Go.Proofs.YtfmlhdikagogcaaDoor

namespace Go.Proofs.YtfmlhdikagogcaaDoor
open Go.RowKit
set_option maxRecDepth 20000

theorem mails_at {w : World} {B e m c : Nat} {rs : List Mv} {p : Option Addr} (h : w.ownsRow B e 17 (.slice p m c) rs.length (flatM rs)) (hi : 0 < rs.length) :
    ∃ b, p = some ⟨b, 0, none⟩ ∧ m = rs.length ∧ B ≤ b ∧ b < w.heap.size ∧ ∀ i j u (h1 : i < rs.length), rs[i].cells[j]? = some u → w.cell? ⟨b, i * 17 + j, none⟩ = some u := by
  obtain ⟨h1, ⟨h2, h3⟩ | ⟨g, cp, cur, hv, hb, hg, hn, hc, hs, ht⟩⟩ := h
  · omega
  · obtain ⟨rfl, rfl, rfl⟩ := Value.slice.inj hv
    refine ⟨g, rfl, rfl, hb, lt_block hg, fun i j u h1 hj => ?_⟩
    have hj17 : j < 17 := by
      rcases Nat.lt_or_ge j 17 with h | h
      · exact h
      · rw [List.getElem?_eq_none (by rw [Mv.cells_length]; exact h)] at hj; cases hj
    have : (cur.toList.take (rs.length * 17))[i * 17 + j]? = some u := by rw [ht, flatM_get _ _ h1 _ hj17]; exact hj
    rw [List.getElem?_take] at this
    split at this
    · simp only [World.cell?, hg]; simpa using this
    · cases this

theorem says_nil {rs : List Mv} (h : rs.map Mv.says = []) : rs = [] := by simpa using h

theorem says_cons {rs : List Mv} {x : Int} {n : Nt} {l : List (Int × Nt)} (h : rs.map Mv.says = (x, n) :: l) : ∃ vp vo vv vh rs', rs = ⟨x, n, vp, vo, vv, vh⟩ :: rs' ∧ rs'.map Mv.says = l := by
  cases rs with
  | nil => simp at h
  | cons r rs =>
    obtain ⟨a, b, c, d, e, f⟩ := r
    simp only [List.map_cons, List.cons.injEq, Mv.says, Prod.mk.injEq] at h
    obtain ⟨⟨rfl, rfl⟩, h⟩ := h
    exact ⟨c, d, e, f, rs, rfl, h⟩

/-- nothing below B has been touched -/
theorem GTold.below {w w' : World} {B c : Nat} {F R E : Nat → Prop} {l : List (Int × Nt)} {g' : Gz} {r : Ending} (h : GTold w B c F R E l g' r w') (hB : B ≤ w.heap.size) (hF : ∀ k, F k → B ≤ k) : Below B w w' := by
  obtain ⟨v, rs, G, F', R', -, -, -, -, -, -, -, hm, -⟩ := h
  exact hm.below hB hF

/-- a gather that lies above B, whatever else -/
def GHas (w : World) (B c : Nat) (g : Gz) : Prop := ∃ F R : Nat → Prop, GAt w B c F R g

theorem GAt.low {w : World} {B c : Nat} {F R : Nat → Prop} {g : Gz} (h : GAt w B c F R g) : ∀ k, F k → B ≤ k ∧ k < w.heap.size := by
  obtain ⟨lv, Q, h⟩ := h
  exact h.low

theorem GHas.below {w w' : World} {B c : Nat} {g : Gz} (h : GHas w B c g) (hb : Below w.heap.size w w') : GHas w' B c g := by
  obtain ⟨F, R, h⟩ := h
  exact ⟨F, R, h.below hb⟩

theorem GHas.mono {w : World} {B B' c : Nat} {g : Gz} (h : GHas w B c g) (hB : B' ≤ B) : GHas w B' c g := by
  obtain ⟨F, R, lv, Q, h⟩ := h
  exact ⟨F, R, lv, Q, h.obj, own_mono h.row hB, h.len, h.each, h.bs, h.mbs, h.lvF, h.mbF, h.here, fun k hk => ⟨Nat.le_trans hB (h.low k hk).1, (h.low k hk).2⟩, h.apart⟩

/-- what a call tells, whatever else -/
def GSays (w : World) (B c : Nat) (l : List (Int × Nt)) (g' : Gz) (r : Ending) (w' : World) : Prop :=
  ∃ v rs, ∃ G : Nat → Prop, r = .returned v ∧ w'.ownsRow w.heap.size 44 17 v rs.length (flatM rs) ∧ rs.map Mv.says = l ∧ MailF w' G rs ∧ (∀ k, G k → k < w'.heap.size) ∧ GHas w' B c g' ∧ Below B w w'

theorem GTold.says {w w' : World} {B c : Nat} {F R E : Nat → Prop} {l : List (Int × Nt)} {g' : Gz} {r : Ending} (h : GTold w B c F R E l g' r w') (hB : B ≤ w.heap.size) (hF : ∀ k, F k → B ≤ k) : GSays w B c l g' r w' := by
  have hb := h.below hB hF
  obtain ⟨v, rs, G, F', R', h1, h2, h3, h4, h5, h6, h7, -⟩ := h
  exact ⟨v, rs, G, h1, h2, h3, h4, fun k hk => (h5 k hk).1, ⟨F', R', h7⟩, hb⟩

theorem askS (B c : Nat) (g : Gz) (n : Nt) (vp vo vv vh : Value) (E : Nat → Prop) (frm stamp mark : Int) (w : World) (hT : Tab w) (hG : GHas w B c g) (hB : B ≤ w.heap.size) (hok : GOk g) (hv : NoteV w E n vp vo vv vh) (hkd : 0 ≤ n.kind ∧ n.kind ≤ 255) (hlen : n.parts.length ≤ 1000000 ∧ n.ops.length ≤ 1000000 ∧ n.vec.length ≤ 1000000 ∧ n.hits.length ≤ 1000000) {l : List (Int × Nt)} {g' : Gz} (hz : askZ g frm n stamp mark = (l, g')) :
    Calls Tryd.prog 11 #[.pointer (some ⟨c, 0, none⟩), .int .i64 frm, .agg (n.cells vp vo vv vh), .int .u64 stamp, .int .u64 mark] w (GSays w B c l g') := by
  obtain ⟨F, R, hG⟩ := hG
  have := ask B c F R E g n vp vo vv vh frm stamp mark w hT hG hB hok hv hkd hlen
  rw [hz] at this
  exact this.mono fun e w' h => h.says hB (fun k hk => (hG.low k hk).1)

/-- E: what lies above all that was there when the gather was last changed -/
theorem hearS (B c : Nat) (g : Gz) (n : Nt) (vp vo vv vh : Value) (frm : Int) (w0 w : World) (hT : Tab w) (hG : GHas w0 B c g) (hb : Below w0.heap.size w0 w) (hB : B ≤ w0.heap.size) (hok : GOk g) (hv : NoteV w (fun k => w0.heap.size ≤ k ∧ k < w.heap.size) n vp vo vv vh) (hkd : 0 ≤ n.kind ∧ n.kind ≤ 255) (hlen : n.parts.length ≤ 1000000 ∧ n.ops.length ≤ 1000000 ∧ n.vec.length ≤ 1000000 ∧ n.hits.length ≤ 1000000) {l : List (Int × Nt)} {g' : Gz} (hz : hearZ g frm n = (l, g')) :
    Calls Tryd.prog 13 #[.pointer (some ⟨c, 0, none⟩), .int .i64 frm, .agg (n.cells vp vo vv vh)] w (GSays w B c l g') := by
  obtain ⟨F, R, hG⟩ := hG
  have hB' : B ≤ w.heap.size := Nat.le_trans hB hb.size
  have := hear B c F R _ g n vp vo vv vh frm w hT (hG.below hb) hB' hok hv hkd hlen (fun k hk => ⟨hk.2, fun hf => by have := (hG.low k hf).2; omega⟩)
  rw [hz] at this
  exact this.mono fun e w' h => h.says hB' (fun k hk => (hG.low k hk).1)

theorem quitS (B c : Nat) (g : Gz) (w : World) (hG : GHas w B c g) (hB : B ≤ w.heap.size) (hl : g.l.length ≤ 1000) :
    Calls Tryd.prog 16 #[.pointer (some ⟨c, 0, none⟩)] w (GSays w B c (quitL g) {g with l := []}) := by
  obtain ⟨F, R, hG⟩ := hG
  exact (quit B c F R g w hG hB hl).mono fun e w' h => h.says hB (fun k hk => (hG.low k hk).1)

theorem wakeS (B c : Nat) (g : Gz) (w : World) (hG : GHas w B c g) (hB : B ≤ w.heap.size) (hok : GOk g) :
    Calls Tryd.prog 21 #[.pointer (some ⟨c, 0, none⟩)] w (GSays w B c (wakeL g) g) := by
  obtain ⟨F, R, hG⟩ := hG
  exact (wake B c F R g w hG hB hok).mono fun e w' h => h.says hB (fun k hk => (hG.low k hk).1)

theorem lenS (B c : Nat) (g : Gz) (w : World) (hG : GHas w B c g) :
    Calls Tryd.prog 15 #[.pointer (some ⟨c, 0, none⟩)] w fun e w' => e = .returned (.int .i64 g.l.length) ∧ w = w' := by
  obtain ⟨F, R, hG⟩ := hG
  exact glen B c F R g w hG

theorem oldestS (B c : Nat) (g : Gz) (s : Int) (w : World) (hG : GHas w B c g) (hl : g.l.length ≤ 1000) :
    Calls Tryd.prog 22 #[.pointer (some ⟨c, 0, none⟩), .int .u64 s] w fun e w' => e = .returned (.int .u64 (oldZ g.l s)) ∧ w = w' := by
  obtain ⟨F, R, hG⟩ := hG
  exact oldest B c F R g s w hG hl

theorem newS (shards dim base : Int) (w : World) (h : 1 ≤ shards ∧ shards ≤ 4 ∧ 1 ≤ dim ∧ dim ≤ 8) :
    Calls Tryd.prog 10 #[.int .i64 shards, .int .i64 dim, .int .u64 base] w fun e w' => ∃ c, e = .returned (.tuple #[.pointer (some ⟨c, 0, none⟩), .int .i64 0]) ∧ GHas w' w.heap.size c ⟨shards, dim, base, []⟩ ∧ Below w.heap.size w w' :=
  (newG shards dim base w h).mono fun e w' ⟨c, h1, h2, _, h4⟩ => ⟨c, h1, ⟨_, _, h2⟩, h4⟩

end Go.Proofs.YtfmlhdikagogcaaDoor

namespace Go.Proofs.YtfmlhdikagogcaaDoor
open Go.RowKit
set_option maxRecDepth 20000

theorem askQ_ok {g : Gz} (hg : GOk g) {frm stamp mark : Int} {n : Nt} (ho : oddB frm n 8 = false) : (askQ g frm n stamp mark).parts.length ≤ 4 ∧ (askQ g frm n stamp mark).note.vec.length ≤ 8 ∧ (askQ g frm n stamp mark).told.length < (askQ g frm n stamp mark).parts.length ∧ 0 ≤ (askQ g frm n stamp mark).note.k ∧ (askQ g frm n stamp mark).note.k ≤ 16 ∧ ∀ x ∈ (askQ g frm n stamp mark).told, x.2.length ≤ 16 ∧ ∀ h ∈ x.2, h.vec.length ≤ 8 := by
  have hr : rightN n = true := by unfold oddB at ho; simp at ho; exact ho.1.1.2
  have hk : n.kind = 8 := by unfold oddB at ho; simp at ho; exact ho.1.1.1
  have h1 := right_query hr hk
  have h2 := right_k hr
  have h3 := hg.shards
  refine ⟨?_, h1.2.1, ?_, h2.1, h2.2, fun x hx => absurd hx (by simp [askQ])⟩
  · unfold askQ
    split
    · simp
    · simp; omega
  · unfold askQ
    split
    · simp
    · simp; omega

theorem askZ_ok {g : Gz} (hg : GOk g) (frm : Int) (n : Nt) (stamp mark : Int) : GOk (askZ g frm n stamp mark).2 := by
  unfold askZ
  cases ho : oddB frm n 8
  · rw [if_neg (by simp)]
    cases g.l.find? (isQ frm n) with
    | some q => exact hg
    | none =>
      simp only
      split
      · exact hg
      · split
        · exact hg
        · rename_i h8
          refine ⟨by simp; omega, hg.shards, fun q hq => ?_⟩
          rcases List.mem_append.1 hq with hq | hq
          · exact hg.each q hq
          · rw [List.mem_singleton.1 hq]; exact askQ_ok hg ho
  · exact hg

theorem dropZ_ok {g : Gz} (hg : GOk g) (k : Nat) : GOk (dropZ g k) :=
  ⟨by have := List.length_eraseIdx_le g.l k; have := hg.most; simp only [dropZ]; omega, hg.shards, fun q hq => hg.each q (List.mem_of_mem_eraseIdx hq)⟩

theorem hearAt_ok {g : Gz} (hg : GOk g) {k : Nat} {q : Qs} (hq : q ∈ g.l) {frm : Int} {n : Nt} (ho : oddB frm n 10 = false) : GOk (hearAt g k q frm n).2 := by
  have hr := right_seen (n := n) (by unfold oddB at ho; simp at ho; exact ho.1.1.2) (by unfold oddB at ho; simp at ho; exact ho.1.1.1)
  unfold hearAt
  by_cases h1 : (hasTold q.told frm || !(q.parts.any fun y => decide (frm = y))) = true
  · rw [if_pos h1]; exact hg
  · rw [if_neg h1]
    by_cases h2 : n.code ≠ 0
    · rw [if_pos h2]; exact dropZ_ok hg k
    · rw [if_neg h2]
      by_cases h3 : q.told.length + 1 < q.parts.length
      · rw [if_pos h3]
        refine ⟨by simp [toldZ]; exact hg.most, hg.shards, fun x hx => ?_⟩
        rcases List.mem_or_eq_of_mem_set hx with hx | rfl
        · exact hg.each x hx
        · obtain ⟨a, b, c, d, e, f⟩ := hg.each q hq
          refine ⟨a, b, by simpa using h3, d, e, fun y hy => ?_⟩
          rcases List.mem_append.1 hy with hy | hy
          · exact f y hy
          · rw [List.mem_singleton.1 hy]
            refine ⟨hr.1, fun h hh => ?_⟩
            have := hr.2.1 h hh
            unfold badHit rightB at this
            simp at this
            omega
      · rw [if_neg h3]; exact dropZ_ok hg k

theorem hearZ_ok {g : Gz} (hg : GOk g) (frm : Int) (n : Nt) : GOk (hearZ g frm n).2 := by
  unfold hearZ
  cases ho : oddB frm n 10
  · rw [if_neg (by simp)]
    split
    · exact hg
    · split
      · exact hg
      · rename_i hk
        exact hearAt_ok hg (List.mem_of_getElem? hk) ho
  · exact hg

theorem quit_ok {g : Gz} (hg : GOk g) : GOk {g with l := []} := ⟨by simp, hg.shards, fun q hq => absurd hq (by simp)⟩

end Go.Proofs.YtfmlhdikagogcaaDoor
