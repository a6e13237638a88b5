/-
  gather: once more; the least stamp.
-/
import Derived.Test.YtfmlhdikagogcaaDoorJ22
namespace Go.Proofs.YtfmlhdikagogcaaDoor
open Go.RowKit
set_option maxRecDepth 20000

def wakeL (g : Gz) : List (Int × Nt) := g.l.flatMap looksZ

theorem wake_take (g : Gz) (k : Nat) (hk : k < g.l.length) : wakeL {g with l := g.l.take (k + 1)} = wakeL {g with l := g.l.take k} ++ looksZ g.l[k] := by
  unfold wakeL
  simp only [List.take_succ_eq_append_getElem hk, List.flatMap_append, List.flatMap_cons, List.flatMap_nil, List.append_nil]

set_option maxHeartbeats 4000000 in
theorem wake (B c : Nat) (F R : Nat → Prop) (g : Gz) (w : World) (hG : GAt w B c F R g) (hB : B ≤ w.heap.size) (hok : GOk g) :
    Calls Tryd.prog 21 #[.pointer (some ⟨c, 0, none⟩)] w (GTold w B c F R (fun _ => False) (wakeL g) g) := by
  obtain ⟨lv, Q, hI⟩ := hG
  obtain ⟨-, -, -, x3, fz⟩ := hI.get
  obtain ⟨p, m, cap, rfl⟩ := own_form hI.row
  obtain rfl : m = g.l.length := own_len hI.row
  have II := Lib.hid hI
  have OK := Lib.hid hok
  have hl8 := hok.most
  have HR := Lib.hid (show ∀ k, R k → k < w.heap.size from fun k hk => (hI.apart k hk).1)
  clear hI hok
  go_enter Tryd.func21, Tryd.ntmps21
  go_wp2_with fail
  go_loopg [3, 13] g.l.length (fun q out i wr => ∃ (k : Nat) (rs : List Mv) (G : Nat → Prop), q = g.l.length - k ∧ k ≤ g.l.length ∧ i = .int .i64 k ∧ rs.length ≤ k * 4 ∧ wr.ownsRow w.heap.size 44 17 out rs.length (flatM rs) ∧ rs.map Mv.says = wakeL {g with l := g.l.take k} ∧ MailF wr G rs ∧ (∀ k, G k → k < wr.heap.size ∧ out.ownBlock ≠ some k ∧ (w.heap.size ≤ k ∨ R k)) ∧ Below w.heap.size w wr)
  case atStart => exact ⟨0, [], fun _ => False, rfl, by omega, rfl, Nat.le_refl _, World.ownsRow_nil _ _ _ _, rfl, fun r hr => absurd hr (by simp), fun _ h => h.elim, Below.refl _ _⟩
  case round =>
    obtain ⟨k, rs, G, rfl, hk, rfl, hlen, hown, hsay, hm, hF, hb⟩ := hrel
    by_cases hlt : k < g.l.length
    · have hI := II.out.below hb
      have hkQ : k < Q.length := by rw [hI.len]; exact hlt
      obtain ⟨b, rfl, -, c0⟩ := row_elem hI.row (i := k) (by simpa using hkQ)
      have c1 : wr.cell? ⟨b, k, none⟩ = some (.pointer (some ⟨Q[k].b, 0, none⟩)) := by rw [c0]; simp [Qp.ptr]
      have hq := hI.each k hkQ hlt
      have hqk := OK.out.each g.l[k] (List.getElem_mem hlt)
      have RS := Lib.hid (looks g.l[k] R _ _ _ _ _ _ _ _ hq (by omega) (by omega))
      have PL := Lib.hid hqk.1
      obtain ⟨qo, no, co, rfl⟩ := own_form hown
      have O := Lib.hid (And.intro hown (And.intro hsay (And.intro hm (And.intro hF hb))))
      have LN := Lib.hid hlen
      have hsz := hb.size
      clear hI hq hqk c0 hown hsay hm hF hb hlen x3
      go_wp2_with fail
      refine RS.out.mono ?_
      rintro e w4 ⟨v4, rs4, G4, rfl, ho4, hs4, hm4, hG4, hb4⟩
      obtain ⟨q4, n4, c4, rfl⟩ := own_form ho4
      have h41 : rs4.length ≤ 4 := by have := congrArg List.length hs4; simp only [List.length_map, looksZ] at this; have h2 := List.length_filter_le (fun p => !hasTold g.l[k].told p) g.l[k].parts; have := PL.out; omega
      obtain ⟨q5, n5, c5, w5, hrun, hown5, hg5, hat5⟩ := run_app rowMail (own_below O.out.1 hb4) (by have := hb4.size; omega) (SrcAt.of_own ho4) hm4.one (by have := LN.out; simp [maxLen]; omega) (by have := LN.out; omega)
      obtain rfl : n4 = rs4.length := own_len ho4
      have A := Lib.hid (mails_app (R := R) O.out.1 O.out.2.2.1 O.out.2.2.2.1 O.out.2.2.2.2 HR.out hm4 (fun k hk => ⟨(hG4 k hk).1, (hG4 k hk).2.2⟩) hb4 hown5 hg5 hat5)
      have S4 := Lib.hid (And.intro hs4 h41)
      clear ho4 hs4 hm4 hG4 hb4 hown5 hg5 hat5 h41
      go_wp2_with (with_reducible refine wpList_append_eq hrun rfl _ _ rfl rfl rfl ?_)
      go_roundg (g.l.length - (k + 1))
      case measure => omega
      case rel =>
        obtain ⟨G', a1, a2, a3, a4⟩ := A.out
        exact ⟨k + 1, rs ++ rs4, G', rfl, by omega, by go_num, by have := LN.out; have := S4.out.2; simp; omega, a1, by rw [List.map_append, O.out.2.1, S4.out.1, wake_take g k hlt], a2, a3, a4⟩
    · obtain rfl : k = g.l.length := by omega
      obtain ⟨qo, no, co, rfl⟩ := own_form hown
      have O := Lib.hid (And.intro hown (And.intro hsay (And.intro hm (And.intro hF hb))))
      clear hown hsay hm hF hb hlen
      go_wp2_with fail
      go_ret
      obtain ⟨hown, hsay, hm, hF, hb⟩ := O.out
      exact ⟨_, rs, G, F, R, rfl, hown, by rw [hsay, List.take_length], hm, fun k hk => ⟨(hF k hk).1, (hF k hk).2.1⟩, fun k hk hf => by have := (hown.lt k hk).1; have := (II.out.low k hf).2; omega, ⟨_, _, II.out.below hb⟩, Mod.of_below hb, fun _ h => .inl h, fun _ h => .inl h⟩

theorem wake_nil (w : World) :
    Calls Tryd.prog 21 #[.pointer none] w fun e w' => e = .returned (.slice none 0 0) ∧ w = w' := by
  go_enter Tryd.func21, Tryd.ntmps21
  go_wp2_with fail
  go_ret
  exact ⟨rfl, rfl⟩

/-- the least stamp -/
def oldZ (l : List Qs) (s : Int) : Int := l.foldl (fun s q => min s q.note.stamp) s

theorem oldZ_take (l : List Qs) (s : Int) (k : Nat) (hk : k < l.length) : oldZ (l.take (k + 1)) s = min (oldZ (l.take k) s) l[k].note.stamp := by
  unfold oldZ
  rw [List.take_succ_eq_append_getElem hk, List.foldl_append]
  rfl

theorem min2 (a b : Int) (w : World) : (Builtin.min_ #[29, 29] 29 #[.int .u64 a, .int .u64 b]).run Tryd.prog w = .ok (.int .u64 (min a b)) w := by
  simp [Builtin.min_, Builtin.min2]
  by_cases h : b < a
  · simp [h]; omega
  · simp [h]; omega

theorem oldest (B c : Nat) (F R : Nat → Prop) (g : Gz) (s : Int) (w : World) (hG : GAt w B c F R g) (hl : g.l.length ≤ 1000) :
    Calls Tryd.prog 22 #[.pointer (some ⟨c, 0, none⟩), .int .u64 s] w fun e w' => e = .returned (.int .u64 (oldZ g.l s)) ∧ w = w' := by
  obtain ⟨lv, Q, hI⟩ := hG
  obtain ⟨-, -, -, x3, -⟩ := hI.get
  obtain ⟨p, m, cap, rfl⟩ := own_form hI.row
  obtain rfl : m = g.l.length := own_len hI.row
  have II := Lib.hid hI
  clear hI
  go_enter Tryd.func22, Tryd.ntmps22
  go_wp2_with fail
  go_loopg [1, 14] g.l.length (fun q s' i wr => ∃ k : Nat, q = g.l.length - k ∧ k ≤ g.l.length ∧ i = .int .i64 k ∧ s' = .int .u64 (oldZ (g.l.take k) s) ∧ w = wr)
  case atStart => exact ⟨0, rfl, by omega, rfl, rfl, rfl⟩
  case round =>
    obtain ⟨k, rfl, hk, rfl, rfl, rfl⟩ := hrel
    by_cases hlt : k < g.l.length
    · have hI := II.out
      have hkQ : k < Q.length := by rw [hI.len]; exact hlt
      obtain ⟨b, rfl, -, c0⟩ := row_elem hI.row (i := k) (by simpa using hkQ)
      have c1 : w.cell? ⟨b, k, none⟩ = some (.pointer (some ⟨Q[k].b, 0, none⟩)) := by rw [c0]; simp [Qp.ptr]
      obtain ⟨⟨-, -, -, x3', -⟩, -, -, -, -, -, -, -⟩ := (hI.each k hkQ hlt).get
      have OT := Lib.hid (oldZ_take g.l s k hlt)
      have hmn := min2 (oldZ (g.l.take k) s) g.l[k].note.stamp w
      clear hI c0
      go_wp2_with fail
      go_roundg (g.l.length - (k + 1))
      case measure => omega
      case rel => exact ⟨k + 1, rfl, by omega, by go_num, by rw [OT.out], rfl⟩
    · obtain rfl : k = g.l.length := by omega
      go_wp2_with fail
      go_ret
      exact ⟨ret_int (by rw [List.take_length]), rfl⟩

theorem oldest_nil (s : Int) (w : World) :
    Calls Tryd.prog 22 #[.pointer none, .int .u64 s] w fun e w' => e = .returned (.int .u64 s) ∧ w = w' := by
  go_enter Tryd.func22, Tryd.ntmps22
  go_wp2_with fail
  go_ret
  exact ⟨rfl, rfl⟩

end Go.Proofs.YtfmlhdikagogcaaDoor
