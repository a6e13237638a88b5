/-
  disk: Write.
  disk: Drop.
-/
import Derived.Test.YtdcgooleiefljaaJ12
namespace Go.Proofs.Ytdcgooleiefljaa
open Go.RowKit Go.ChangeMaps Go.Shelf

/-- a Write's change, in one -/
theorem dkWrite1 (W : World) (B p m : Nat) (left : Int) (down : Bool) (room : Int) (F : List Fz) (bp bn bd : Nat) (name : List UInt8) (h : WrAt W B p m left down room F bd bn name) (pv : Value) (ls : List (List UInt8)) (hc : W.cell? ⟨bp, 0, none⟩ = some pv)
    (hP : Parts W pv ls) (hlen : Lib.lens ls ≤ 1000000) (hn : ls.length ≤ 1000000) (hu : usedF F ≤ 1000000000) (hfar : ∀ j, DkF p m F j → j ≠ bd ∧ j ≠ bn) :
    Calls Try.prog 24 #[.pointer (some ⟨bp, 0, none⟩), .pointer (some ⟨bn, 0, none⟩), .pointer (some ⟨bd, 0, none⟩)] W fun e w' => ∃ z, e = .returned (.int .i64 z) ∧
      ∃ F', (z, F'.map plain) = writeZ room (F.map plain) (usedF F) name ls.flatten ∧ DkAt w' B p m left down room F' ∧ DkStep W w' p m F F' := by
  unfold writeZ
  rw [any_plain, List.length_map]
  cases hrz : rightZ name with
  | false =>
    refine (dkWrite_form W B p m left down room F bp bn bd name h pv ls hc hP hlen hn hrz).mono ?_
    rintro e w' ⟨rfl, hb⟩
    exact ⟨_, rfl, F, by simp, h.at_.below hb, DkStep.below p m F hb⟩
  | true =>
    by_cases hfull : room < (usedF F + ls.flatten.length : Nat)
    · refine (dkWrite_room W B p m left down room F bp bn bd name h pv ls hc hP hlen hn hu hrz hfull).mono ?_
      rintro e w' ⟨rfl, hb⟩
      exact ⟨_, rfl, F, by rw [if_neg (by simp), if_pos (.inl hfull)], h.at_.below hb, DkStep.below p m F hb⟩
    · cases hin : inF F name with
      | true =>
        obtain ⟨F1, f, F2, hF, hnm⟩ := in_split hin
        refine (dkWrite_old W B p m left down room F F1 F2 f bp bn bd name h hF pv ls hc hP hlen hn hu hrz (by omega) hnm hfar).mono ?_
        rintro e w' ⟨rfl, v, hD, hS⟩
        refine ⟨_, rfl, _, ?_, hD, hS⟩
        rw [if_neg (by simp), if_neg (fun hh => hh.elim hfull fun h2 => absurd h2.1 (by simp)), hF, ← hnm, addF_mid v _ (by rw [← hF]; exact h.at_.names)]
      | false =>
        by_cases hmany : 16 ≤ F.length
        · refine (dkWrite_many W B p m left down room F bp bn bd name h pv ls hc hP hlen hn hu hrz (by omega) hin hmany).mono ?_
          rintro e w' ⟨rfl, hb⟩
          exact ⟨_, rfl, F, by rw [if_neg (by simp), if_pos (.inr ⟨rfl, hmany⟩)], h.at_.below hb, DkStep.below p m F hb⟩
        · refine (dkWrite_new W B p m left down room F bp bn bd name h pv ls hc hP hlen hn hu hrz (by omega) hin (by omega) hfar).mono ?_
          rintro e w' ⟨rfl, b, v, hD, hS⟩
          refine ⟨_, rfl, _, ?_, hD, hS⟩
          rw [if_neg (by simp), if_neg (fun hh => hh.elim hfull fun h2 => hmany h2.2), addF_new b v name _ hin]

/-- three variables of a call's own -/
def boxes3 (w : World) (a b c : Value) (ta tb tc : TypeId) : World := ((w.alloc (.cells #[a] ta)).alloc (.cells #[b] tb)).alloc (.cells #[c] tc)

theorem boxes3_cells (w : World) (a b c : Value) (ta tb tc : TypeId) : Below w.heap.size w (boxes3 w a b c ta tb tc) ∧ (boxes3 w a b c ta tb tc).cell? ⟨w.heap.size, 0, none⟩ = some a ∧ (boxes3 w a b c ta tb tc).cell? ⟨w.heap.size + 1, 0, none⟩ = some b ∧ (boxes3 w a b c ta tb tc).cell? ⟨w.heap.size + 2, 0, none⟩ = some c ∧ (boxes3 w a b c ta tb tc).heap.size = w.heap.size + 3 := by
  have h1 : (w.alloc (.cells #[a] ta)).cell? ⟨w.heap.size, 0, none⟩ = some a := by simp only [World.cell?, heap_alloc_new]; rfl
  have h2 : ((w.alloc (.cells #[a] ta)).alloc (.cells #[b] tb)).cell? ⟨w.heap.size + 1, 0, none⟩ = some b := by
    have := heap_alloc_new (w.alloc (.cells #[a] ta)) (.cells #[b] tb)
    rw [World.size_alloc] at this
    simp only [World.cell?, this]; rfl
  have h3 : (boxes3 w a b c ta tb tc).cell? ⟨w.heap.size + 2, 0, none⟩ = some c := by
    have := heap_alloc_new ((w.alloc (.cells #[a] ta)).alloc (.cells #[b] tb)) (.cells #[c] tc)
    rw [World.size_alloc, World.size_alloc] at this
    rw [show w.heap.size + 2 = w.heap.size + 1 + 1 from rfl]
    simp only [World.cell?, boxes3, this]; rfl
  refine ⟨(((Below.refl _ w).alloc (Nat.le_refl _) _).alloc (by simp) _).alloc (by simp; omega) _, ?_, ?_, h3, by simp [boxes3]⟩
  · exact below_cells ((Below.refl _ _).alloc (Nat.le_refl _) _) (below_cells ((Below.refl _ _).alloc (Nat.le_refl _) _) h1)
  · exact below_cells ((Below.refl _ _).alloc (Nat.le_refl _) _) h2

theorem cell_power {w w' : World} {p : Nat} (h : Mod (fun j => j = p) w w') {a : Addr} {v : Value} (hc : w.cell? a = some v) (hne : a.block ≠ p) : w'.cell? a = some v := by
  rw [World.cell?_of_block (h.block a.block (lt_of_cell hc) hne)]; exact hc

/-- what a change of the disk answers, and leaves -/
def Changed (w : World) (B p m : Nat) (left : Int) (down : Bool) (room : Int) (F : List Fz) (z : Int) (S : List (List UInt8 × List UInt8 × Nat)) (e : Ending) (w' : World) : Prop :=
  e = .returned (.int .i64 z) ∧ ∃ F', F'.map plain = S ∧ DkAt w' B p m left down room F' ∧ DkStep w w' p m F F'

set_option maxHeartbeats 4000000 in
theorem dkWrite (w : World) (B p m : Nat) (left : Int) (down : Bool) (room : Int) (F : List Fz) (h : DkAt w B p m left down room F) (hl : -1 ≤ left ∧ left ≤ 9223372036854775807) (name : List UInt8) (pv : Value) (ls : List (List UInt8))
    (hP : ∀ W, Mod (fun j => j = p) w W → Parts W pv ls) (hlen : Lib.lens ls ≤ 1000000) (hn : ls.length ≤ 1000000) (hu : usedF F ≤ 1000000000) :
    Calls Try.prog 10 #[.pointer (some ⟨p, 0, none⟩), strV name, pv] w fun e w' =>
      Changed w B p m (spendZ left down).2.1 (spendZ left down).2.2 room F (if (spendZ left down).1 then (writeZ room (F.map plain) (usedF F) name ls.flatten).1 else 9) (if (spendZ left down).1 then (writeZ room (F.map plain) (usedF F) name ls.flatten).2 else F.map plain) e w' := by
  obtain ⟨W3, hW3⟩ : ∃ W3, W3 = boxes3 w (.pointer (some ⟨p, 0, none⟩)) (strV name) pv 25 9 30 := ⟨_, rfl⟩
  obtain ⟨hb3, cd, cn, cp, hsz⟩ := boxes3_cells w (.pointer (some ⟨p, 0, none⟩)) (strV name) pv 25 9 30
  rw [← hW3] at hb3 cd cn cp hsz
  have h3 := h.below hb3
  have hlt := h.lt
  have hpl : p < w.heap.size := (hlt p (.inl rfl)).2
  have hc := dkChange W3 B p m left down room F h3 hl 24 (enters_of Try.func24 (by kernel_rfl) rfl) #[.pointer (some ⟨w.heap.size + 2, 0, none⟩), .pointer (some ⟨w.heap.size + 1, 0, none⟩), .pointer (some ⟨w.heap.size, 0, none⟩)] (.slice none 0 0) []
    (fun W _ => ⟨rfl, none, 0, rfl, by simp, by simp, by simp, by simp⟩)
    (fun z w' => ∃ F', z = (if (spendZ left down).1 then (writeZ room (F.map plain) (usedF F) name ls.flatten).1 else 9) ∧ F'.map plain = (if (spendZ left down).1 then (writeZ room (F.map plain) (usedF F) name ls.flatten).2 else F.map plain) ∧ DkAt w' B p m (spendZ left down).2.1 (spendZ left down).2.2 room F' ∧ DkStep W3 w' p m F F')
    (fun hs W hD hM => ⟨F, by simp [hs], by simp [hs], hD, DkStep.power p m F hM⟩)
    (fun hs hx => by simp at hx)
    (fun hs _ W hD hM => by
      have hmod : Mod (fun j => j = p) w W := (Mod.of_below hb3).trans hM fun k _ e => e
      refine (dkWrite1 W B p m _ _ room F (w.heap.size + 2) (w.heap.size + 1) w.heap.size name ⟨hD, cell_power hM cd (by simp; omega), cell_power hM cn (by simp; omega)⟩ pv ls (cell_power hM cp (by simp; omega)) (hP W hmod) hlen hn hu (fun j hj => by have := (hlt j hj).2; omega)).mono ?_
      rintro e w' ⟨z, rfl, F', hz, hD', hS'⟩
      refine ⟨z, rfl, F', ?_, ?_, hD', (DkStep.power p m F hM).trans hS'⟩
      · rw [hs, if_pos rfl, ← hz]
      · rw [hs, if_pos rfl, ← hz])
  have hpv : pv.oneCell' = true := by obtain ⟨vs, ⟨-, q, c, rfl, -⟩, -⟩ := hP w (Mod.refl _ _); rfl
  have HW := Lib.hid hW3
  have hB := Lib.hid hb3
  unfold boxes3 at HW
  clear hW3 hb3 cd cn cp hsz h3 hlt hpl h hP
  generalize (if (spendZ left down).1 = true then (writeZ room (F.map plain) (usedF F) name ls.flatten).1 else 9) = z0 at hc ⊢
  generalize (if (spendZ left down).1 = true then (writeZ room (F.map plain) (usedF F) name ls.flatten).2 else F.map plain) = S0 at hc ⊢
  go_enter Try.func10, Try.ntmps10
  go_wp2_with (go_at_call 23; rw [← HW.out]; refine hc.mono ?_; rintro e w' ⟨z, rfl, F', rfl, hF, hD, hS⟩; have R := Lib.hid (And.intro hF (And.intro hD hS)); clear hF hD hS)
  go_ret
  exact ⟨rfl, F', R.out.1, R.out.2.1, (DkStep.below p m F hB.out).trans R.out.2.2⟩

end Go.Proofs.Ytdcgooleiefljaa

namespace Go.Proofs.Ytdcgooleiefljaa
open Go.RowKit Go.ChangeMaps Go.Shelf

def dropS (S : List (List UInt8 × List UInt8 × Nat)) (ns : List (List UInt8)) : List (List UInt8 × List UInt8 × Nat) := ns.foldl (fun S n => S.filter fun s => decide (s.1 ≠ n)) S

theorem dropS_snoc (S : List (List UInt8 × List UInt8 × Nat)) (ns : List (List UInt8)) (n : List UInt8) : dropS S (ns ++ [n]) = (dropS S ns).filter fun s => decide (s.1 ≠ n) := by
  unfold dropS
  rw [List.foldl_append]
  rfl

theorem cell_map {α : Type} {mk : α → Value} {w w' : World} {m : Nat} {L : List (α × Value)} (hm : MapAt w mk m L) (h : Mod (fun j => j = m) w w') {a : Addr} {v : Value} (hc : w.cell? a = some v) : w'.cell? a = some v := by
  rw [World.cell?_of_block (h.block a.block (lt_of_cell hc) (hm.noCell hc))]; exact hc

theorem Reads.cells {w w' : World} {v : Value} {size n : Nat} {xs : List Value} (h : Reads w v size n xs) (hk : ∀ (a : Addr) (u : Value), w.cell? a = some u → w'.cell? a = some u) : Reads w' v size n xs := by
  obtain ⟨h0, p, cap, hv, h1, h2, h3, h4⟩ := h
  refine ⟨h0, p, cap, hv, h1, h2, h3, fun j u hj => ?_⟩
  obtain ⟨b, off, hp, hc⟩ := h4 j u hj
  exact ⟨b, off, hp, hk _ _ hc⟩

/-- a file is struck -/
theorem DkAt.strike {w : World} {B p m : Nat} {left : Int} {down : Bool} {room : Int} {F : List Fz} (h : DkAt w B p m left down room F) (n : List UInt8) :
    ∃ w1 F', (∀ ty, (Builtin.delete_ #[54, 9] ty #[.map (some m), strV n]).run Try.prog w = .ok (.tuple #[]) w1) ∧ F' = F.filter (fun f => decide (f.name ≠ n)) ∧ F'.map plain = (F.map plain).filter (fun s => decide (s.1 ≠ n)) ∧ DkAt w1 B p m left down room F' ∧ DkStep w w1 p m F F' ∧ Mod (fun j => j = m) w w1 := by
  obtain ⟨w1, hr, hm, hg, hsz⟩ := run_del KOS Try.underlying54 h.files n
  have he : delK (filesL F) n = filesL (F.filter fun f => decide (f.name ≠ n)) := by
    unfold delK filesL
    rw [List.filter_map]
    rfl
  rw [he] at hm
  have hmod : Mod (fun j => j = m) w w1 := (Mod.refl _ w).grown hg (fun k hk => .inl (by cases hk; rfl))
  obtain ⟨h1, h2⟩ := h.maps hm hmod (fun f hf => ⟨f, (List.mem_filter.1 hf).1, rfl, rfl, rfl, rfl⟩) (h.blks.sublist (List.filter_sublist.map _)) (h.apart.sublist List.filter_sublist)
  refine ⟨w1, _, hr, rfl, ?_, h1, h2, hmod⟩
  rw [List.filter_map]
  rfl

set_option maxHeartbeats 4000000 in
theorem dkDrop1 (W : World) (B p m : Nat) (left : Int) (down : Bool) (room : Int) (F : List Fz) (h : DkAt W B p m left down room F) (bn bd : Nat) (nv : Value) (names : List (List UInt8)) (hn : Strs W nv names) (cn : W.cell? ⟨bn, 0, none⟩ = some nv) (cd : W.cell? ⟨bd, 0, none⟩ = some (.pointer (some ⟨p, 0, none⟩))) :
    Calls Try.prog 29 #[.pointer (some ⟨bn, 0, none⟩), .pointer (some ⟨bd, 0, none⟩)] W fun e w' => ∃ z, e = .returned (.int .i64 z) ∧ ∃ F', z = 0 ∧ F'.map plain = dropS (F.map plain) names ∧ DkAt w' B p m left down room F' ∧ DkStep W w' p m F F' := by
  obtain ⟨np, ncap, rfl, hN⟩ := hn.form
  obtain ⟨k, hk⟩ : ∃ k, k = names.length := ⟨_, rfl⟩
  rw [← hk] at cn hN hn
  have HK := Lib.hid hk
  have HN := Lib.hid hn
  have HC := Lib.hid cd
  have H := Lib.hid h
  clear hn hk h cd
  go_enter Try.func29, Try.ntmps29
  go_wp2_with fail
  go_loopg [4, 7] k (fun q _ i wr => ∃ (j : Nat) (Fj : List Fz), q = k - j ∧ j ≤ k ∧ i = .int .i64 j ∧ Fj.map plain = dropS (F.map plain) (names.take j) ∧ DkAt wr B p m left down room Fj ∧ DkStep W wr p m F Fj ∧ Mod (fun j => j = m) W wr)
  case atStart => exact ⟨0, F, rfl, by omega, rfl, rfl, H.out, DkStep.refl _ _ _ _, Mod.refl _ _⟩
  case round =>
    obtain ⟨j, Fj, rfl, hj, rfl, hpl, hD, hS, hM⟩ := hrel
    by_cases hlt : j < k
    · have hlt' : j < names.length := by have := HK.out; omega
      have hsl := HN.out.cells (w' := wr) fun a u hc => cell_map H.out.files hM hc
      obtain ⟨b, off, rfl, hcell⟩ := hsl.one (j := j) (by simpa using hlt')
      rw [List.getElem_map] at hcell
      have c3 : wr.cell? ⟨p, 3, none⟩ = some (.map (some m)) := by simp [World.cell?, hD.cell]
      have cd := cell_map H.out.files hM HC.out
      obtain ⟨x, hx⟩ : ∃ x, x = names[j] := ⟨_, rfl⟩
      rw [← hx] at hcell
      obtain ⟨w1, F', hdel, -, hp1, hD1, hS1, hM1⟩ := hD.strike x
      have A := Lib.hid (show F'.map plain = dropS (F.map plain) (names.take (j + 1)) ∧ DkAt w1 B p m left down room F' ∧ DkStep W w1 p m F F' ∧ Mod (fun j => j = m) W w1 from
        ⟨by rw [List.take_succ_eq_append_getElem hlt', dropS_snoc, ← hx, ← hpl]; exact hp1, hD1, hS.trans hS1, hM.trans hM1 fun k _ e => e⟩)
      clear hx hsl hpl hD hS hM hp1 hD1 hS1 hM1
      go_wp2_with fail
      go_roundg (k - (j + 1))
      case measure => omega
      case rel => exact ⟨j + 1, F', rfl, by omega, by go_num, A.out⟩
    · obtain rfl : j = k := by omega
      have A := Lib.hid (And.intro hpl (And.intro hD hS))
      clear hpl hD hS hM
      go_wp2_with fail
      go_ret
      exact ⟨_, rfl, Fj, rfl, by have := A.out.1; rwa [HK.out, List.take_length] at this, A.out.2.1, A.out.2.2⟩

/-- two variables of a call's own -/
def boxes2 (w : World) (a b : Value) (ta tb : TypeId) : World := (w.alloc (.cells #[a] ta)).alloc (.cells #[b] tb)

theorem boxes2_cells (w : World) (a b : Value) (ta tb : TypeId) : Below w.heap.size w (boxes2 w a b ta tb) ∧ (boxes2 w a b ta tb).cell? ⟨w.heap.size, 0, none⟩ = some a ∧ (boxes2 w a b ta tb).cell? ⟨w.heap.size + 1, 0, none⟩ = some b ∧ (boxes2 w a b ta tb).heap.size = w.heap.size + 2 := by
  have h1 : (w.alloc (.cells #[a] ta)).cell? ⟨w.heap.size, 0, none⟩ = some a := by simp only [World.cell?, heap_alloc_new]; rfl
  have h2 : (boxes2 w a b ta tb).cell? ⟨w.heap.size + 1, 0, none⟩ = some b := by
    have := heap_alloc_new (w.alloc (.cells #[a] ta)) (.cells #[b] tb)
    rw [World.size_alloc] at this
    simp only [World.cell?, boxes2, this]; rfl
  exact ⟨((Below.refl _ w).alloc (Nat.le_refl _) _).alloc (by simp) _, below_cells ((Below.refl _ _).alloc (Nat.le_refl _) _) h1, h2, by simp [boxes2]⟩

/-- the answer of a change of files that must be there -/
def thereZ (S : List (List UInt8 × List UInt8 × Nat)) (names : List (List UInt8)) : Bool := names.all fun n => S.any fun s => decide (s.1 = n)

theorem all_plain (F : List Fz) (names : List (List UInt8)) : names.all (inF F) = thereZ (F.map plain) names := by
  unfold thereZ
  congr 1
  funext n
  exact (any_plain F n).symm

set_option maxHeartbeats 4000000 in
theorem dkDrop (w : World) (B p m : Nat) (left : Int) (down : Bool) (room : Int) (F : List Fz) (h : DkAt w B p m left down room F) (hl : -1 ≤ left ∧ left ≤ 9223372036854775807) (nv : Value) (names : List (List UInt8)) (hn : ∀ W, Mod (fun j => j = p) w W → Strs W nv names) :
    Calls Try.prog 12 #[.pointer (some ⟨p, 0, none⟩), nv] w fun e w' =>
      Changed w B p m (spendZ left down).2.1 (spendZ left down).2.2 room F (if (spendZ left down).1 then (if thereZ (F.map plain) names then 0 else 6) else 9) (if (spendZ left down).1 && thereZ (F.map plain) names then dropS (F.map plain) names else F.map plain) e w' := by
  obtain ⟨W3, hW3⟩ : ∃ W3, W3 = boxes2 w (.pointer (some ⟨p, 0, none⟩)) nv 25 29 := ⟨_, rfl⟩
  obtain ⟨hb3, cd, cn, hsz⟩ := boxes2_cells w (.pointer (some ⟨p, 0, none⟩)) nv 25 29
  rw [← hW3] at hb3 cd cn hsz
  have h3 := h.below hb3
  have hlt := h.lt
  have hpl : p < w.heap.size := (hlt p (.inl rfl)).2
  have hmod : ∀ W, Mod (fun j => j = p) W3 W → Mod (fun j => j = p) w W := fun W hM => (Mod.of_below hb3).trans hM fun k _ e => e
  have hc := dkChange W3 B p m left down room F h3 hl 29 (enters_of Try.func29 (by kernel_rfl) rfl) #[.pointer (some ⟨w.heap.size + 1, 0, none⟩), .pointer (some ⟨w.heap.size, 0, none⟩)] nv names
    (fun W hM => hn W (hmod W hM))
    (fun z w' => ∃ F', z = (if (spendZ left down).1 then (if thereZ (F.map plain) names then 0 else 6) else 9) ∧ F'.map plain = (if (spendZ left down).1 && thereZ (F.map plain) names then dropS (F.map plain) names else F.map plain) ∧ DkAt w' B p m (spendZ left down).2.1 (spendZ left down).2.2 room F' ∧ DkStep W3 w' p m F F')
    (fun hs W hD hM => ⟨F, by simp [hs], by simp [hs], hD, DkStep.power p m F hM⟩)
    (fun hs hx W hD hM => ⟨F, by rw [← all_plain]; simp [hs, hx], by rw [← all_plain]; simp [hs, hx], hD, DkStep.power p m F hM⟩)
    (fun hs hx W hD hM => by
      refine (dkDrop1 W B p m _ _ room F hD (w.heap.size + 1) w.heap.size nv names (hn W (hmod W hM)) (cell_power hM cn (by simp; omega)) (cell_power hM cd (by simp; omega))).mono ?_
      rintro e w' ⟨z, rfl, F', rfl, hF, hD', hS'⟩
      refine ⟨0, rfl, F', ?_, ?_, hD', (DkStep.power p m F hM).trans hS'⟩
      · rw [← all_plain]; simp [hs, hx]
      · rw [← all_plain, hF]; simp [hs, hx])
  obtain ⟨np, ncap, rfl, -⟩ := (hn w (Mod.refl _ _)).form
  have HW := Lib.hid hW3
  have hB := Lib.hid hb3
  unfold boxes2 at HW
  clear hW3 hb3 cd cn hsz h3 hlt hpl h hn hmod
  generalize (if (spendZ left down).1 = true then (if thereZ (F.map plain) names = true then (0 : Int) else 6) else 9) = z0 at hc ⊢
  generalize (if ((spendZ left down).1 && thereZ (F.map plain) names) = true then dropS (F.map plain) names else F.map plain) = S0 at hc ⊢
  go_enter Try.func12, Try.ntmps12
  go_wp2_with (go_at_call 23; rw [← HW.out]; refine hc.mono ?_; rintro e w' ⟨z, rfl, F', rfl, hF, hD, hS⟩; have R := Lib.hid (And.intro hF (And.intro hD hS)); clear hF hD hS)
  go_ret
  exact ⟨rfl, F', R.out.1, R.out.2.1, (DkStep.below p m F hB.out).trans R.out.2.2⟩

end Go.Proofs.Ytdcgooleiefljaa
