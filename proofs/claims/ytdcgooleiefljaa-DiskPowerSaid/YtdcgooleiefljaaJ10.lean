/-
  disk: what a Write does once it has its power.
-/
import Derived.Test.YtdcgooleiefljaaJ09
import Derived.Test.YtdcgooleiefljaaJ05
namespace Go.Proofs.Ytdcgooleiefljaa
open Go.RowKit Go.ChangeMaps Go.Shelf

theorem infoB : (Try.prog.info? 5).map (fun i => (i.zero, i.size, i.bytes)) = some (some (.int .u8 0), 1, 1) := by kernel_rfl
theorem rowB : RowTy Try.prog 37 5 1 1 (.int .u8 0) := ⟨Try.underlying37, infoB, rfl, by decide⟩

/-- a file, plainly: its name, its bytes, how many are firm -/
def plain (f : Fz) : List UInt8 × List UInt8 × Nat := (f.name, f.bytes, f.firm)

/-- more bytes -/
def addF (name all : List UInt8) (S : List (List UInt8 × List UInt8 × Nat)) : List (List UInt8 × List UInt8 × Nat) :=
  if S.any (fun s => decide (s.1 = name)) then S.map fun s => if s.1 = name then (s.1, s.2.1 ++ all, s.2.2) else s else S ++ [(name, all, 0)]

/-- what a Write answers, and what is on the disk behind it -/
def writeZ (room : Int) (S : List (List UInt8 × List UInt8 × Nat)) (used : Nat) (name all : List UInt8) : Int × List (List UInt8 × List UInt8 × Nat) :=
  if rightZ name = false then (4, S)
  else if room < (used + all.length : Nat) ∨ (S.any (fun s => decide (s.1 = name)) = false ∧ 16 ≤ S.length) then (8, S)
  else (0, addF name all S)

/-- the disk, and two variables that a change has: the disk's, the name's -/
structure WrAt (w : World) (B p m : Nat) (left : Int) (down : Bool) (room : Int) (F : List Fz) (bd bn : Nat) (name : List UInt8) : Prop where
  at_ : DkAt w B p m left down room F
  disk : w.cell? ⟨bd, 0, none⟩ = some (.pointer (some ⟨p, 0, none⟩))
  name : w.cell? ⟨bn, 0, none⟩ = some (strV name)

theorem WrAt.below {w w' : World} {B p m : Nat} {left : Int} {down : Bool} {room : Int} {F : List Fz} {bd bn : Nat} {name : List UInt8} (h : WrAt w B p m left down room F bd bn name) (hb : Below w.heap.size w w') : WrAt w' B p m left down room F bd bn name :=
  ⟨h.at_.below hb, below_cells hb h.disk, below_cells hb h.name⟩

theorem WrAt.room {w : World} {B p m : Nat} {left : Int} {down : Bool} {room : Int} {F : List Fz} {bd bn : Nat} {name : List UInt8} (h : WrAt w B p m left down room F bd bn name) : w.cell? ⟨p, 2, none⟩ = some (.int .i64 room) := by
  simp [World.cell?, h.at_.cell]

theorem WrAt.files {w : World} {B p m : Nat} {left : Int} {down : Bool} {room : Int} {F : List Fz} {bd bn : Nat} {name : List UInt8} (h : WrAt w B p m left down room F bd bn name) : w.cell? ⟨p, 3, none⟩ = some (.map (some m)) := by
  simp [World.cell?, h.at_.cell]

theorem DkAt.look {w : World} {B p m : Nat} {left : Int} {down : Bool} {room : Int} {F : List Fz} (h : DkAt w B p m left down room F) (name : List UInt8) :
    (Instr.lookup 54 (.map (some m)) (strV name) false).run Try.prog w = .ok ((getK (filesL F) name).getD (.pointer none)) w := by
  have := run_look KOS Try.underlying54 h.files (zeroF w) name false
  simpa using this

theorem DkAt.len {w : World} {B p m : Nat} {left : Int} {down : Bool} {room : Int} {F : List Fz} (h : DkAt w B p m left down room F) (ty : TypeId) :
    (Builtin.len_ #[54] ty #[.map (some m)]).run Try.prog w = .ok (.int .i64 F.length) w := by
  have := run_len (P := Try.prog) Try.underlying54 h.files ty
  simpa [filesL] using this

theorem any_plain (F : List Fz) (name : List UInt8) : (F.map plain).any (fun s => decide (s.1 = name)) = inF F name := by
  unfold inF
  rw [List.any_map]
  rfl






set_option maxHeartbeats 4000000 in
/-- no name -/
theorem dkWrite_form (W : World) (B p m : Nat) (left : Int) (down : Bool) (room : Int) (F : List Fz) (bp bn bd : Nat) (name : List UInt8) (h : WrAt W B p m left down room F bd bn name) (pv : Value) (ls : List (List UInt8)) (hc : W.cell? ⟨bp, 0, none⟩ = some pv)
    (hP : Parts W pv ls) (hlen : Lib.lens ls ≤ 1000000) (hn : ls.length ≤ 1000000) (hrz : rightZ name = false) :
    Calls Try.prog 24 #[.pointer (some ⟨bp, 0, none⟩), .pointer (some ⟨bn, 0, none⟩), .pointer (some ⟨bd, 0, none⟩)] W fun e w' => e = .returned (.int .i64 4) ∧ Below W.heap.size W w' := by
  have cJ := dkJoin W pv ls hP hlen hn
  have hpv : pv.oneCell' = true := by obtain ⟨vs, ⟨-, q, c, rfl, -⟩, -⟩ := hP; rfl
  have H := Lib.hid h
  clear h hP hlen hn
  go_enter Try.func24, Try.ntmps24
  go_wp2_with (first
    | (go_at_call 25; refine cJ.mono ?_; rintro e w1 ⟨u1, rfl, ⟨q1, c1, rfl, hs1⟩, hb1⟩; have S1 := Lib.hid (And.intro hs1 hb1); have cn1 := (H.out.below hb1).name; have H1 := Lib.hid (H.out.below hb1); clear hs1 hb1)
    | (go_at_call 26; refine (dkRight w1 name).mono ?_; rintro e w2 ⟨rfl, hb2⟩; have S2 := Lib.hid hb2; rw [hrz]; have H2 := Lib.hid (H1.out.below hb2); clear hb2 cn1))
  go_ret
  exact ⟨rfl, S1.out.2.trans (S2.out.mono S1.out.2.size)⟩

set_option maxHeartbeats 4000000 in
/-- there is no room -/
theorem dkWrite_room (W : World) (B p m : Nat) (left : Int) (down : Bool) (room : Int) (F : List Fz) (bp bn bd : Nat) (name : List UInt8) (h : WrAt W B p m left down room F bd bn name) (pv : Value) (ls : List (List UInt8)) (hc : W.cell? ⟨bp, 0, none⟩ = some pv)
    (hP : Parts W pv ls) (hlen : Lib.lens ls ≤ 1000000) (hn : ls.length ≤ 1000000) (hu : usedF F ≤ 1000000000) (hrz : rightZ name = true) (hfull : room < (usedF F + ls.flatten.length : Nat)) :
    Calls Try.prog 24 #[.pointer (some ⟨bp, 0, none⟩), .pointer (some ⟨bn, 0, none⟩), .pointer (some ⟨bd, 0, none⟩)] W fun e w' => e = .returned (.int .i64 8) ∧ Below W.heap.size W w' := by
  have cJ := dkJoin W pv ls hP hlen hn
  have hpv : pv.oneCell' = true := by obtain ⟨vs, ⟨-, q, c, rfl, -⟩, -⟩ := hP; rfl
  have H := Lib.hid h
  have hfl : ls.flatten.length ≤ 1000000 := by simpa [Lib.lens] using hlen
  obtain ⟨all, hall⟩ : ∃ all, all = ls.flatten := ⟨_, rfl⟩
  rw [← hall] at cJ hfull hfl
  have hbig : decide (room < (usedF F : Int) + all.length) = true := by simpa using hfull
  have hw : IntKind.i64.wrap ((usedF F : Int) + all.length) = (usedF F : Int) + all.length := by simp [IntKind.wrap, IntKind.signed, IntKind.bits] <;> omega
  have N := Lib.hid hall
  have hu2 := Lib.hid hu
  clear h hP hlen hn hu hall hfull
  go_enter Try.func24, Try.ntmps24
  go_wp2_with (first
    | (go_at_call 25; refine cJ.mono ?_; rintro e w1 ⟨u1, rfl, ⟨q1, c1, rfl, hs1⟩, hb1⟩; have S1 := Lib.hid (And.intro hs1 hb1); have cn1 := (H.out.below hb1).name; have H1 := Lib.hid (H.out.below hb1); clear hs1 hb1)
    | (go_at_call 26; refine (dkRight w1 name).mono ?_; rintro e w2 ⟨rfl, hb2⟩; have S2 := Lib.hid hb2; rw [hrz]; have H2 := Lib.hid (H1.out.below hb2); clear hb2 cn1))
  obtain ⟨W3, hW3⟩ : ∃ W3, W3 = w2.drew := ⟨_, rfl⟩
  have hb3 : Below w2.heap.size w2 W3 := by rw [hW3]; exact (Below.refl _ _).drew
  have H3 := Lib.hid (H2.out.below hb3)
  have cU := dkUsed W3 B p m left down room F H3.out.at_ hu2.out
  have S3 := Lib.hid hb3
  have HW := Lib.hid hW3
  clear hb3 hW3
  refine region_go (fun w' => w'.cell? ⟨bd, 0, none⟩ = some (.pointer (some ⟨p, 0, none⟩)) ∧ w'.cell? ⟨p, 2, none⟩ = some (.int .i64 room)) (by kernel_rfl) ?hS0 (fun hH => ?_)
  case hS0 =>
    rw [← HW.out]; exact ⟨H3.out.disk, H3.out.room⟩
  rw [← HW.out] at hH ⊢
  refine kY 0 hH ?_
  repeat simp only [Act.put, uA1, uB1, uC1]
  refine kY 2 hH ?_
  repeat simp only [Act.put, uA1, uB1, uC1]
  refine kY 3 hH ?_
  repeat simp only [Act.put, uA1, uB1, uC1]
  refine kY 5 hH ?_
  repeat simp only [Act.put, uA1, uB1, uC1]
  refine kY 6 hH ?_
  repeat simp only [Act.put, uA1, uB1, uC1]
  refine kY 7 hH ?_
  repeat simp only [Act.put, uA1, uB1, uC1]
  refine kY 8 hH ?_
  repeat simp only [Act.put, uA1, uB1, uC1]
  refine spk 1 rfl (by decide +kernel) (by rfl) (fun K' hK => ?_)
  go_simp
  with_reducible refine cU.mono ?_
  rintro e w4 ⟨rfl, hb4⟩
  have S4 := Lib.hid (S2.out.trans ((S3.out.trans (hb4.mono S3.out.size)).mono S2.out.size))
  have H4 := Lib.hid (H3.out.below hb4)
  try dsimp only
  refine hK.out _ _ ?hS (fun hH' => ?_)
  case hS =>
    exact ⟨below_cells hb4 hH.1, below_cells hb4 hH.2⟩
  clear hK K' hH; have hH := hH'; clear hH'; repeat simp only [Act.put, uA1, uB1, uC1]
  refine kY 4 hH ?_
  repeat simp only [Act.put, uA1, uB1, uC1]
  refine kY 9 hH ?_
  repeat simp only [Act.put, uA1, uB1, uC1]
  refine kY 10 hH ?_
  repeat simp only [Act.put, uA1, uB1, uC1]
  refine wpAnyH_done (by decide +kernel) ?_ _
  go_wp2_with fail
  go_ret
  exact ⟨rfl, S1.out.2.trans (S4.out.mono S1.out.2.size)⟩

set_option maxHeartbeats 4000000 in
/-- there are files enough -/
theorem dkWrite_many (W : World) (B p m : Nat) (left : Int) (down : Bool) (room : Int) (F : List Fz) (bp bn bd : Nat) (name : List UInt8) (h : WrAt W B p m left down room F bd bn name) (pv : Value) (ls : List (List UInt8)) (hc : W.cell? ⟨bp, 0, none⟩ = some pv)
    (hP : Parts W pv ls) (hlen : Lib.lens ls ≤ 1000000) (hn : ls.length ≤ 1000000) (hu : usedF F ≤ 1000000000) (hrz : rightZ name = true) (hfit : ((usedF F + ls.flatten.length : Nat) : Int) ≤ room) (hnew : inF F name = false) (hfull : 16 ≤ F.length) :
    Calls Try.prog 24 #[.pointer (some ⟨bp, 0, none⟩), .pointer (some ⟨bn, 0, none⟩), .pointer (some ⟨bd, 0, none⟩)] W fun e w' => e = .returned (.int .i64 8) ∧ Below W.heap.size W w' := by
  have cJ := dkJoin W pv ls hP hlen hn
  have hpv : pv.oneCell' = true := by obtain ⟨vs, ⟨-, q, c, rfl, -⟩, -⟩ := hP; rfl
  have H := Lib.hid h
  have hfl : ls.flatten.length ≤ 1000000 := by simpa [Lib.lens] using hlen
  obtain ⟨all, hall⟩ : ∃ all, all = ls.flatten := ⟨_, rfl⟩
  rw [← hall] at cJ hfit hfl
  have hbig : decide (room < (usedF F : Int) + all.length) = false := by simp; omega
  have hmany : decide ((16 : Int) ≤ F.length) = true := by simp; omega
  have LV := Lib.hid (look_out hnew)
  have hw : IntKind.i64.wrap ((usedF F : Int) + all.length) = (usedF F : Int) + all.length := by simp [IntKind.wrap, IntKind.signed, IntKind.bits] <;> omega
  have N := Lib.hid hall
  have hu2 := Lib.hid hu
  clear h hP hlen hn hu hall hfull hfit hnew
  go_enter Try.func24, Try.ntmps24
  go_wp2_with (first
    | (go_at_call 25; refine cJ.mono ?_; rintro e w1 ⟨u1, rfl, ⟨q1, c1, rfl, hs1⟩, hb1⟩; have S1 := Lib.hid (And.intro hs1 hb1); have cn1 := (H.out.below hb1).name; have H1 := Lib.hid (H.out.below hb1); clear hs1 hb1)
    | (go_at_call 26; refine (dkRight w1 name).mono ?_; rintro e w2 ⟨rfl, hb2⟩; have S2 := Lib.hid hb2; rw [hrz]; have H2 := Lib.hid (H1.out.below hb2); clear hb2 cn1))
  obtain ⟨W3, hW3⟩ : ∃ W3, W3 = w2.drew := ⟨_, rfl⟩
  have hb3 : Below w2.heap.size w2 W3 := by rw [hW3]; exact (Below.refl _ _).drew
  have H3 := Lib.hid (H2.out.below hb3)
  have cU := dkUsed W3 B p m left down room F H3.out.at_ hu2.out
  have S3 := Lib.hid hb3
  have HW := Lib.hid hW3
  clear hb3 hW3
  refine region_go (fun w' => w'.cell? ⟨bd, 0, none⟩ = some (.pointer (some ⟨p, 0, none⟩)) ∧ w'.cell? ⟨p, 2, none⟩ = some (.int .i64 room)) (by kernel_rfl) ?hS0 (fun hH => ?_)
  case hS0 =>
    rw [← HW.out]; exact ⟨H3.out.disk, H3.out.room⟩
  rw [← HW.out] at hH ⊢
  refine kY 0 hH ?_
  repeat simp only [Act.put, uA1, uB1, uC1]
  refine kY 2 hH ?_
  repeat simp only [Act.put, uA1, uB1, uC1]
  refine kY 3 hH ?_
  repeat simp only [Act.put, uA1, uB1, uC1]
  refine kY 5 hH ?_
  repeat simp only [Act.put, uA1, uB1, uC1]
  refine kY 6 hH ?_
  repeat simp only [Act.put, uA1, uB1, uC1]
  refine kY 7 hH ?_
  repeat simp only [Act.put, uA1, uB1, uC1]
  refine kY 8 hH ?_
  repeat simp only [Act.put, uA1, uB1, uC1]
  refine spk 1 rfl (by decide +kernel) (by rfl) (fun K' hK => ?_)
  go_simp
  with_reducible refine cU.mono ?_
  rintro e w4 ⟨rfl, hb4⟩
  have S4 := Lib.hid (S2.out.trans ((S3.out.trans (hb4.mono S3.out.size)).mono S2.out.size))
  have H4 := Lib.hid (H3.out.below hb4)
  try dsimp only
  refine hK.out _ _ ?hS (fun hH' => ?_)
  case hS =>
    exact ⟨below_cells hb4 hH.1, below_cells hb4 hH.2⟩
  clear hK K' hH; have hH := hH'; clear hH'; repeat simp only [Act.put, uA1, uB1, uC1]
  refine kY 4 hH ?_
  repeat simp only [Act.put, uA1, uB1, uC1]
  refine kY 9 hH ?_
  repeat simp only [Act.put, uA1, uB1, uC1]
  refine kY 10 hH ?_
  repeat simp only [Act.put, uA1, uB1, uC1]
  refine wpAnyH_done (by decide +kernel) ?_ _
  go_wp2_with fail
  obtain ⟨W5, hW5⟩ : ∃ W5, W5 = w4.drew := ⟨_, rfl⟩
  have hb5 : Below w4.heap.size w4 W5 := by rw [hW5]; exact (Below.refl _ _).drew
  have H5 := Lib.hid (H4.out.below hb5)
  have S5 := Lib.hid (S4.out.trans (hb5.mono S4.out.size))
  have L5 := Lib.hid (H5.out.at_.look name)
  have N5 := Lib.hid H5.out.at_.len
  rw [LV.out] at L5
  have HW5 := Lib.hid hW5
  clear hb5 hW5
  refine region_go (fun w' => w'.cell? ⟨bd, 0, none⟩ = some (.pointer (some ⟨p, 0, none⟩)) ∧ w'.cell? ⟨p, 3, none⟩ = some (.map (some m)) ∧ w'.cell? ⟨bn, 0, none⟩ = some (strV name) ∧ (Instr.lookup 54 (.map (some m)) (strV name) false).run Try.prog w' = .ok (.pointer none) w' ∧ (∀ ty, (Builtin.len_ #[54] ty #[.map (some m)]).run Try.prog w' = .ok (.int .i64 F.length) w')) (by kernel_rfl) ?hS0 (fun hH => ?_)
  case hS0 =>
    rw [← HW5.out]; exact ⟨H5.out.disk, H5.out.files, H5.out.name, L5.out, N5.out⟩
  rw [← HW5.out] at hH ⊢
  refine kY 0 hH ?_
  repeat simp only [Act.put, uA1, uB1, uC1]
  refine kY 1 hH ?_
  repeat simp only [Act.put, uA1, uB1, uC1]
  refine kY 2 hH ?_
  repeat simp only [Act.put, uA1, uB1, uC1]
  refine kY 3 hH ?_
  repeat simp only [Act.put, uA1, uB1, uC1]
  refine kY 4 hH ?_
  repeat simp only [Act.put, uA1, uB1, uC1]
  refine kY 5 hH ?_
  repeat simp only [Act.put, uA1, uB1, uC1]
  refine kY 6 hH ?_
  repeat simp only [Act.put, uA1, uB1, uC1]
  refine kY 7 hH ?_
  repeat simp only [Act.put, uA1, uB1, uC1]
  refine kY 8 hH ?_
  repeat simp only [Act.put, uA1, uB1, uC1]
  refine kY 9 hH ?_
  repeat simp only [Act.put, uA1, uB1, uC1]
  refine kY 10 hH ?_
  repeat simp only [Act.put, uA1, uB1, uC1]
  refine kY 11 hH ?_
  repeat simp only [Act.put, uA1, uB1, uC1]
  refine kY 12 hH ?_
  repeat simp only [Act.put, uA1, uB1, uC1]
  refine kY 13 hH ?_
  repeat simp only [Act.put, uA1, uB1, uC1]
  refine kY 14 hH ?_
  repeat simp only [Act.put, uA1, uB1, uC1]
  refine kY 15 hH ?_
  repeat simp only [Act.put, uA1, uB1, uC1]
  refine wpAnyH_done (by decide +kernel) ?_ _
  go_wp2_with fail
  go_ret
  exact ⟨rfl, S1.out.2.trans (S5.out.mono S1.out.2.size)⟩

end Go.Proofs.Ytdcgooleiefljaa
