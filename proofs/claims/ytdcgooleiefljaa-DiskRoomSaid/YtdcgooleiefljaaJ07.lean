/-
  disk: names; how many bytes.
  disk: New, Arm, Used.
-/
import Derived.Test.YtdcgooleiefljaaJ06
import Derived.Lib.OthersKept
import Derived.Lib.RuneCount
namespace Go.Proofs.Ytdcgooleiefljaa
open Go.RowKit Go.ChangeMaps

def badR (r : Int) : Bool := (decide (r < 97) || decide (122 < r)) && (decide (r < 48) || decide (57 < r))

/-- from place pos on, no letter but right ones -/
def rightF (s : ByteArray) : Nat → Nat → Bool
  | 0, _ => true
  | k + 1, pos => if pos < s.size then (if badR (Utf8.decode s pos).1 then false else rightF s k (pos + (Utf8.decode s pos).2)) else true

def rightS (s : ByteArray) : Bool := rightF s s.size 0 && (!s.toList.isEmpty && decide (s.size ≤ 8))

def rightZ (name : List UInt8) : Bool := rightS ⟨name.toArray⟩

set_option maxHeartbeats 4000000 in
theorem dkRightS (w : World) (s : ByteArray) :
    Calls Try.prog 26 #[.string s] w fun e w' => e = .returned (.bool (rightS s)) ∧ Below w.heap.size w w' := by
  obtain ⟨R, hR⟩ : ∃ R, R = rightF s s.size 0 := ⟨_, rfl⟩
  obtain ⟨E, hE⟩ : ∃ E, E = s.toList.isEmpty := ⟨_, rfl⟩
  have hrs : rightS s = (R && (!E && decide (s.size ≤ 8))) := by rw [rightS, ← hR, ← hE]
  rw [hrs]
  have hrg := run_range_string (P := Try.prog) w 9 s Try.underlying9
  have hit := World.iter_heap w s 0
  have hbl : Below w.heap.size w (w.iter s 0) := (Below.refl _ w).alloc (Nat.le_refl _) _
  have IT := Lib.hid (And.intro hit hbl)
  have HR := Lib.hid hR
  have HE := Lib.hid hE
  clear hR hE hrs hit hbl
  go_enter Try.func26, Try.ntmps26
  go_wp2_with fail
  go_loopg [4] s.size (fun q _ wq => ∃ pos k, q = s.size - pos ∧ s.size - pos ≤ k ∧ wq.heap[w.heap.size]? = some (.stringIter s pos) ∧ Below w.heap.size w wq ∧ R = rightF s k pos)
  case atStart => exact ⟨0, s.size, rfl, by omega, IT.out.1, IT.out.2, HR.out⟩
  case round =>
    obtain ⟨pos, k, rfl, hk, hi, hb, hR⟩ := hrel
    by_cases hlt : pos < s.size
    · obtain ⟨k, rfl⟩ : ∃ k', k = k' + 1 := ⟨k - 1, by omega⟩
      have hnx := Lib.run_next_any_at (P := Try.prog) wr w.heap.size s pos
      have hwd := Lib.decode_width_pos s pos hlt
      rw [rightF, if_pos hlt] at hR
      obtain ⟨r, d, hd⟩ : ∃ r d, Utf8.decode s pos = (r, d) := ⟨_, _, rfl⟩
      rw [hd] at hwd hR
      have hnx := fun ty => hnx ty hi hlt
      rw [hd] at hnx
      simp only at hwd hR hnx
      obtain ⟨W, hW⟩ : ∃ W, W = wr.iterAt w.heap.size s (pos + d) := ⟨_, rfl⟩
      have hi2 := Lib.iterAt_heap wr w.heap.size s pos (pos + d) hi
      have hb2 := Lib.below_iterAt hb (Nat.le_refl _) s (pos + d)
      rw [← hW] at hnx hi2 hb2
      have I := Lib.hid (And.intro hi2 hb2)
      have L := Lib.hid (And.intro hk (And.intro hlt hwd))
      clear hi hb hd hW hi2 hb2 hk hlt hwd
      rcases (by omega : (r : Int) < 48 ∨ (48 ≤ (r : Int) ∧ (r : Int) ≤ 57) ∨ (57 < (r : Int) ∧ (r : Int) < 97) ∨ (97 ≤ (r : Int) ∧ (r : Int) ≤ 122) ∨ 122 < (r : Int)) with h | h | h | h | h
      · have d1 : decide ((r : Int) < 97) = true := by simp; omega
        have d2 : decide (122 < (r : Int)) = false := by simp; omega
        have d3 : decide ((r : Int) < 48) = true := by simp; omega
        have d4 : decide (57 < (r : Int)) = false := by simp; omega
        have hbad : badR r = true := by simp only [badR, d1, d2, d3, d4]; rfl
        rw [hbad] at hR
        clear h hbad
        simp only [if_true] at hR
        subst hR
        clear HR
        go_wp2_with fail
        go_ret
        exact ⟨rfl, I.out.2⟩
      · have d1 : decide ((r : Int) < 97) = true := by simp; omega
        have d2 : decide (122 < (r : Int)) = false := by simp; omega
        have d3 : decide ((r : Int) < 48) = false := by simp; omega
        have d4 : decide (57 < (r : Int)) = false := by simp; omega
        have hbad : badR r = false := by simp only [badR, d1, d2, d3, d4]; rfl
        rw [hbad] at hR
        clear h hbad
        simp only [Bool.false_eq_true, if_false] at hR
        have HK := Lib.hid hR
        clear HR hR
        go_wp2_with fail
        go_roundg (s.size - (pos + d))
        case measure => have := L.out; omega
        case rel => exact ⟨pos + d, k, rfl, by have := L.out; omega, I.out.1, I.out.2, HK.out⟩
      · have d1 : decide ((r : Int) < 97) = true := by simp; omega
        have d2 : decide (122 < (r : Int)) = false := by simp; omega
        have d3 : decide ((r : Int) < 48) = false := by simp; omega
        have d4 : decide (57 < (r : Int)) = true := by simp; omega
        have hbad : badR r = true := by simp only [badR, d1, d2, d3, d4]; rfl
        rw [hbad] at hR
        clear h hbad
        simp only [if_true] at hR
        subst hR
        clear HR
        go_wp2_with fail
        go_ret
        exact ⟨rfl, I.out.2⟩
      · have d1 : decide ((r : Int) < 97) = false := by simp; omega
        have d2 : decide (122 < (r : Int)) = false := by simp; omega
        have d3 : decide ((r : Int) < 48) = false := by simp; omega
        have d4 : decide (57 < (r : Int)) = true := by simp; omega
        have hbad : badR r = false := by simp only [badR, d1, d2, d3, d4]; rfl
        rw [hbad] at hR
        clear h hbad
        simp only [Bool.false_eq_true, if_false] at hR
        have HK := Lib.hid hR
        clear HR hR
        go_wp2_with fail
        go_roundg (s.size - (pos + d))
        case measure => have := L.out; omega
        case rel => exact ⟨pos + d, k, rfl, by have := L.out; omega, I.out.1, I.out.2, HK.out⟩
      · have d1 : decide ((r : Int) < 97) = false := by simp; omega
        have d2 : decide (122 < (r : Int)) = true := by simp; omega
        have d3 : decide ((r : Int) < 48) = false := by simp; omega
        have d4 : decide (57 < (r : Int)) = true := by simp; omega
        have hbad : badR r = true := by simp only [badR, d1, d2, d3, d4]; rfl
        rw [hbad] at hR
        clear h hbad
        simp only [if_true] at hR
        subst hR
        clear HR
        go_wp2_with fail
        go_ret
        exact ⟨rfl, I.out.2⟩
    · have hnx := fun ty => Lib.run_next_end_at (P := Try.prog) wr w.heap.size s pos ty hi hlt
      have hRt : R = true := by
        rw [hR]
        cases k with
        | zero => rfl
        | succ k => rw [rightF, if_neg hlt]
      subst hRt
      have I := Lib.hid hb
      clear hi hb hR hk hlt HR
      have hE := HE.out.symm
      clear HE
      cases E with
      | true =>
        go_wp2_with fail
        go_ret
        exact ⟨rfl, I.out⟩
      | false =>
        go_wp2_with fail
        go_ret
        exact ⟨ret_bool (show decide ((s.size : Int) ≤ 8) = decide (s.size ≤ 8) from by rw [decide_eq_decide]; omega), I.out⟩

theorem dkRight (w : World) (name : List UInt8) :
    Calls Try.prog 26 #[strV name] w fun e w' => e = .returned (.bool (rightZ name)) ∧ Below w.heap.size w w' := dkRightS w _

end Go.Proofs.Ytdcgooleiefljaa

namespace Go.Proofs.Ytdcgooleiefljaa
open Go.RowKit Go.ChangeMaps

theorem filesL_split {G : List Fz} {R1 R2 : List (List UInt8 × Value)} {a : List UInt8} {v : Value} (h : filesL G = R1 ++ (a, v) :: R2) :
    ∃ G1 f G2, G = G1 ++ f :: G2 ∧ R1 = filesL G1 ∧ R2 = filesL G2 ∧ a = f.name ∧ v = .pointer (some ⟨f.blk, 0, none⟩) := by
  unfold filesL at h
  rw [List.map_eq_append_iff] at h
  obtain ⟨G1, l2, rfl, rfl, h⟩ := h
  rw [List.map_eq_cons_iff] at h
  obtain ⟨f, G2, rfl, h1, rfl⟩ := h
  simp only [Prod.mk.injEq] at h1
  exact ⟨G1, f, G2, rfl, rfl, rfl, h1.1.symm, h1.2.symm⟩

def usedF (F : List Fz) : Nat := (F.map (·.bytes.length)).sum

theorem usedF_mid (G1 G2 : List Fz) (f : Fz) : usedF (G1 ++ f :: G2) = f.bytes.length + usedF (G1 ++ G2) := by
  simp [usedF]
  omega

set_option maxHeartbeats 4000000 in
theorem dkUsed (w : World) (B p m : Nat) (left : Int) (down : Bool) (room : Int) (F : List Fz) (h : DkAt w B p m left down room F) (hu : usedF F ≤ 1000000000) :
    Calls Try.prog 9 #[.pointer (some ⟨p, 0, none⟩)] w fun e w' => e = .returned (.int .i64 (usedF F)) ∧ Below w.heap.size w w' := by
  have c2 : w.cell? ⟨p, 3, none⟩ = some (.map (some m)) := by simp [World.cell?, h.cell]
  obtain ⟨w1, hr, hi, hg, hsz⟩ := run_range (P := Try.prog) Try.underlying54 h.files
  have hb1 : Below w.heap.size w w1 := (Below.refl _ w).grown hg (Nat.le_refl _) (by simp)
  have I := Lib.hid (And.intro hi hb1)
  have H := Lib.hid h
  clear h hi hg hb1
  go_enter Try.func9, Try.ntmps9
  go_wp2_with fail
  go_loopg [3, 5] F.length (fun q n _ wq => ∃ (G : List Fz) (k : Nat), q = G.length ∧ (∀ f ∈ G, f ∈ F) ∧ n = .int .i64 k ∧ k + usedF G = usedF F ∧ IterAt wq strV m w.heap.size (filesL F) (filesL G) ∧ Below w.heap.size w wq)
  case atStart => exact ⟨F, 0, rfl, fun f hf => hf, rfl, by omega, I.out.1, I.out.2⟩
  case round =>
    obtain ⟨G, k, rfl, hG, rfl, hk, hi, hb⟩ := hrel
    cases G with
    | nil =>
      have hnx := run_next_over (P := Try.prog) hi
      obtain rfl : k = usedF F := by simpa [usedF] using hk
      have BB := Lib.hid hb
      clear hi hb hk hG
      go_wp2_with fail
      go_ret
      exact ⟨rfl, BB.out⟩
    | cons g G =>
      obtain ⟨w3, R1, a, v, R2, hnx, hsp, hi3, he3, hg3, -⟩ := run_next_some (P := Try.prog) hi (by simp [filesL])
      have hen := run_entry (P := Try.prog) he3
      obtain ⟨G1, f, G2, hGe, rfl, rfl, rfl, rfl⟩ := filesL_split hsp
      have hfF : f ∈ F := hG f (by rw [hGe]; simp)
      have hb3 := hb.grown hg3 hb.size (by rintro j ⟨⟩; exact Nat.le_refl _)
      have hD := H.out.below hb3
      have hrow := hD.row f hfF
      obtain ⟨pv, nv, cv, hv⟩ := own_form hrow
      rw [hv] at hrow
      obtain rfl : nv = f.bytes.length := own_len hrow
      have hcl : w3.cell? ⟨f.blk, 0, none⟩ = some (.slice pv f.bytes.length cv) := by simp [World.cell?, hD.file f hfF, hv]
      rw [hGe, usedF_mid] at hk
      have hlen : (g :: G).length = (G1 ++ G2).length + 1 := by rw [hGe]; simp; omega
      have A := Lib.hid (show (∀ f ∈ G1 ++ G2, f ∈ F) ∧ k + f.bytes.length + usedF (G1 ++ G2) = usedF F ∧ IterAt w3 strV m w.heap.size (filesL F) (filesL (G1 ++ G2)) ∧ Below w.heap.size w w3 ∧ (G1 ++ G2).length < (g :: G).length from
        ⟨fun x hx => hG x (by rw [hGe]; simp at hx ⊢; rcases hx with hx | hx <;> simp [hx]), by omega, by rw [show filesL (G1 ++ G2) = filesL G1 ++ filesL G2 from by simp [filesL]]; exact hi3, hb3, by omega⟩)
      obtain ⟨L, hL⟩ : ∃ L, L = f.bytes.length := ⟨_, rfl⟩
      have hkL : (k : Int) + L ≤ 1000000000 := by omega
      rw [← hL] at hcl A
      clear hL hi hb hG hsp hi3 he3 hg3 hGe hb3 hD hrow hv hk hlen hu hfF
      go_wp2_with fail
      go_roundg (G1 ++ G2).length
      case measure => exact A.out.2.2.2.2
      case rel => exact ⟨G1 ++ G2, k + L, rfl, A.out.1, by go_num, A.out.2.1, A.out.2.2.1, A.out.2.2.2.1⟩

theorem dkArm (w : World) (B p m : Nat) (left : Int) (down : Bool) (room : Int) (F : List Fz) (h : DkAt w B p m left down room F) (n : Int) :
    Calls Try.prog 20 #[.pointer (some ⟨p, 0, none⟩), .int .i64 n] w fun e w' => e = .returned (.tuple #[]) ∧ DkAt w' B p m (max n (-1)) down room F ∧ Mod (fun j => j = p) w w' := by
  have f0 : w.frozen? ⟨p, 0, none⟩ = false := by simp [World.frozen?, h.cell]
  have c0 : w.cell? ⟨p, 0, none⟩ = some (.int .i64 left) := by simp [World.cell?, h.cell]
  have hmx := max2i n (-1)
  obtain ⟨mx, hm⟩ : ∃ mx, mx = max n (-1) := ⟨_, rfl⟩
  rw [← hm] at hmx ⊢
  have hc0 := setBlk h.cell 0 (.int .i64 mx)
  have S := Lib.hid (show Mod (fun j => j = p) w (w.setCell ⟨p, 0, none⟩ (.int .i64 mx)) from Mod.setCell (F := fun j => j = p) (Mod.refl _ w) (p := ⟨p, 0, none⟩) (.inl rfl) _)
  have H := Lib.hid h
  have HC := Lib.hid hc0
  clear h hc0 hm
  go_enter Try.func20, Try.ntmps20
  go_wp2_with fail
  go_end0
  exact ⟨rfl, H.out.power (by simpa using HC.out) S.out, S.out⟩

theorem dkNew (w : World) (room : Int) (hr : 0 ≤ room ∧ room ≤ 1048576) :
    Calls Try.prog 7 #[.int .i64 room] w fun e w' => ∃ p m, e = .returned (.tuple #[.pointer (some ⟨p, 0, none⟩), .int .i64 0]) ∧ DkAt w' w.heap.size p m (-1) false room [] ∧ Below w.heap.size w w' := by
  have hmm := @run_makeMap Try.prog
  go_enter Try.func7, Try.ntmps7
  go_wp2_with fail
  go_ret2
  refine ⟨w.heap.size + 1, w.heap.size, rfl, ⟨?_, ?_, by simp, by simp, by simp, by simp, by simp, by simp, by simp; omega⟩, ((Below.refl _ w).alloc (Nat.le_refl _) _).alloc (by simp) _⟩
  · have := heap_alloc_new (w.alloc (.map #[] 0)) (.cells #[.int .i64 (-1), .bool false, .int .i64 room, .map (some w.heap.size)] 56)
    rwa [World.size_alloc] at this
  · exact (MapAt.made (mk := strV) w).kept (by rw [heap_alloc_old _ _ (by simp)])

end Go.Proofs.Ytdcgooleiefljaa
