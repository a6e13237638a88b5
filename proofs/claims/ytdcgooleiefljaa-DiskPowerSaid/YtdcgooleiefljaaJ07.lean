/-
  disk: New, Arm, Used.
-/
import Derived.Test.YtdcgooleiefljaaJ06
namespace Go.Proofs.Ytdcgooleiefljaa
open Go.RowKit Go.ChangeMaps

theorem filesL_split {G : List Fz} {R1 R2 : List (List UInt8 × Value)} {a : List UInt8} {v : Value} (h : filesL G = R1 ++ (a, v) :: R2) :
    ∃ G1 f G2, G = G1 ++ f :: G2 ∧ R1 = filesL G1 ∧ R2 = filesL G2 ∧ a = f.name ∧ v = .pointer (some ⟨f.blk, 0, none⟩) := by
  unfold filesL at h
  rw [List.map_eq_append_iff] at h
  obtain ⟨G1, l2, rfl, rfl, h⟩ := h
  rw [List.map_eq_cons_iff] at h
  obtain ⟨f, G2, rfl, h1, rfl⟩ := h
  simp only [Prod.mk.injEq] at h1
  exact ⟨G1, f, G2, rfl, rfl, rfl, h1.1.symm, h1.2.symm⟩

def usedF (F : List Fz) : Nat := (F.map (·.bytes.length)).sum

theorem usedF_mid (G1 G2 : List Fz) (f : Fz) : usedF (G1 ++ f :: G2) = f.bytes.length + usedF (G1 ++ G2) := by
  simp [usedF]
  omega

set_option maxHeartbeats 4000000 in
theorem dkUsed (w : World) (B p m : Nat) (left : Int) (down : Bool) (room : Int) (F : List Fz) (h : DkAt w B p m left down room F) (hu : usedF F ≤ 1000000000) :
    Calls Try.prog 9 #[.pointer (some ⟨p, 0, none⟩)] w fun e w' => e = .returned (.int .i64 (usedF F)) ∧ Below w.heap.size w w' := by
  have c2 : w.cell? ⟨p, 3, none⟩ = some (.map (some m)) := by simp [World.cell?, h.cell]
  obtain ⟨w1, hr, hi, hg, hsz⟩ := run_range (P := Try.prog) Try.underlying54 h.files
  have hb1 : Below w.heap.size w w1 := (Below.refl _ w).grown hg (Nat.le_refl _) (by simp)
  have I := Lib.hid (And.intro hi hb1)
  have H := Lib.hid h
  clear h hi hg hb1
  go_enter Try.func9, Try.ntmps9
  go_wp2_with fail
  go_loopg [3, 5] F.length (fun q n _ wq => ∃ (G : List Fz) (k : Nat), q = G.length ∧ (∀ f ∈ G, f ∈ F) ∧ n = .int .i64 k ∧ k + usedF G = usedF F ∧ IterAt wq strV m w.heap.size (filesL F) (filesL G) ∧ Below w.heap.size w wq)
  case atStart => exact ⟨F, 0, rfl, fun f hf => hf, rfl, by omega, I.out.1, I.out.2⟩
  case round =>
    obtain ⟨G, k, rfl, hG, rfl, hk, hi, hb⟩ := hrel
    cases G with
    | nil =>
      have hnx := run_next_over (P := Try.prog) hi
      obtain rfl : k = usedF F := by simpa [usedF] using hk
      have BB := Lib.hid hb
      clear hi hb hk hG
      go_wp2_with fail
      go_ret
      exact ⟨rfl, BB.out⟩
    | cons g G =>
      obtain ⟨w3, R1, a, v, R2, hnx, hsp, hi3, he3, hg3, -⟩ := run_next_some (P := Try.prog) hi (by simp [filesL])
      have hen := run_entry (P := Try.prog) he3
      obtain ⟨G1, f, G2, hGe, rfl, rfl, rfl, rfl⟩ := filesL_split hsp
      have hfF : f ∈ F := hG f (by rw [hGe]; simp)
      have hb3 := hb.grown hg3 hb.size (by rintro j ⟨⟩; exact Nat.le_refl _)
      have hD := H.out.below hb3
      have hrow := hD.row f hfF
      obtain ⟨pv, nv, cv, hv⟩ := own_form hrow
      rw [hv] at hrow
      obtain rfl : nv = f.bytes.length := own_len hrow
      have hcl : w3.cell? ⟨f.blk, 0, none⟩ = some (.slice pv f.bytes.length cv) := by simp [World.cell?, hD.file f hfF, hv]
      rw [hGe, usedF_mid] at hk
      have hlen : (g :: G).length = (G1 ++ G2).length + 1 := by rw [hGe]; simp; omega
      have A := Lib.hid (show (∀ f ∈ G1 ++ G2, f ∈ F) ∧ k + f.bytes.length + usedF (G1 ++ G2) = usedF F ∧ IterAt w3 strV m w.heap.size (filesL F) (filesL (G1 ++ G2)) ∧ Below w.heap.size w w3 ∧ (G1 ++ G2).length < (g :: G).length from
        ⟨fun x hx => hG x (by rw [hGe]; simp at hx ⊢; rcases hx with hx | hx <;> simp [hx]), by omega, by rw [show filesL (G1 ++ G2) = filesL G1 ++ filesL G2 from by simp [filesL]]; exact hi3, hb3, by omega⟩)
      obtain ⟨L, hL⟩ : ∃ L, L = f.bytes.length := ⟨_, rfl⟩
      have hkL : (k : Int) + L ≤ 1000000000 := by omega
      rw [← hL] at hcl A
      clear hL hi hb hG hsp hi3 he3 hg3 hGe hb3 hD hrow hv hk hlen hu hfF
      go_wp2_with fail
      go_roundg (G1 ++ G2).length
      case measure => exact A.out.2.2.2.2
      case rel => exact ⟨G1 ++ G2, k + L, rfl, A.out.1, by go_num, A.out.2.1, A.out.2.2.1, A.out.2.2.2.1⟩

theorem dkArm (w : World) (B p m : Nat) (left : Int) (down : Bool) (room : Int) (F : List Fz) (h : DkAt w B p m left down room F) (n : Int) :
    Calls Try.prog 20 #[.pointer (some ⟨p, 0, none⟩), .int .i64 n] w fun e w' => e = .returned (.tuple #[]) ∧ DkAt w' B p m (max n (-1)) down room F ∧ Mod (fun j => j = p) w w' := by
  have f0 : w.frozen? ⟨p, 0, none⟩ = false := by simp [World.frozen?, h.cell]
  have c0 : w.cell? ⟨p, 0, none⟩ = some (.int .i64 left) := by simp [World.cell?, h.cell]
  have hmx := max2i n (-1)
  obtain ⟨mx, hm⟩ : ∃ mx, mx = max n (-1) := ⟨_, rfl⟩
  rw [← hm] at hmx ⊢
  have hc0 := setBlk h.cell 0 (.int .i64 mx)
  have S := Lib.hid (show Mod (fun j => j = p) w (w.setCell ⟨p, 0, none⟩ (.int .i64 mx)) from Mod.setCell (F := fun j => j = p) (Mod.refl _ w) (p := ⟨p, 0, none⟩) (.inl rfl) _)
  have H := Lib.hid h
  have HC := Lib.hid hc0
  clear h hc0 hm
  go_enter Try.func20, Try.ntmps20
  go_wp2_with fail
  go_end0
  exact ⟨rfl, H.out.power (by simpa using HC.out) S.out, S.out⟩

theorem dkNew (w : World) (room : Int) (hr : 0 ≤ room ∧ room ≤ 1048576) :
    Calls Try.prog 7 #[.int .i64 room] w fun e w' => ∃ p m, e = .returned (.tuple #[.pointer (some ⟨p, 0, none⟩), .int .i64 0]) ∧ DkAt w' w.heap.size p m (-1) false room [] ∧ Below w.heap.size w w' := by
  have hmm := @run_makeMap Try.prog
  go_enter Try.func7, Try.ntmps7
  go_wp2_with fail
  go_ret2
  refine ⟨w.heap.size + 1, w.heap.size, rfl, ⟨?_, ?_, by simp, by simp, by simp, by simp, by simp, by simp, by simp; omega⟩, ((Below.refl _ w).alloc (Nat.le_refl _) _).alloc (by simp) _⟩
  · have := heap_alloc_new (w.alloc (.map #[] 0)) (.cells #[.int .i64 (-1), .bool false, .int .i64 room, .map (some w.heap.size)] 56)
    rwa [World.size_alloc] at this
  · exact (MapAt.made (mk := strV) w).kept (by rw [heap_alloc_old _ _ (by simp)])

end Go.Proofs.Ytdcgooleiefljaa
