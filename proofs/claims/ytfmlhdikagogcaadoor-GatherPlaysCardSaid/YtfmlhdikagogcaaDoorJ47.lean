/-
  gather: the document's example.
-/
import Derived.Test.YtfmlhdikagogcaaDoorJ37
namespace Go.Proofs.YtfmlhdikagogcaaDoor
open Go.RowKit
set_option maxRecDepth 20000

def nAsk : Nt := ⟨8, 0, 0, 0, 0, 0, 7, 0, 3, 0, 0, 0, [], [], [0], []⟩
def nLook : Nt := ⟨9, 0, 0, 4, 0, 0, 1, 0, 3, 0, 0, 0, [], [], [0], []⟩
def nOne : Nt := ⟨10, 0, 0, 0, 0, 0, 1, 0, 0, 0, 0, 0, [], [], [], [⟨1, 9, [3]⟩]⟩
def nTwo : Nt := ⟨10, 0, 0, 0, 0, 0, 1, 0, 0, 0, 0, 0, [], [], [], [⟨2, 4, [2]⟩]⟩
def gAsk : Gz := ⟨2, 1, 1, [⟨nLook, 5, 7, [1, 2], []⟩]⟩
def gOne : Gz := ⟨2, 1, 1, [⟨nLook, 5, 7, [1, 2], [(1, [⟨1, 9, [3]⟩])]⟩]⟩

theorem awk_ask : askZ ⟨2, 1, 0, []⟩ 5 nAsk 4 0 = ([(1, nLook), (2, nLook)], gAsk) := by rfl
theorem awk_one : hearZ gAsk 1 nOne = ([], gOne) := by rfl
theorem awk_two : hearZ gOne 2 nTwo = ([(5, resN 4 7 0 [⟨2, 4, [2]⟩, ⟨1, 9, [3]⟩])], ⟨2, 1, 1, []⟩) := by rfl

theorem ok_new (shards dim base : Int) (h : 1 ≤ shards ∧ shards ≤ 4) : GOk ⟨shards, dim, base, []⟩ := ⟨by simp, h, fun q h => absurd h (by simp)⟩
theorem ok_ask : GOk gAsk := ⟨by decide, by decide, fun q h => by simp only [gAsk, List.mem_singleton] at h; subst h; decide⟩
theorem ok_one : GOk gOne := ⟨by decide, by decide, fun q h => by simp only [gOne, List.mem_singleton] at h; subst h; decide⟩

theorem num_one (w : World) (x : Int) : Nums (w.alloc (.cells #[.int .i32 x] 21)) .i32 (.slice (some ⟨w.heap.size, 0, none⟩) 1 1) [x] := Nums.of_own (own_fresh w 21 1 1 #[.int .i32 x] rfl (by decide))

theorem hit_one (w : World) (id dist x : Int) (F : Nat → Prop) (h1 : F w.heap.size) (h2 : F (w.heap.size + 1)) : HitsF ((w.alloc (.cells #[.int .i32 x] 21)).alloc (.cells #[.int .u64 id, .int .u64 dist, .slice (some ⟨w.heap.size, 0, none⟩) 1 1] 40)) F (.slice (some ⟨w.heap.size + 1, 0, none⟩) 1 1) [⟨id, dist, [x]⟩] := by
  have ho := own_fresh (w.alloc (.cells #[.int .i32 x] 21)) 40 3 1 #[.int .u64 id, .int .u64 dist, .slice (some ⟨w.heap.size, 0, none⟩) 1 1] rfl (by decide)
  rw [World.size_alloc] at ho
  refine HitsF.of_own (rs := [⟨id, dist, .slice (some ⟨w.heap.size, 0, none⟩) 1 1⟩]) ho (fun b e => ?_) (Rows3.single (h := ⟨id, dist, [x]⟩) ((num_one w x).below ((Below.refl _ _).alloc (Nat.le_refl _) _)) (fun _ b e => ?_))
  · have : w.heap.size + 1 = b := by simpa [Value.ownBlock] using e
    exact this ▸ h2
  · have : w.heap.size = b := by simpa [Value.ownBlock] using e
    exact this ▸ h1

set_option maxHeartbeats 4000000 in
theorem awake (w : World) (hT : Tab w) :
    Calls Tryd.prog 9 #[] w fun e w' => e = .returned (.bool true) ∧ Below w.heap.size w w' := by
  have TT := Lib.hid hT
  clear hT
  go_enter Tryd.func9, Tryd.ntmps9
  go_wp2_with fail
  refine (newS 2 1 0 w (by omega)).mono ?_
  rintro e w1 ⟨c, rfl, hG1, hb1⟩
  have b2 := (Below.refl w1.heap.size w1).alloc (Nat.le_refl _) (.cells #[.int .i32 0] 21)
  have A : Hid (Calls Tryd.prog 11 #[.pointer (some ⟨c, 0, none⟩), .int .i64 5, .agg #[.int .u8 8, .int .u64 0, .int .u64 0, .int .u64 0, .int .u64 0, .int .u64 0, .int .u64 7, .int .u64 0, .int .i64 3, .int .i64 0, .int .i64 0, .int .i64 0, .slice none 0 0, .slice none 0 0, .slice (some ⟨w1.heap.size, 0, none⟩) 1 1, .slice none 0 0], .int .u64 4, .int .u64 0] (w1.alloc (.cells #[.int .i32 0] 21)) (GSays (w1.alloc (.cells #[.int .i32 0] 21)) w.heap.size c [(1, nLook), (2, nLook)] gAsk)) := Lib.hid (askS w.heap.size c ⟨2, 1, 0, []⟩ nAsk (.slice none 0 0) (.slice none 0 0) (.slice (some ⟨w1.heap.size, 0, none⟩) 1 1) (.slice none 0 0) (fun _ => False) 5 4 0 _ (TT.out.below (hb1.trans (b2.mono hb1.size))) (hG1.below b2) (by have := hb1.size; simp; omega) (ok_new 2 1 0 (by decide)) ⟨Nums.nil _ _, RecsF.nil _ _, num_one w1 0, HitsF.nil _ _⟩ (by decide) (by decide) awk_ask)
  have B2 := Lib.hid (hb1.trans (b2.mono hb1.size))
  clear hb1 hG1 b2
  go_wp2_with fail
  refine A.out.mono ?_
  rintro e w3 ⟨v3, rs3, G3, rfl, ho3, hs3, -, -, hG3, hb3⟩
  obtain ⟨a1, a2, a3, a4, rs4, rfl, hs4⟩ := says_cons hs3
  obtain ⟨d1, d2, d3, d4, rs5, rfl, hs5⟩ := says_cons hs4
  obtain rfl := says_nil hs5
  obtain ⟨p, m, cp, rfl⟩ := own_form ho3
  obtain ⟨b, rfl, rfl, -, -, hc⟩ := mails_at ho3 (by simp)
  have c0 : w3.cell? ⟨b, 0, none⟩ = some (.int .i64 1) := hc 0 0 _ (by simp) rfl
  have c1 : w3.cell? ⟨b, 18, none⟩ = some (.int .u8 9) := hc 1 1 _ (by simp) rfl
  have c2 : w3.cell? ⟨b, 21, none⟩ = some (.int .u64 4) := hc 1 4 _ (by simp) rfl
  have c3 : w3.cell? ⟨b, 7, none⟩ = some (.int .u64 1) := hc 0 7 _ (by simp) rfl
  have B3 := Lib.hid (B2.out.trans hb3)
  have G3 := Lib.hid hG3
  clear hs3 hs4 ho3 hc hb3 hG3 A B2
  have HBX := Lib.hid (((Below.refl w3.heap.size w3).alloc (Nat.le_refl _) (.cells #[.int .i32 3] 21)).alloc (by simp) (.cells #[.int .u64 1, .int .u64 9, .slice (some ⟨w3.heap.size, 0, none⟩) 1 1] 40))
  have A : Hid (Calls Tryd.prog 13 #[.pointer (some ⟨c, 0, none⟩), .int .i64 1, .agg #[.int .u8 10, .int .u64 0, .int .u64 0, .int .u64 0, .int .u64 0, .int .u64 0, .int .u64 1, .int .u64 0, .int .i64 0, .int .i64 0, .int .i64 0, .int .i64 0, .slice none 0 0, .slice none 0 0, .slice none 0 0, .slice (some ⟨w3.heap.size + 1, 0, none⟩) 1 1]] ((w3.alloc (.cells #[.int .i32 3] 21)).alloc (.cells #[.int .u64 1, .int .u64 9, .slice (some ⟨w3.heap.size, 0, none⟩) 1 1] 40)) (GSays ((w3.alloc (.cells #[.int .i32 3] 21)).alloc (.cells #[.int .u64 1, .int .u64 9, .slice (some ⟨w3.heap.size, 0, none⟩) 1 1] 40)) w.heap.size c [] gOne)) := Lib.hid (hearS w.heap.size c gAsk nOne (.slice none 0 0) (.slice none 0 0) (.slice none 0 0) (.slice (some ⟨w3.heap.size + 1, 0, none⟩) 1 1) 1 w3 _ (TT.out.below (B3.out.trans (HBX.out.mono B3.out.size))) G3.out HBX.out B3.out.size ok_ask ⟨Nums.nil _ _, RecsF.nil _ _, Nums.nil _ _, hit_one w3 1 9 3 _ ⟨by omega, by simp only [World.size_alloc]; omega⟩ ⟨by omega, by simp only [World.size_alloc]; omega⟩⟩ (by decide) (by decide) awk_one)
  go_wp2_with fail
  refine A.out.mono ?_
  rintro e w6 ⟨v6, rs6, G6', rfl, ho6, hs6, -, -, hG6, hb6⟩
  obtain rfl := says_nil hs6
  obtain ⟨p6, m6, cp6, rfl⟩ := own_form ho6
  obtain rfl : m6 = 0 := own_len ho6
  have B6 := Lib.hid ((B3.out.trans (HBX.out.mono B3.out.size)).trans hb6)
  have G6 := Lib.hid hG6
  clear hs6 ho6 hb6 hG6 A G3 c0 c1 c2 c3 HBX
  have HBX := Lib.hid (((Below.refl w6.heap.size w6).alloc (Nat.le_refl _) (.cells #[.int .i32 2] 21)).alloc (by simp) (.cells #[.int .u64 2, .int .u64 4, .slice (some ⟨w6.heap.size, 0, none⟩) 1 1] 40))
  have A : Hid (Calls Tryd.prog 13 #[.pointer (some ⟨c, 0, none⟩), .int .i64 2, .agg #[.int .u8 10, .int .u64 0, .int .u64 0, .int .u64 0, .int .u64 0, .int .u64 0, .int .u64 1, .int .u64 0, .int .i64 0, .int .i64 0, .int .i64 0, .int .i64 0, .slice none 0 0, .slice none 0 0, .slice none 0 0, .slice (some ⟨w6.heap.size + 1, 0, none⟩) 1 1]] ((w6.alloc (.cells #[.int .i32 2] 21)).alloc (.cells #[.int .u64 2, .int .u64 4, .slice (some ⟨w6.heap.size, 0, none⟩) 1 1] 40)) (GSays ((w6.alloc (.cells #[.int .i32 2] 21)).alloc (.cells #[.int .u64 2, .int .u64 4, .slice (some ⟨w6.heap.size, 0, none⟩) 1 1] 40)) w.heap.size c [(5, resN 4 7 0 [⟨2, 4, [2]⟩, ⟨1, 9, [3]⟩])] ⟨2, 1, 1, []⟩)) := Lib.hid (hearS w.heap.size c gOne nTwo (.slice none 0 0) (.slice none 0 0) (.slice none 0 0) (.slice (some ⟨w6.heap.size + 1, 0, none⟩) 1 1) 2 w6 _ (TT.out.below (B6.out.trans (HBX.out.mono B6.out.size))) G6.out HBX.out B6.out.size ok_one ⟨Nums.nil _ _, RecsF.nil _ _, Nums.nil _ _, hit_one w6 2 4 2 _ ⟨by omega, by simp only [World.size_alloc]; omega⟩ ⟨by omega, by simp only [World.size_alloc]; omega⟩⟩ (by decide) (by decide) awk_two)
  go_wp2_with fail
  refine A.out.mono ?_
  rintro e w7 ⟨v7, rs7, G7, rfl, ho7, hs7, hm7, -, -, hb7⟩
  obtain ⟨f1, f2, f3, f4, rs8, rfl, hs8⟩ := says_cons hs7
  obtain rfl := says_nil hs8
  obtain ⟨q, mm, cq, rfl⟩ := own_form ho7
  obtain ⟨b7, rfl, rfl, -, -, hc⟩ := mails_at ho7 (by simp)
  have hh : HitsF w7 G7 f4 [⟨2, 4, [2]⟩, ⟨1, 9, [3]⟩] := (hm7 _ (List.mem_singleton.2 rfl)).read.hits
  obtain ⟨hp, hcp, rfl, -, -, -, hel⟩ := hh
  obtain ⟨bh, oh, uh, rfl, -, e0, -⟩ := hel 0 (by decide)
  have c0 : w7.cell? ⟨b7, 0, none⟩ = some (.int .i64 5) := hc 0 0 _ (by simp) rfl
  have c1 : w7.cell? ⟨b7, 7, none⟩ = some (.int .u64 7) := hc 0 7 _ (by simp) rfl
  have c2 : w7.cell? ⟨b7, 16, none⟩ = some (.slice (some ⟨bh, oh, none⟩) 2 hcp) := hc 0 16 _ (by simp) rfl
  have c3 : w7.cell? ⟨bh, oh, none⟩ = some (.int .u64 2) := e0
  have B7 := Lib.hid ((B6.out.trans (HBX.out.mono B6.out.size)).trans hb7)
  clear hs7 hs8 ho7 hc hb7 A G6 HBX hel e0 hm7
  go_wp2_with fail
  go_ret
  exact ⟨rfl, B7.out⟩

end Go.Proofs.YtfmlhdikagogcaaDoor
