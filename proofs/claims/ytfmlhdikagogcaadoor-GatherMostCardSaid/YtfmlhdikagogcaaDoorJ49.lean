/-
  gather: the document's example.
  gather: sound numbers stay sound.
  gather: so many questions are under way, and no more.
  gather: so many questions are under way, and no more: the walk.
-/
import Derived.Test.YtfmlhdikagogcaaDoorJ48
namespace Go.Proofs.YtfmlhdikagogcaaDoor
open Go.RowKit
set_option maxRecDepth 20000

def nAsk : Nt := ⟨8, 0, 0, 0, 0, 0, 7, 0, 3, 0, 0, 0, [], [], [0], []⟩
def nLook : Nt := ⟨9, 0, 0, 4, 0, 0, 1, 0, 3, 0, 0, 0, [], [], [0], []⟩
def nOne : Nt := ⟨10, 0, 0, 0, 0, 0, 1, 0, 0, 0, 0, 0, [], [], [], [⟨1, 9, [3]⟩]⟩
def nTwo : Nt := ⟨10, 0, 0, 0, 0, 0, 1, 0, 0, 0, 0, 0, [], [], [], [⟨2, 4, [2]⟩]⟩
def gAsk : Gz := ⟨2, 1, 1, [⟨nLook, 5, 7, [1, 2], []⟩]⟩
def gOne : Gz := ⟨2, 1, 1, [⟨nLook, 5, 7, [1, 2], [(1, [⟨1, 9, [3]⟩])]⟩]⟩

theorem awk_ask : askZ ⟨2, 1, 0, []⟩ 5 nAsk 4 0 = ([(1, nLook), (2, nLook)], gAsk) := by rfl
theorem awk_one : hearZ gAsk 1 nOne = ([], gOne) := by rfl
theorem awk_two : hearZ gOne 2 nTwo = ([(5, resN 4 7 0 [⟨2, 4, [2]⟩, ⟨1, 9, [3]⟩])], ⟨2, 1, 1, []⟩) := by rfl

theorem ok_new (shards dim base : Int) (h : 1 ≤ shards ∧ shards ≤ 4) : GOk ⟨shards, dim, base, []⟩ := ⟨by simp, h, fun q h => absurd h (by simp)⟩
theorem ok_ask : GOk gAsk := ⟨by decide, by decide, fun q h => by simp only [gAsk, List.mem_singleton] at h; subst h; decide⟩
theorem ok_one : GOk gOne := ⟨by decide, by decide, fun q h => by simp only [gOne, List.mem_singleton] at h; subst h; decide⟩

theorem num_one (w : World) (x : Int) : Nums (w.alloc (.cells #[.int .i32 x] 21)) .i32 (.slice (some ⟨w.heap.size, 0, none⟩) 1 1) [x] := Nums.of_own (own_fresh w 21 1 1 #[.int .i32 x] rfl (by decide))

theorem hit_one (w : World) (id dist x : Int) (F : Nat → Prop) (h1 : F w.heap.size) (h2 : F (w.heap.size + 1)) : HitsF ((w.alloc (.cells #[.int .i32 x] 21)).alloc (.cells #[.int .u64 id, .int .u64 dist, .slice (some ⟨w.heap.size, 0, none⟩) 1 1] 40)) F (.slice (some ⟨w.heap.size + 1, 0, none⟩) 1 1) [⟨id, dist, [x]⟩] := by
  have ho := own_fresh (w.alloc (.cells #[.int .i32 x] 21)) 40 3 1 #[.int .u64 id, .int .u64 dist, .slice (some ⟨w.heap.size, 0, none⟩) 1 1] rfl (by decide)
  rw [World.size_alloc] at ho
  refine HitsF.of_own (rs := [⟨id, dist, .slice (some ⟨w.heap.size, 0, none⟩) 1 1⟩]) ho (fun b e => ?_) (Rows3.single (h := ⟨id, dist, [x]⟩) ((num_one w x).below ((Below.refl _ _).alloc (Nat.le_refl _) _)) (fun _ b e => ?_))
  · have : w.heap.size + 1 = b := by simpa [Value.ownBlock] using e
    exact this ▸ h2
  · have : w.heap.size = b := by simpa [Value.ownBlock] using e
    exact this ▸ h1

set_option maxHeartbeats 4000000 in
theorem awake (w : World) (hT : Tab w) :
    Calls Tryd.prog 9 #[] w fun e w' => e = .returned (.bool true) ∧ Below w.heap.size w w' := by
  have TT := Lib.hid hT
  clear hT
  go_enter Tryd.func9, Tryd.ntmps9
  go_wp2_with fail
  refine (newS 2 1 0 w (by omega)).mono ?_
  rintro e w1 ⟨c, rfl, hG1, hb1⟩
  have b2 := (Below.refl w1.heap.size w1).alloc (Nat.le_refl _) (.cells #[.int .i32 0] 21)
  have A : Hid (Calls Tryd.prog 11 #[.pointer (some ⟨c, 0, none⟩), .int .i64 5, .agg #[.int .u8 8, .int .u64 0, .int .u64 0, .int .u64 0, .int .u64 0, .int .u64 0, .int .u64 7, .int .u64 0, .int .i64 3, .int .i64 0, .int .i64 0, .int .i64 0, .slice none 0 0, .slice none 0 0, .slice (some ⟨w1.heap.size, 0, none⟩) 1 1, .slice none 0 0], .int .u64 4, .int .u64 0] (w1.alloc (.cells #[.int .i32 0] 21)) (GSays (w1.alloc (.cells #[.int .i32 0] 21)) w.heap.size c [(1, nLook), (2, nLook)] gAsk)) := Lib.hid (askS w.heap.size c ⟨2, 1, 0, []⟩ nAsk (.slice none 0 0) (.slice none 0 0) (.slice (some ⟨w1.heap.size, 0, none⟩) 1 1) (.slice none 0 0) (fun _ => False) 5 4 0 _ (TT.out.below (hb1.trans (b2.mono hb1.size))) (hG1.below b2) (by have := hb1.size; simp; omega) (ok_new 2 1 0 (by decide)) ⟨Nums.nil _ _, RecsF.nil _ _, num_one w1 0, HitsF.nil _ _⟩ (by decide) (by decide) awk_ask)
  have B2 := Lib.hid (hb1.trans (b2.mono hb1.size))
  clear hb1 hG1 b2
  go_wp2_with fail
  refine A.out.mono ?_
  rintro e w3 ⟨v3, rs3, G3, rfl, ho3, hs3, -, -, hG3, hb3⟩
  obtain ⟨a1, a2, a3, a4, rs4, rfl, hs4⟩ := says_cons hs3
  obtain ⟨d1, d2, d3, d4, rs5, rfl, hs5⟩ := says_cons hs4
  obtain rfl := says_nil hs5
  obtain ⟨p, m, cp, rfl⟩ := own_form ho3
  obtain ⟨b, rfl, rfl, -, -, hc⟩ := mails_at ho3 (by simp)
  have c0 : w3.cell? ⟨b, 0, none⟩ = some (.int .i64 1) := hc 0 0 _ (by simp) rfl
  have c1 : w3.cell? ⟨b, 18, none⟩ = some (.int .u8 9) := hc 1 1 _ (by simp) rfl
  have c2 : w3.cell? ⟨b, 21, none⟩ = some (.int .u64 4) := hc 1 4 _ (by simp) rfl
  have c3 : w3.cell? ⟨b, 7, none⟩ = some (.int .u64 1) := hc 0 7 _ (by simp) rfl
  have B3 := Lib.hid (B2.out.trans hb3)
  have G3 := Lib.hid hG3
  clear hs3 hs4 ho3 hc hb3 hG3 A B2
  have HBX := Lib.hid (((Below.refl w3.heap.size w3).alloc (Nat.le_refl _) (.cells #[.int .i32 3] 21)).alloc (by simp) (.cells #[.int .u64 1, .int .u64 9, .slice (some ⟨w3.heap.size, 0, none⟩) 1 1] 40))
  have A : Hid (Calls Tryd.prog 13 #[.pointer (some ⟨c, 0, none⟩), .int .i64 1, .agg #[.int .u8 10, .int .u64 0, .int .u64 0, .int .u64 0, .int .u64 0, .int .u64 0, .int .u64 1, .int .u64 0, .int .i64 0, .int .i64 0, .int .i64 0, .int .i64 0, .slice none 0 0, .slice none 0 0, .slice none 0 0, .slice (some ⟨w3.heap.size + 1, 0, none⟩) 1 1]] ((w3.alloc (.cells #[.int .i32 3] 21)).alloc (.cells #[.int .u64 1, .int .u64 9, .slice (some ⟨w3.heap.size, 0, none⟩) 1 1] 40)) (GSays ((w3.alloc (.cells #[.int .i32 3] 21)).alloc (.cells #[.int .u64 1, .int .u64 9, .slice (some ⟨w3.heap.size, 0, none⟩) 1 1] 40)) w.heap.size c [] gOne)) := Lib.hid (hearS w.heap.size c gAsk nOne (.slice none 0 0) (.slice none 0 0) (.slice none 0 0) (.slice (some ⟨w3.heap.size + 1, 0, none⟩) 1 1) 1 w3 _ (TT.out.below (B3.out.trans (HBX.out.mono B3.out.size))) G3.out HBX.out B3.out.size ok_ask ⟨Nums.nil _ _, RecsF.nil _ _, Nums.nil _ _, hit_one w3 1 9 3 _ ⟨by omega, by simp only [World.size_alloc]; omega⟩ ⟨by omega, by simp only [World.size_alloc]; omega⟩⟩ (by decide) (by decide) awk_one)
  go_wp2_with fail
  refine A.out.mono ?_
  rintro e w6 ⟨v6, rs6, G6', rfl, ho6, hs6, -, -, hG6, hb6⟩
  obtain rfl := says_nil hs6
  obtain ⟨p6, m6, cp6, rfl⟩ := own_form ho6
  obtain rfl : m6 = 0 := own_len ho6
  have B6 := Lib.hid ((B3.out.trans (HBX.out.mono B3.out.size)).trans hb6)
  have G6 := Lib.hid hG6
  clear hs6 ho6 hb6 hG6 A G3 c0 c1 c2 c3 HBX
  have HBX := Lib.hid (((Below.refl w6.heap.size w6).alloc (Nat.le_refl _) (.cells #[.int .i32 2] 21)).alloc (by simp) (.cells #[.int .u64 2, .int .u64 4, .slice (some ⟨w6.heap.size, 0, none⟩) 1 1] 40))
  have A : Hid (Calls Tryd.prog 13 #[.pointer (some ⟨c, 0, none⟩), .int .i64 2, .agg #[.int .u8 10, .int .u64 0, .int .u64 0, .int .u64 0, .int .u64 0, .int .u64 0, .int .u64 1, .int .u64 0, .int .i64 0, .int .i64 0, .int .i64 0, .int .i64 0, .slice none 0 0, .slice none 0 0, .slice none 0 0, .slice (some ⟨w6.heap.size + 1, 0, none⟩) 1 1]] ((w6.alloc (.cells #[.int .i32 2] 21)).alloc (.cells #[.int .u64 2, .int .u64 4, .slice (some ⟨w6.heap.size, 0, none⟩) 1 1] 40)) (GSays ((w6.alloc (.cells #[.int .i32 2] 21)).alloc (.cells #[.int .u64 2, .int .u64 4, .slice (some ⟨w6.heap.size, 0, none⟩) 1 1] 40)) w.heap.size c [(5, resN 4 7 0 [⟨2, 4, [2]⟩, ⟨1, 9, [3]⟩])] ⟨2, 1, 1, []⟩)) := Lib.hid (hearS w.heap.size c gOne nTwo (.slice none 0 0) (.slice none 0 0) (.slice none 0 0) (.slice (some ⟨w6.heap.size + 1, 0, none⟩) 1 1) 2 w6 _ (TT.out.below (B6.out.trans (HBX.out.mono B6.out.size))) G6.out HBX.out B6.out.size ok_one ⟨Nums.nil _ _, RecsF.nil _ _, Nums.nil _ _, hit_one w6 2 4 2 _ ⟨by omega, by simp only [World.size_alloc]; omega⟩ ⟨by omega, by simp only [World.size_alloc]; omega⟩⟩ (by decide) (by decide) awk_two)
  go_wp2_with fail
  refine A.out.mono ?_
  rintro e w7 ⟨v7, rs7, G7, rfl, ho7, hs7, hm7, -, -, hb7⟩
  obtain ⟨f1, f2, f3, f4, rs8, rfl, hs8⟩ := says_cons hs7
  obtain rfl := says_nil hs8
  obtain ⟨q, mm, cq, rfl⟩ := own_form ho7
  obtain ⟨b7, rfl, rfl, -, -, hc⟩ := mails_at ho7 (by simp)
  have hh : HitsF w7 G7 f4 [⟨2, 4, [2]⟩, ⟨1, 9, [3]⟩] := (hm7 _ (List.mem_singleton.2 rfl)).read.hits
  obtain ⟨hp, hcp, rfl, -, -, -, hel⟩ := hh
  obtain ⟨bh, oh, uh, rfl, -, e0, -⟩ := hel 0 (by decide)
  have c0 : w7.cell? ⟨b7, 0, none⟩ = some (.int .i64 5) := hc 0 0 _ (by simp) rfl
  have c1 : w7.cell? ⟨b7, 7, none⟩ = some (.int .u64 7) := hc 0 7 _ (by simp) rfl
  have c2 : w7.cell? ⟨b7, 16, none⟩ = some (.slice (some ⟨bh, oh, none⟩) 2 hcp) := hc 0 16 _ (by simp) rfl
  have c3 : w7.cell? ⟨bh, oh, none⟩ = some (.int .u64 2) := e0
  have B7 := Lib.hid ((B6.out.trans (HBX.out.mono B6.out.size)).trans hb7)
  clear hs7 hs8 ho7 hc hb7 A G6 HBX hel e0 hm7
  go_wp2_with fail
  go_ret
  exact ⟨rfl, B7.out⟩

end Go.Proofs.YtfmlhdikagogcaaDoor

namespace Go.Proofs.YtfmlhdikagogcaaDoor
open Go.RowKit
set_option maxRecDepth 20000

theorem askQ_ok {g : Gz} (hg : GOk g) {frm stamp mark : Int} {n : Nt} (ho : oddB frm n 8 = false) : (askQ g frm n stamp mark).parts.length ≤ 4 ∧ (askQ g frm n stamp mark).note.vec.length ≤ 8 ∧ (askQ g frm n stamp mark).told.length < (askQ g frm n stamp mark).parts.length ∧ 0 ≤ (askQ g frm n stamp mark).note.k ∧ (askQ g frm n stamp mark).note.k ≤ 16 ∧ ∀ x ∈ (askQ g frm n stamp mark).told, x.2.length ≤ 16 ∧ ∀ h ∈ x.2, h.vec.length ≤ 8 := by
  have hr : rightN n = true := by unfold oddB at ho; simp at ho; exact ho.1.1.2
  have hk : n.kind = 8 := by unfold oddB at ho; simp at ho; exact ho.1.1.1
  have h1 := right_query hr hk
  have h2 := right_k hr
  have h3 := hg.shards
  refine ⟨?_, h1.2.1, ?_, h2.1, h2.2, fun x hx => absurd hx (by simp [askQ])⟩
  · unfold askQ
    split
    · simp
    · simp; omega
  · unfold askQ
    split
    · simp
    · simp; omega

theorem askZ_ok {g : Gz} (hg : GOk g) (frm : Int) (n : Nt) (stamp mark : Int) : GOk (askZ g frm n stamp mark).2 := by
  unfold askZ
  cases ho : oddB frm n 8
  · rw [if_neg (by simp)]
    cases g.l.find? (isQ frm n) with
    | some q => exact hg
    | none =>
      simp only
      split
      · exact hg
      · split
        · exact hg
        · rename_i h8
          refine ⟨by simp; omega, hg.shards, fun q hq => ?_⟩
          rcases List.mem_append.1 hq with hq | hq
          · exact hg.each q hq
          · rw [List.mem_singleton.1 hq]; exact askQ_ok hg ho
  · exact hg

theorem dropZ_ok {g : Gz} (hg : GOk g) (k : Nat) : GOk (dropZ g k) :=
  ⟨by have := List.length_eraseIdx_le g.l k; have := hg.most; simp only [dropZ]; omega, hg.shards, fun q hq => hg.each q (List.mem_of_mem_eraseIdx hq)⟩

theorem hearAt_ok {g : Gz} (hg : GOk g) {k : Nat} {q : Qs} (hq : q ∈ g.l) {frm : Int} {n : Nt} (ho : oddB frm n 10 = false) : GOk (hearAt g k q frm n).2 := by
  have hr := right_seen (n := n) (by unfold oddB at ho; simp at ho; exact ho.1.1.2) (by unfold oddB at ho; simp at ho; exact ho.1.1.1)
  unfold hearAt
  by_cases h1 : (hasTold q.told frm || !(q.parts.any fun y => decide (frm = y))) = true
  · rw [if_pos h1]; exact hg
  · rw [if_neg h1]
    by_cases h2 : n.code ≠ 0
    · rw [if_pos h2]; exact dropZ_ok hg k
    · rw [if_neg h2]
      by_cases h3 : q.told.length + 1 < q.parts.length
      · rw [if_pos h3]
        refine ⟨by simp [toldZ]; exact hg.most, hg.shards, fun x hx => ?_⟩
        rcases List.mem_or_eq_of_mem_set hx with hx | rfl
        · exact hg.each x hx
        · obtain ⟨a, b, c, d, e, f⟩ := hg.each q hq
          refine ⟨a, b, by simpa using h3, d, e, fun y hy => ?_⟩
          rcases List.mem_append.1 hy with hy | hy
          · exact f y hy
          · rw [List.mem_singleton.1 hy]
            refine ⟨hr.1, fun h hh => ?_⟩
            have := hr.2.1 h hh
            unfold badHit rightB at this
            simp at this
            omega
      · rw [if_neg h3]; exact dropZ_ok hg k

theorem hearZ_ok {g : Gz} (hg : GOk g) (frm : Int) (n : Nt) : GOk (hearZ g frm n).2 := by
  unfold hearZ
  cases ho : oddB frm n 10
  · rw [if_neg (by simp)]
    split
    · exact hg
    · split
      · exact hg
      · rename_i hk
        exact hearAt_ok hg (List.mem_of_getElem? hk) ho
  · exact hg

theorem quit_ok {g : Gz} (hg : GOk g) : GOk {g with l := []} := ⟨by simp, hg.shards, fun q hq => absurd hq (by simp)⟩

end Go.Proofs.YtfmlhdikagogcaaDoor

namespace Go.Proofs.YtfmlhdikagogcaaDoor
open Go.RowKit
set_option maxRecDepth 20000

def nQ (i : Int) : Nt := ⟨8, 0, 0, 0, 0, 0, i, 5, 0, 0, 0, 0, [], [], [], []⟩
def nL (i : Int) : Nt := ⟨9, 0, 0, 1, 0, 0, i, 5, 0, 0, 0, 0, [], [], [], []⟩
def nS : Nt := ⟨10, 0, 0, 0, 0, 0, 1, 0, 0, 0, 0, 0, [], [], [], []⟩

/-- so many have been asked -/
def Gm : Nat → Gz
  | 0 => ⟨1, 2, 0, []⟩
  | k + 1 => if 8 ≤ k then Gm k else (askZ (Gm k) 3 (nQ k) 1 0).2

theorem gm_lo : ∀ k : Nat, k < 8 → askZ (Gm k) 3 (nQ k) 1 0 = ([(1, nL (k + 1))], Gm (k + 1))
  | 0, _ => rfl
  | 1, _ => rfl
  | 2, _ => rfl
  | 3, _ => rfl
  | 4, _ => rfl
  | 5, _ => rfl
  | 6, _ => rfl
  | 7, _ => rfl
  | k + 8, h => absurd h (by omega)

theorem gm_hi : ∀ k : Nat, 8 ≤ k → k < 11 → askZ (Gm k) 3 (nQ k) 1 0 = ([(3, resN 0 k 8 [])], Gm (k + 1))
  | 8, _, _ => rfl
  | 9, _, _ => rfl
  | 10, _, _ => rfl
  | 0, h, _ => absurd h (by omega)
  | 1, h, _ => absurd h (by omega)
  | 2, h, _ => absurd h (by omega)
  | 3, h, _ => absurd h (by omega)
  | 4, h, _ => absurd h (by omega)
  | 5, h, _ => absurd h (by omega)
  | 6, h, _ => absurd h (by omega)
  | 7, h, _ => absurd h (by omega)
  | k + 11, _, h => absurd h (by omega)

theorem gm_ok : ∀ k : Nat, GOk (Gm k)
  | 0 => ok_new 1 2 0 (by decide)
  | k + 1 => by
    unfold Gm
    split
    · exact gm_ok k
    · exact askZ_ok (gm_ok k) _ _ _ _

theorem gm_end : ∀ k : Nat, 8 ≤ k → Gm k = Gm 8
  | 0, h => absurd h (by omega)
  | k + 1, h => by
    by_cases h8 : k = 7
    · subst h8; rfl
    · have : 8 ≤ k := by omega
      rw [show Gm (k + 1) = Gm k by rw [Gm, if_pos this]]
      exact gm_end k this

def gH : Gz := (hearZ (Gm 8) 1 nS).2
def gA : Gz := (askZ gH 3 (nQ 99) 1 0).2
theorem gm_len : (Gm 8).l.length = 8 := by rfl
theorem gm_hear : hearZ (Gm 8) 1 nS = ([(3, resN 1 0 0 [])], gH) := by rfl
theorem gh_len : gH.l.length = 7 := by rfl
theorem gh_ask : askZ gH 3 (nQ 99) 1 0 = ([(1, nL 9)], gA) := by rfl
theorem ga_len : gA.l.length = 8 := by rfl
theorem ga_quit : (quitL gA).length = 8 := by rfl

/-- the first one's number, once it is known -/
def fstZ : Nat → Int
  | 0 => 0
  | _ + 1 => 1

theorem noteQ (w : World) (i : Int) : NoteV w (fun _ => False) (nQ i) (.slice none 0 0) (.slice none 0 0) (.slice none 0 0) (.slice none 0 0) := ⟨Nums.nil _ _, RecsF.nil _ _, Nums.nil _ _, HitsF.nil _ _⟩

end Go.Proofs.YtfmlhdikagogcaaDoor

namespace Go.Proofs.YtfmlhdikagogcaaDoor
open Go.RowKit
set_option maxRecDepth 20000

set_option maxHeartbeats 4000000 in
theorem gatherMost (a : Int) (ha : 0 ≤ a ∧ a ≤ 255) (w : World) (hT : Tab w) :
    Calls Tryd.prog 4 #[.int .u8 a] w fun e w' => e = .returned (.bool true) ∧ Below w.heap.size w w' := by
  have TT := Lib.hid hT
  have AW := Lib.hid (awake w hT)
  obtain ⟨kk, hkk, hkk1⟩ : ∃ kk : Nat, (kk : Int) = 8 + a % 4 ∧ 8 ≤ kk ∧ kk ≤ 11 := ⟨(8 + a % 4).toNat, by omega, by omega, by omega⟩
  have hkw : IntKind.i64.wrap (8 + a % 4) = (kk : Int) := by rw [← hkk]; simp only [IntKind.wrap, IntKind.bits, IntKind.signed]; simp; omega
  clear hT
  go_enter Tryd.func4, Tryd.ntmps4
  go_wp2_with fail
  refine AW.out.mono ?_
  rintro e w0 ⟨rfl, hb0⟩
  go_wp2_with fail
  refine (newS 1 2 0 w0 (by omega)).mono ?_
  rintro e w1 ⟨c, rfl, hG1, hb1⟩
  have B1 := Lib.hid (hb0.trans (hb1.mono hb0.size))
  have G1 := Lib.hid (hG1.mono hb0.size)
  have H0 := Lib.hid hb0.size
  clear hb0 hb1 hG1 AW
  go_wp2_with fail
  go_loopg [6, 22] kk (fun q f i wr => ∃ k : Nat, q = kk - k ∧ k ≤ kk ∧ f = .int .u64 (fstZ k) ∧ i = .int .i64 k ∧ GHas wr w.heap.size c (Gm k) ∧ Below w.heap.size w wr)
  case atStart => exact ⟨0, rfl, by omega, rfl, rfl, G1.out, B1.out⟩
  case round =>
    obtain ⟨k, rfl, hk, rfl, rfl, hG, hb⟩ := hrel
    by_cases hlt : k < kk
    · have hwk : IntKind.u64.wrap (k : Int) = k := by simp only [IntKind.wrap, IntKind.bits, IntKind.signed]; simp; omega
      by_cases h8 : k < 8
      · have ASKZ := gm_lo k h8
        have A := Lib.hid (show Calls Tryd.prog 11 #[.pointer (some ⟨c, 0, none⟩), .int .i64 3, .agg #[.int .u8 8, .int .u64 0, .int .u64 0, .int .u64 0, .int .u64 0, .int .u64 0, .int .u64 k, .int .u64 5, .int .i64 0, .int .i64 0, .int .i64 0, .int .i64 0, .slice none 0 0, .slice none 0 0, .slice none 0 0, .slice none 0 0], .int .u64 1, .int .u64 0] wr _ from askS w.heap.size c (Gm k) (nQ k) (.slice none 0 0) (.slice none 0 0) (.slice none 0 0) (.slice none 0 0) (fun _ => False) 3 1 0 wr (TT.out.below hb) hG hb.size (gm_ok k) (noteQ wr k) (by simp [nQ]) (by simp [nQ]) ASKZ)
        have Bk := Lib.hid hb
        clear hG hb
        go_wp2_with fail
        refine A.out.mono ?_
        rintro e w3 ⟨v3, rs3, G3, rfl, ho3, hs3, -, -, hG3, hb3⟩
        obtain ⟨a1, a2, a3, a4, rs4, rfl, hs4⟩ := says_cons hs3
        obtain rfl := says_nil hs4
        obtain ⟨p, m, cp, rfl⟩ := own_form ho3
        obtain ⟨b, rfl, rfl, -, -, hc⟩ := mails_at ho3 (by simp)
        have Bk3 := Lib.hid (Bk.out.trans hb3)
        have Gk := Lib.hid hG3
        have c0 : w3.cell? ⟨b, 1, none⟩ = some (.int .u8 9) := hc 0 1 _ (by simp) rfl
        have c1 : w3.cell? ⟨b, 7, none⟩ = some (.int .u64 (k + 1)) := hc 0 7 _ (by simp) rfl
        have h80 : ¬ 8 ≤ (k : Int) := by omega
        have h81 : ¬ 8 ≤ k := by omega
        have d8 : decide (8 ≤ (k : Int)) = false := decide_eq_false h80
        have d9 : decide (8 ≤ k) = false := decide_eq_false h81
        clear ASKZ
        rcases Nat.eq_zero_or_pos k with hk0 | hk0
        · have hk1 : ((k : Int) == 0) = true := by rw [hk0]; rfl
          have HK0 := Lib.hid hk0
          clear hk0
          clear hs3 hs4 ho3 hc hb3 hG3 A
          go_wp2_with fail
          go_roundg (kk - (k + 1))
          case measure => omega
          case rel => exact ⟨k + 1, rfl, by omega, (by rw [HK0.out]; rfl), by go_num, Gk.out, Bk3.out⟩
        · have hk1 : ((k : Int) == 0) = false := beq_eq_false_iff_ne.2 (by omega)
          clear hs3 hs4 ho3 hc hb3 hG3 A
          go_wp2_with fail
          go_roundg (kk - (k + 1))
          case measure => omega
          case rel => exact ⟨k + 1, rfl, by omega, (by cases k with | zero => omega | succ k => rfl), by go_num, Gk.out, Bk3.out⟩
      · have ASKZ := gm_hi k (by omega) (by omega)
        have A := Lib.hid (show Calls Tryd.prog 11 #[.pointer (some ⟨c, 0, none⟩), .int .i64 3, .agg #[.int .u8 8, .int .u64 0, .int .u64 0, .int .u64 0, .int .u64 0, .int .u64 0, .int .u64 k, .int .u64 5, .int .i64 0, .int .i64 0, .int .i64 0, .int .i64 0, .slice none 0 0, .slice none 0 0, .slice none 0 0, .slice none 0 0], .int .u64 1, .int .u64 0] wr _ from askS w.heap.size c (Gm k) (nQ k) (.slice none 0 0) (.slice none 0 0) (.slice none 0 0) (.slice none 0 0) (fun _ => False) 3 1 0 wr (TT.out.below hb) hG hb.size (gm_ok k) (noteQ wr k) (by simp [nQ]) (by simp [nQ]) ASKZ)
        have Bk := Lib.hid hb
        clear hG hb
        go_wp2_with fail
        refine A.out.mono ?_
        rintro e w3 ⟨v3, rs3, G3, rfl, ho3, hs3, -, -, hG3, hb3⟩
        obtain ⟨a1, a2, a3, a4, rs4, rfl, hs4⟩ := says_cons hs3
        obtain rfl := says_nil hs4
        obtain ⟨p, m, cp, rfl⟩ := own_form ho3
        obtain ⟨b, rfl, rfl, -, -, hc⟩ := mails_at ho3 (by simp)
        have Bk3 := Lib.hid (Bk.out.trans hb3)
        have Gk := Lib.hid hG3
        have c0 : w3.cell? ⟨b, 1, none⟩ = some (.int .u8 11) := hc 0 1 _ (by simp) rfl
        have c1 : w3.cell? ⟨b, 11, none⟩ = some (.int .i64 8) := hc 0 11 _ (by simp) rfl
        have c2 : w3.cell? ⟨b, 0, none⟩ = some (.int .i64 3) := hc 0 0 _ (by simp) rfl
        have h80 : 8 ≤ (k : Int) := by omega
        have d8 : decide (8 ≤ (k : Int)) = true := decide_eq_true h80
        have d9 : decide (8 ≤ k) = true := decide_eq_true (by omega)
        have hk1 : ((k : Int) == 0) = false := beq_eq_false_iff_ne.2 (by omega)
        clear ASKZ
        clear hs3 hs4 ho3 hc hb3 hG3 A
        go_wp2_with fail
        go_roundg (kk - (k + 1))
        case measure => omega
        case rel => exact ⟨k + 1, rfl, by omega, (by cases k with | zero => omega | succ k => rfl), by go_num, Gk.out, Bk3.out⟩
    · obtain rfl : k = kk := by omega
      have hf : fstZ k = 1 := by cases k with | zero => omega | succ k => rfl
      rw [hf]
      rw [gm_end k hkk1.1] at hG
      have Gk := Lib.hid hG
      have Bk := Lib.hid hb
      clear hG hb hf
      have LN := Lib.hid (lenS w.heap.size c (Gm 8) wr Gk.out)
      rw [gm_len] at LN
      have HR := Lib.hid (show Calls Tryd.prog 13 #[.pointer (some ⟨c, 0, none⟩), .int .i64 1, .agg #[.int .u8 10, .int .u64 0, .int .u64 0, .int .u64 0, .int .u64 0, .int .u64 0, .int .u64 1, .int .u64 0, .int .i64 0, .int .i64 0, .int .i64 0, .int .i64 0, .slice none 0 0, .slice none 0 0, .slice none 0 0, .slice none 0 0]] wr _ from hearS w.heap.size c (Gm 8) nS (.slice none 0 0) (.slice none 0 0) (.slice none 0 0) (.slice none 0 0) 1 wr wr (TT.out.below Bk.out) Gk.out (Below.refl _ _) Bk.out.size (gm_ok 8) ⟨Nums.nil _ _, RecsF.nil _ _, Nums.nil _ _, HitsF.nil _ _⟩ (by decide) (by decide) gm_hear)
      go_wp2_with fail
      refine LN.out.mono ?_
      rintro e w4 ⟨rfl, rfl⟩
      go_wp2_with fail
      refine HR.out.mono ?_
      rintro e w5 ⟨v5, rs5, G5, rfl, ho5, hs5, -, -, hG5, hb5⟩
      obtain ⟨a1, a2, a3, a4, rs6, rfl, hs6⟩ := says_cons hs5
      obtain rfl := says_nil hs6
      obtain ⟨p, m, cp, rfl⟩ := own_form ho5
      obtain rfl : m = 1 := own_len ho5
      have B5 := Lib.hid (Bk.out.trans hb5)
      have Gk5 := Lib.hid hG5
      have LN := Lib.hid (lenS w.heap.size c gH w5 hG5)
      rw [gh_len] at LN
      have okH : GOk gH := hearZ_ok (gm_ok 8) 1 nS
      have A := Lib.hid (show Calls Tryd.prog 11 #[.pointer (some ⟨c, 0, none⟩), .int .i64 3, .agg #[.int .u8 8, .int .u64 0, .int .u64 0, .int .u64 0, .int .u64 0, .int .u64 0, .int .u64 99, .int .u64 5, .int .i64 0, .int .i64 0, .int .i64 0, .int .i64 0, .slice none 0 0, .slice none 0 0, .slice none 0 0, .slice none 0 0], .int .u64 1, .int .u64 0] w5 _ from askS w.heap.size c gH (nQ 99) (.slice none 0 0) (.slice none 0 0) (.slice none 0 0) (.slice none 0 0) (fun _ => False) 3 1 0 w5 (TT.out.below B5.out) hG5 B5.out.size okH (noteQ w5 99) (by decide) (by decide) gh_ask)
      have OKA : Hid (GOk gA) := Lib.hid (askZ_ok okH _ _ _ _)
      clear hs5 hs6 ho5 hb5 hG5 HR okH
      go_wp2_with fail
      refine LN.out.mono ?_
      rintro e w6 ⟨rfl, rfl⟩
      go_wp2_with fail
      refine A.out.mono ?_
      rintro e w3 ⟨v3, rs3, G3, rfl, ho3, hs3, -, -, hG3, hb3⟩
      obtain ⟨a1, a2, a3, a4, rs4, rfl, hs4⟩ := says_cons hs3
      obtain rfl := says_nil hs4
      obtain ⟨p, m, cp, rfl⟩ := own_form ho3
      obtain ⟨b, rfl, rfl, -, -, hc⟩ := mails_at ho3 (by simp)
      have c0 : w3.cell? ⟨b, 1, none⟩ = some (.int .u8 9) := hc 0 1 _ (by simp) rfl
      have B3 := Lib.hid (B5.out.trans hb3)
      have QT := Lib.hid (quitS w.heap.size c gA w3 hG3 B3.out.size (by have := OKA.out.most; omega))
      clear hs3 hs4 ho3 hc hb3 hG3 A LN
      go_wp2_with fail
      refine QT.out.mono ?_
      rintro e w7 ⟨v7, rs7, G7, rfl, ho7, hs7, -, -, hG7, hb7⟩
      obtain ⟨p7, m7, cp7, rfl⟩ := own_form ho7
      obtain rfl : m7 = rs7.length := own_len ho7
      have h7 : rs7.length = 8 := by have := congrArg List.length hs7; rw [List.length_map, ga_quit] at this; exact this
      rw [h7]
      have B7 := Lib.hid (B3.out.trans hb7)
      have LN := Lib.hid (lenS w.heap.size c _ w7 hG7)
      clear hs7 ho7 hb7 hG7 QT h7
      go_wp2_with fail
      refine LN.out.mono ?_
      rintro e w8 ⟨rfl, rfl⟩
      go_wp2_with fail
      go_ret
      exact ⟨rfl, B7.out⟩

end Go.Proofs.YtfmlhdikagogcaaDoor
