/-
  disk: how a disk lies; power.
  disk: names; how many bytes.
-/
import Derived.Test.YtdcgooleiefljaaJ02
import Derived.Test.YtdcgooleiefljaaJ04
import Derived.Test.YtdcgooleiefljaaJ05
import Derived.Lib.OthersKept
import Derived.Lib.RuneCount
namespace Go.Proofs.Ytdcgooleiefljaa
open Go.RowKit Go.ChangeMaps

/-- a file: its name, its block, its bytes' slice, the bytes, how many are firm -/
structure Fz where
  name : List UInt8
  blk : Nat
  v : Value
  bytes : List UInt8
  firm : Nat

def encB (b : UInt8) : Value := .int .u8 (b.toNat : Int)

def filesL (F : List Fz) : List (List UInt8 × Value) := F.map fun f => (f.name, .pointer (some ⟨f.blk, 0, none⟩))

theorem KOS : KeyOf Try.prog 9 strV := string_keyOf Try.underlying9

/-- the disk at block p, its map of files at block m -/
structure DkAt (w : World) (B p m : Nat) (left : Int) (down : Bool) (room : Int) (F : List Fz) : Prop where
  cell : w.heap[p]? = some (.cells #[.int .i64 left, .bool down, .int .i64 room, .map (some m)] 56 (0, 0))
  files : MapAt w strV m (filesL F)
  file : ∀ f ∈ F, w.heap[f.blk]? = some (.cells #[f.v, .int .i64 f.firm] 59 (0, 0))
  row : ∀ f ∈ F, w.ownsRow B 5 1 f.v f.bytes.length (f.bytes.map encB)
  blks : (F.map (·.blk)).Nodup
  apart : F.Pairwise fun f g => f.v.ownBlock = none ∨ f.v.ownBlock ≠ g.v.ownBlock
  firm : ∀ f ∈ F, f.firm ≤ f.bytes.length
  low : B ≤ p ∧ B ≤ m ∧ ∀ f ∈ F, B ≤ f.blk
  big : B ≤ w.heap.size

/-- the blocks of a disk -/
def DkF (p m : Nat) (F : List Fz) (j : Nat) : Prop := j = p ∨ j = m ∨ ∃ f ∈ F, j = f.blk ∨ f.v.ownBlock = some j

theorem DkAt.names {w : World} {B p m : Nat} {left : Int} {down : Bool} {room : Int} {F : List Fz} (h : DkAt w B p m left down room F) : (F.map (·.name)).Nodup := by
  obtain ⟨es, c, hi⟩ := h.files
  have := hi.keys
  simpa [filesL, List.map_map, Function.comp_def] using this

/-- all blocks of the disk are as they were -/
theorem DkAt.keep {w w' : World} {B p m : Nat} {left : Int} {down : Bool} {room : Int} {F : List Fz} (h : DkAt w B p m left down room F) (hk : ∀ j, j < w.heap.size → DkF p m F j → w'.heap[j]? = w.heap[j]?) (hs : w.heap.size ≤ w'.heap.size) : DkAt w' B p m left down room F :=
  ⟨(hk p (lt_block h.cell) (.inl rfl)).trans h.cell, h.files.kept (hk m h.files.lt (.inr (.inl rfl))), fun f hf => (hk f.blk (lt_block (h.file f hf)) (.inr (.inr ⟨f, hf, .inl rfl⟩))).trans (h.file f hf),
    fun f hf => own_agree (h.row f hf) fun k hk2 => hk k ((h.row f hf).lt k hk2).2 (.inr (.inr ⟨f, hf, .inr hk2⟩)), h.blks, h.apart, h.firm, h.low, Nat.le_trans h.big hs⟩

theorem DkAt.below {w w' : World} {B p m : Nat} {left : Int} {down : Bool} {room : Int} {F : List Fz} (h : DkAt w B p m left down room F) (hb : Below w.heap.size w w') : DkAt w' B p m left down room F :=
  h.keep (fun j hj _ => hb.block j hj) hb.size

theorem DkAt.lt {w : World} {B p m : Nat} {left : Int} {down : Bool} {room : Int} {F : List Fz} (h : DkAt w B p m left down room F) : ∀ j, DkF p m F j → B ≤ j ∧ j < w.heap.size := by
  rintro j (rfl | rfl | ⟨f, hf, rfl | hj⟩)
  · exact ⟨h.low.1, lt_block h.cell⟩
  · exact ⟨h.low.2.1, h.files.lt⟩
  · exact ⟨h.low.2.2 f hf, lt_block (h.file f hf)⟩
  · exact (h.row f hf).lt j hj

/-- block j holds cells of the type T -/
def OfTy (w : World) (T : TypeId) (j : Nat) : Prop := ∃ cs fr, w.heap[j]? = some (.cells cs T fr)

theorem own_ty {w : World} {B e s n : Nat} {v : Value} {xs : List Value} (h : w.ownsRow B e s v n xs) {b : Nat} (hb : v.ownBlock = some b) : OfTy w e b := by
  rcases h.2 with ⟨hv, -⟩ | ⟨g, cap, cur, hv, -, hg, -⟩
  · rw [hv] at hb; cases hb
  · rw [hv] at hb
    obtain rfl : g = b := by simpa [Value.ownBlock] using hb
    exact ⟨_, _, hg⟩

theorem OfTy.ne {w : World} {T U : TypeId} {j : Nat} (h : OfTy w T j) (g : OfTy w U j) : T = U := by
  obtain ⟨cs, fr, h⟩ := h
  obtain ⟨ds, gr, g⟩ := g
  rw [h] at g
  cases g; rfl

theorem setBlk {w : World} {b : Nat} {cs : Array Value} {t : TypeId} {fr : Nat × Nat} (h : w.heap[b]? = some (.cells cs t fr)) (j : Nat) (v : Value) : (w.setCell ⟨b, j, none⟩ v).heap[b]? = some (.cells (cs.setIfInBounds j v) t fr) := by
  simp only [World.setCell]
  rw [Array.getElem?_modify, if_pos rfl, h]
  rfl

theorem cellsG {w : World} {b : Nat} {cs : Array Value} {t : TypeId} {fr : Nat × Nat} (h : w.heap[b]? = some (.cells cs t fr)) (j : Nat) : w.cell? ⟨b, j, none⟩ = cs[j]? := by simp [World.cell?, h]

theorem thawedG {w : World} {b : Nat} {cs : Array Value} {t : TypeId} (h : w.heap[b]? = some (.cells cs t (0, 0))) (j : Nat) : w.frozen? ⟨b, j, none⟩ = false := by simp [World.frozen?, h]

/-- p is no other of the disk's blocks -/
theorem DkAt.self {w : World} {B p m : Nat} {left : Int} {down : Bool} {room : Int} {F : List Fz} (h : DkAt w B p m left down room F) : p ≠ m ∧ ∀ f ∈ F, p ≠ f.blk ∧ f.v.ownBlock ≠ some p := by
  have hp : OfTy w 56 p := ⟨_, _, h.cell⟩
  refine ⟨?_, fun f hf => ⟨?_, fun e => ?_⟩⟩
  · rintro rfl
    obtain ⟨es, c, hi⟩ := h.files
    have := hi.obj
    rw [h.cell] at this
    cases this
  · intro e
    exact absurd (hp.ne ⟨_, _, e ▸ h.file f hf⟩) (by decide)
  · exact absurd (hp.ne (own_ty (h.row f hf) e)) (by decide)

/-- the power's cells are written -/
theorem DkAt.power {w w' : World} {B p m : Nat} {left left' : Int} {down down' : Bool} {room : Int} {F : List Fz} (h : DkAt w B p m left down room F) (hc : w'.heap[p]? = some (.cells #[.int .i64 left', .bool down', .int .i64 room, .map (some m)] 56 (0, 0))) (hm : Mod (fun j => j = p) w w') : DkAt w' B p m left' down' room F := by
  obtain ⟨h1, h2⟩ := h.self
  have hk : ∀ j, j < w.heap.size → j ≠ p → w'.heap[j]? = w.heap[j]? := fun j hj hne => hm.block j hj hne
  exact ⟨hc, h.files.kept (hk m h.files.lt h1.symm), fun f hf => (hk _ (lt_block (h.file f hf)) (h2 f hf).1.symm).trans (h.file f hf), fun f hf => own_agree (h.row f hf) fun k hk2 => hk k ((h.row f hf).lt k hk2).2 (by rintro rfl; exact (h2 f hf).2 hk2),
    h.blks, h.apart, h.firm, h.low, Nat.le_trans h.big hm.size⟩

/-- what a change costs -/
def spendZ (left : Int) (down : Bool) : Bool × Int × Bool := if down = true ∨ left = 0 then (false, left, true) else (true, max (left - 1) (-1), down)

theorem max2i (a b : Int) (w : World) : (Builtin.max_ #[3, 3] 3 #[.int .i64 a, .int .i64 b]).run Try.prog w = .ok (.int .i64 (max a b)) w := by
  simp [Builtin.max_, Builtin.max2]
  split <;> omega

set_option maxHeartbeats 2000000 in
theorem dkSpend (w : World) (B p m : Nat) (left : Int) (down : Bool) (room : Int) (F : List Fz) (h : DkAt w B p m left down room F) (hl : -1 ≤ left ∧ left ≤ 9223372036854775807) :
    Calls Try.prog 35 #[.pointer (some ⟨p, 0, none⟩)] w fun e w' => e = .returned (.bool (spendZ left down).1) ∧ DkAt w' B p m (spendZ left down).2.1 (spendZ left down).2.2 room F ∧ Mod (fun j => j = p) w w' := by
  have c0 : w.cell? ⟨p, 0, none⟩ = some (.int .i64 left) := by simp [World.cell?, h.cell]
  have c1 : w.cell? ⟨p, 1, none⟩ = some (.bool down) := by simp [World.cell?, h.cell]
  have f0 : w.frozen? ⟨p, 0, none⟩ = false := by simp [World.frozen?, h.cell]
  have f1 : w.frozen? ⟨p, 1, none⟩ = false := by simp [World.frozen?, h.cell]
  have set1 : ∀ v, Mod (fun j => j = p) w (w.setCell ⟨p, 1, none⟩ v) := fun v => Mod.setCell (F := fun j => j = p) (Mod.refl _ w) (p := ⟨p, 1, none⟩) (.inl rfl) v
  have set0 : ∀ v, Mod (fun j => j = p) w (w.setCell ⟨p, 0, none⟩ v) := fun v => Mod.setCell (F := fun j => j = p) (Mod.refl _ w) (p := ⟨p, 0, none⟩) (.inl rfl) v
  have hc1 := setBlk h.cell 1 (.bool true)
  have H := Lib.hid h
  have HS := Lib.hid (And.intro set0 set1)
  cases down with
  | true =>
    have hz : spendZ left true = (false, left, true) := by simp [spendZ]
    rw [hz]
    have HC := Lib.hid hc1
    clear h set0 set1 hc1 hz
    go_enter Try.func35, Try.ntmps35
    go_wp2_with fail
    go_ret
    exact ⟨rfl, H.out.power (by simpa using HC.out) (HS.out.2 _), HS.out.2 _⟩
  | false =>
    by_cases h0 : left = 0
    · subst h0
      have hz : spendZ 0 false = (false, 0, true) := by simp [spendZ]
      rw [hz]
      have HC := Lib.hid hc1
      clear h set0 set1 hc1 hz
      go_enter Try.func35, Try.ntmps35
      go_wp2_with fail
      go_ret
      exact ⟨rfl, H.out.power (by simpa using HC.out) (HS.out.2 _), HS.out.2 _⟩
    · have hz : spendZ left false = (true, max (left - 1) (-1), false) := by simp [spendZ, h0]
      rw [hz]
      have hmx := max2i (left - 1) (-1)
      obtain ⟨mx, hm⟩ : ∃ mx, mx = max (left - 1) (-1) := ⟨_, rfl⟩
      rw [← hm] at hmx ⊢
      have hc0 := setBlk h.cell 0 (.int .i64 mx)
      have b1 : (left == 0) = false := by simp [h0]
      have hw : IntKind.i64.wrap (left - 1) = left - 1 := by simp [IntKind.wrap, IntKind.signed, IntKind.bits] <;> omega
      have HC := Lib.hid hc0
      clear h set0 set1 hc1 hz hc0 hm h0
      go_enter Try.func35, Try.ntmps35
      go_wp2_with fail
      go_ret
      exact ⟨rfl, H.out.power (by simpa using HC.out) (HS.out.1 _), HS.out.1 _⟩

theorem dkUp (w : World) (B p m : Nat) (left : Int) (down : Bool) (room : Int) (F : List Fz) (h : DkAt w B p m left down room F) :
    Calls Try.prog 22 #[.pointer (some ⟨p, 0, none⟩)] w fun e w' => e = .returned (.bool (!down)) ∧ w' = w := by
  have c1 : w.cell? ⟨p, 1, none⟩ = some (.bool down) := by simp [World.cell?, h.cell]
  have cU : Calls Try.prog 34 #[.pointer (some ⟨p, 0, none⟩)] w fun e w' => e = .returned (.bool (!down)) ∧ w' = w := by
    clear h
    go_enter Try.func34, Try.ntmps34
    go_wp2_with fail
    go_ret
    exact ⟨rfl, rfl⟩
  clear h
  go_enter Try.func22, Try.ntmps22
  go_wp2_with (go_at_call 34; refine cU.mono ?_; rintro e w' ⟨rfl, rfl⟩)
  go_ret
  exact ⟨rfl, rfl⟩

end Go.Proofs.Ytdcgooleiefljaa

namespace Go.Proofs.Ytdcgooleiefljaa
open Go.RowKit Go.ChangeMaps

def badR (r : Int) : Bool := (decide (r < 97) || decide (122 < r)) && (decide (r < 48) || decide (57 < r))

/-- from place pos on, no letter but right ones -/
def rightF (s : ByteArray) : Nat → Nat → Bool
  | 0, _ => true
  | k + 1, pos => if pos < s.size then (if badR (Utf8.decode s pos).1 then false else rightF s k (pos + (Utf8.decode s pos).2)) else true

def rightS (s : ByteArray) : Bool := rightF s s.size 0 && (!s.toList.isEmpty && decide (s.size ≤ 8))

def rightZ (name : List UInt8) : Bool := rightS ⟨name.toArray⟩

set_option maxHeartbeats 4000000 in
theorem dkRightS (w : World) (s : ByteArray) :
    Calls Try.prog 26 #[.string s] w fun e w' => e = .returned (.bool (rightS s)) ∧ Below w.heap.size w w' := by
  obtain ⟨R, hR⟩ : ∃ R, R = rightF s s.size 0 := ⟨_, rfl⟩
  obtain ⟨E, hE⟩ : ∃ E, E = s.toList.isEmpty := ⟨_, rfl⟩
  have hrs : rightS s = (R && (!E && decide (s.size ≤ 8))) := by rw [rightS, ← hR, ← hE]
  rw [hrs]
  have hrg := run_range_string (P := Try.prog) w 9 s Try.underlying9
  have hit := World.iter_heap w s 0
  have hbl : Below w.heap.size w (w.iter s 0) := (Below.refl _ w).alloc (Nat.le_refl _) _
  have IT := Lib.hid (And.intro hit hbl)
  have HR := Lib.hid hR
  have HE := Lib.hid hE
  clear hR hE hrs hit hbl
  go_enter Try.func26, Try.ntmps26
  go_wp2_with fail
  go_loopg [4] s.size (fun q _ wq => ∃ pos k, q = s.size - pos ∧ s.size - pos ≤ k ∧ wq.heap[w.heap.size]? = some (.stringIter s pos) ∧ Below w.heap.size w wq ∧ R = rightF s k pos)
  case atStart => exact ⟨0, s.size, rfl, by omega, IT.out.1, IT.out.2, HR.out⟩
  case round =>
    obtain ⟨pos, k, rfl, hk, hi, hb, hR⟩ := hrel
    by_cases hlt : pos < s.size
    · obtain ⟨k, rfl⟩ : ∃ k', k = k' + 1 := ⟨k - 1, by omega⟩
      have hnx := Lib.run_next_any_at (P := Try.prog) wr w.heap.size s pos
      have hwd := Lib.decode_width_pos s pos hlt
      rw [rightF, if_pos hlt] at hR
      obtain ⟨r, d, hd⟩ : ∃ r d, Utf8.decode s pos = (r, d) := ⟨_, _, rfl⟩
      rw [hd] at hwd hR
      have hnx := fun ty => hnx ty hi hlt
      rw [hd] at hnx
      simp only at hwd hR hnx
      obtain ⟨W, hW⟩ : ∃ W, W = wr.iterAt w.heap.size s (pos + d) := ⟨_, rfl⟩
      have hi2 := Lib.iterAt_heap wr w.heap.size s pos (pos + d) hi
      have hb2 := Lib.below_iterAt hb (Nat.le_refl _) s (pos + d)
      rw [← hW] at hnx hi2 hb2
      have I := Lib.hid (And.intro hi2 hb2)
      have L := Lib.hid (And.intro hk (And.intro hlt hwd))
      clear hi hb hd hW hi2 hb2 hk hlt hwd
      rcases (by omega : (r : Int) < 48 ∨ (48 ≤ (r : Int) ∧ (r : Int) ≤ 57) ∨ (57 < (r : Int) ∧ (r : Int) < 97) ∨ (97 ≤ (r : Int) ∧ (r : Int) ≤ 122) ∨ 122 < (r : Int)) with h | h | h | h | h
      · have d1 : decide ((r : Int) < 97) = true := by simp; omega
        have d2 : decide (122 < (r : Int)) = false := by simp; omega
        have d3 : decide ((r : Int) < 48) = true := by simp; omega
        have d4 : decide (57 < (r : Int)) = false := by simp; omega
        have hbad : badR r = true := by simp only [badR, d1, d2, d3, d4]; rfl
        rw [hbad] at hR
        clear h hbad
        simp only [if_true] at hR
        subst hR
        clear HR
        go_wp2_with fail
        go_ret
        exact ⟨rfl, I.out.2⟩
      · have d1 : decide ((r : Int) < 97) = true := by simp; omega
        have d2 : decide (122 < (r : Int)) = false := by simp; omega
        have d3 : decide ((r : Int) < 48) = false := by simp; omega
        have d4 : decide (57 < (r : Int)) = false := by simp; omega
        have hbad : badR r = false := by simp only [badR, d1, d2, d3, d4]; rfl
        rw [hbad] at hR
        clear h hbad
        simp only [Bool.false_eq_true, if_false] at hR
        have HK := Lib.hid hR
        clear HR hR
        go_wp2_with fail
        go_roundg (s.size - (pos + d))
        case measure => have := L.out; omega
        case rel => exact ⟨pos + d, k, rfl, by have := L.out; omega, I.out.1, I.out.2, HK.out⟩
      · have d1 : decide ((r : Int) < 97) = true := by simp; omega
        have d2 : decide (122 < (r : Int)) = false := by simp; omega
        have d3 : decide ((r : Int) < 48) = false := by simp; omega
        have d4 : decide (57 < (r : Int)) = true := by simp; omega
        have hbad : badR r = true := by simp only [badR, d1, d2, d3, d4]; rfl
        rw [hbad] at hR
        clear h hbad
        simp only [if_true] at hR
        subst hR
        clear HR
        go_wp2_with fail
        go_ret
        exact ⟨rfl, I.out.2⟩
      · have d1 : decide ((r : Int) < 97) = false := by simp; omega
        have d2 : decide (122 < (r : Int)) = false := by simp; omega
        have d3 : decide ((r : Int) < 48) = false := by simp; omega
        have d4 : decide (57 < (r : Int)) = true := by simp; omega
        have hbad : badR r = false := by simp only [badR, d1, d2, d3, d4]; rfl
        rw [hbad] at hR
        clear h hbad
        simp only [Bool.false_eq_true, if_false] at hR
        have HK := Lib.hid hR
        clear HR hR
        go_wp2_with fail
        go_roundg (s.size - (pos + d))
        case measure => have := L.out; omega
        case rel => exact ⟨pos + d, k, rfl, by have := L.out; omega, I.out.1, I.out.2, HK.out⟩
      · have d1 : decide ((r : Int) < 97) = false := by simp; omega
        have d2 : decide (122 < (r : Int)) = true := by simp; omega
        have d3 : decide ((r : Int) < 48) = false := by simp; omega
        have d4 : decide (57 < (r : Int)) = true := by simp; omega
        have hbad : badR r = true := by simp only [badR, d1, d2, d3, d4]; rfl
        rw [hbad] at hR
        clear h hbad
        simp only [if_true] at hR
        subst hR
        clear HR
        go_wp2_with fail
        go_ret
        exact ⟨rfl, I.out.2⟩
    · have hnx := fun ty => Lib.run_next_end_at (P := Try.prog) wr w.heap.size s pos ty hi hlt
      have hRt : R = true := by
        rw [hR]
        cases k with
        | zero => rfl
        | succ k => rw [rightF, if_neg hlt]
      subst hRt
      have I := Lib.hid hb
      clear hi hb hR hk hlt HR
      have hE := HE.out.symm
      clear HE
      cases E with
      | true =>
        go_wp2_with fail
        go_ret
        exact ⟨rfl, I.out⟩
      | false =>
        go_wp2_with fail
        go_ret
        exact ⟨ret_bool (show decide ((s.size : Int) ≤ 8) = decide (s.size ≤ 8) from by rw [decide_eq_decide]; omega), I.out⟩

theorem dkRight (w : World) (name : List UInt8) :
    Calls Try.prog 26 #[strV name] w fun e w' => e = .returned (.bool (rightZ name)) ∧ Below w.heap.size w w' := dkRightS w _

end Go.Proofs.Ytdcgooleiefljaa
