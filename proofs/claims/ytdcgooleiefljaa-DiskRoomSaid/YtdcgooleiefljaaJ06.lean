/-
  What a call may turn: the blocks of a set F, and new ones. Data with the set of blocks that it is read from.
  disk: how a disk lies; power.
-/
import Derived.Test.YtdcgooleiefljaaJ02
import Derived.Test.YtdcgooleiefljaaJ04
import Derived.Test.YtdcgooleiefljaaJ03
namespace Go.Proofs.Ytdcgooleiefljaa
open Go.RowKit

/-- of what was there nothing outside F has turned -/
structure Mod (F : Nat → Prop) (w w' : World) : Prop where
  os : w'.os = w.os
  tape : w'.tape = w.tape
  output : w'.output = w.output
  size : w.heap.size ≤ w'.heap.size
  block : ∀ k, k < w.heap.size → ¬ F k → w'.heap[k]? = w.heap[k]?

theorem Mod.refl (F : Nat → Prop) (w : World) : Mod F w w := ⟨rfl, rfl, rfl, Nat.le_refl _, fun _ _ _ => rfl⟩

theorem Mod.trans {F G : Nat → Prop} {a b c : World} (h : Mod F a b) (g : Mod G b c) (hs : ∀ k, k < a.heap.size → G k → F k) : Mod F a c :=
  ⟨g.os.trans h.os, g.tape.trans h.tape, g.output.trans h.output, Nat.le_trans h.size g.size, fun k hk hf => (g.block k (Nat.lt_of_lt_of_le hk h.size) fun hg => hf (hs k hk hg)).trans (h.block k hk hf)⟩

theorem Mod.mono {F G : Nat → Prop} {a b : World} (h : Mod F a b) (hs : ∀ k, k < a.heap.size → F k → G k) : Mod G a b :=
  ⟨h.os, h.tape, h.output, h.size, fun k hk hg => h.block k hk fun hf => hg (hs k hk hf)⟩

theorem Mod.of_below {F : Nat → Prop} {w w' : World} (h : Below w.heap.size w w') : Mod F w w' := ⟨h.os, h.tape, h.output, h.size, fun k hk _ => h.block k hk⟩

theorem Mod.below {F : Nat → Prop} {B : Nat} {w w' : World} (h : Mod F w w') (hB : B ≤ w.heap.size) (hF : ∀ k, F k → B ≤ k) : Below B w w' :=
  ⟨h.os, h.tape, h.output, h.size, fun k hk => h.block k (by omega) fun hf => by have := hF k hf; omega⟩

/-- what holds below a number, seen from an earlier world -/
theorem Mod.of_belowB {F : Nat → Prop} {B : Nat} {w w' : World} (h : Below B w w') (hF : ∀ k, k < w.heap.size → B ≤ k → F k) : Mod F w w' :=
  ⟨h.os, h.tape, h.output, h.size, fun k hk hf => h.block k (by rcases Nat.lt_or_ge k B with h1 | h1; exact h1; exact absurd (hF k hk h1) hf)⟩

theorem Mod.andBelow {F : Nat → Prop} {a b c : World} (h : Mod F a b) (g : Below b.heap.size b c) : Mod F a c :=
  h.trans (G := fun _ => False) (Mod.of_below g) fun _ _ hf => hf.elim

theorem Mod.setCell {F : Nat → Prop} {a b : World} (h : Mod F a b) {p : Addr} (hp : F p.block ∨ a.heap.size ≤ p.block) (u : Value) : Mod F a (b.setCell p u) :=
  ⟨h.os, h.tape, h.output, by simpa [World.setCell] using h.size, fun k hk hf => by
    rw [Below.heap_setCell _ _ _ _ (by rintro rfl; rcases hp with hp | hp; exact hf hp; omega)]
    exact h.block k hk hf⟩

theorem Mod.grown {F : Nat → Prop} {a b c : World} {row : Option Nat} (h : Mod F a b) (hg : b.grownBy c row) (hr : ∀ k, row = some k → F k ∨ a.heap.size ≤ k) : Mod F a c :=
  ⟨hg.os.trans h.os, hg.tape.trans h.tape, hg.output.trans h.output, Nat.le_trans h.size hg.size, fun k hk hf => by
    rw [hg.block k (Nat.lt_of_lt_of_le hk h.size) (fun e => by rcases hr k e.symm with h1 | h1; exact hf h1; omega)]
    exact h.block k hk hf⟩

theorem Mod.drewN {F : Nat → Prop} {a b : World} (h : Mod F a b) (n : Nat) : Mod F a (b.drewN n) := h.andBelow (below_drewN (Below.refl _ _) n)

/-- w' holds what w holds in the blocks of F -/
def Agree (F : Nat → Prop) (w w' : World) : Prop := ∀ k, F k → w'.heap[k]? = w.heap[k]?

theorem Agree.of_below {F : Nat → Prop} {w w' : World} (h : Below w.heap.size w w') (hl : ∀ k, F k → k < w.heap.size) : Agree F w w' := fun k hk => h.block k (hl k hk)
theorem Agree.of_mod {F G : Nat → Prop} {w w' : World} (h : Mod G w w') (hl : ∀ k, F k → k < w.heap.size) (hd : ∀ k, F k → ¬ G k) : Agree F w w' := fun k hk => h.block k (hl k hk) (hd k hk)
theorem Agree.cell {F : Nat → Prop} {w w' : World} (h : Agree F w w') {a : Addr} (ha : F a.block) : w'.cell? a = w.cell? a := World.cell?_of_block (h _ ha)

/-- the slice lies in F -/
def LiesIn (F : Nat → Prop) (v : Value) (n : Nat) : Prop := 0 < n → ∀ b, v.ownBlock = some b → F b

theorem LiesIn.mono {F G : Nat → Prop} {v : Value} {n : Nat} (h : LiesIn F v n) (hs : ∀ k, F k → G k) : LiesIn G v n := fun hn b hb => hs b (h hn b hb)

theorem Nums.agree {F : Nat → Prop} {w w' : World} {k : IntKind} {v : Value} {xs : List Int} (h : Nums w k v xs) (hl : LiesIn F v xs.length) (ha : Agree F w w') : Nums w' k v xs := by
  obtain ⟨p, cap, rfl, h1, h2, h3, h4⟩ := h.slice
  refine Nums.mk h1 h2 h3 fun i hi => ?_
  obtain ⟨b, off, rfl, hc⟩ := h4 i hi
  exact ⟨b, off, rfl, by rw [ha.cell (hl (by omega) b rfl)]; exact hc⟩

/-- a slice of pairs, and all that they reach, lies in F -/
def RecsF (w : World) (F : Nat → Prop) (v : Value) (l : List (Int × List Int)) : Prop :=
  ∃ p cap, v = .slice p l.length cap ∧ l.length ≤ cap ∧ cap ≤ 9223372036854775807 ∧ (p = none → cap = 0) ∧
    ∀ i (hi : i < l.length), ∃ b off u, p = some ⟨b, off, none⟩ ∧ F b ∧ w.cell? ⟨b, off + i * 2, none⟩ = some (.int .u64 l[i].1) ∧ w.cell? ⟨b, off + i * 2 + 1, none⟩ = some u ∧ Nums w .i32 u l[i].2 ∧ LiesIn F u l[i].2.length

theorem RecsF.recs {w : World} {F : Nat → Prop} {v : Value} {l : List (Int × List Int)} (h : RecsF w F v l) : Recs w v l := by
  obtain ⟨p, cap, hv, h1, h2, h3, h4⟩ := h
  refine ⟨p, cap, hv, h1, h2, h3, fun i hi => ?_⟩
  obtain ⟨b, off, u, hp, _, c0, c1, hn, _⟩ := h4 i hi
  exact ⟨b, off, u, hp, c0, c1, hn⟩

theorem RecsF.agree {w w' : World} {F : Nat → Prop} {v : Value} {l : List (Int × List Int)} (h : RecsF w F v l) (ha : Agree F w w') : RecsF w' F v l := by
  obtain ⟨p, cap, hv, h1, h2, h3, h4⟩ := h
  refine ⟨p, cap, hv, h1, h2, h3, fun i hi => ?_⟩
  obtain ⟨b, off, u, hp, hf, c0, c1, hn, hl⟩ := h4 i hi
  exact ⟨b, off, u, hp, hf, by rw [ha.cell hf]; exact c0, by rw [ha.cell hf]; exact c1, hn.agree hl ha, hl⟩

theorem RecsF.mono {w : World} {F G : Nat → Prop} {v : Value} {l : List (Int × List Int)} (h : RecsF w F v l) (hs : ∀ k, F k → G k) : RecsF w G v l := by
  obtain ⟨p, cap, hv, h1, h2, h3, h4⟩ := h
  refine ⟨p, cap, hv, h1, h2, h3, fun i hi => ?_⟩
  obtain ⟨b, off, u, hp, hf, c0, c1, hn, hl⟩ := h4 i hi
  exact ⟨b, off, u, hp, hs _ hf, c0, c1, hn, hl.mono hs⟩

theorem RecsF.nil (w : World) (F : Nat → Prop) : RecsF w F (.slice none 0 0) [] := ⟨none, 0, rfl, by simp, by simp, by simp, fun i hi => absurd hi (by simp)⟩

theorem RecsF.elem {w : World} {F : Nat → Prop} {p : Option Addr} {n cap : Nat} {l : List (Int × List Int)} (h : RecsF w F (.slice p n cap) l) {i : Nat} (hi : i < l.length) :
    ∃ b off u, p = some ⟨b, off, none⟩ ∧ F b ∧ w.cell? ⟨b, off + i * 2, none⟩ = some (.int .u64 l[i].1) ∧ w.cell? ⟨b, off + i * 2 + 1, none⟩ = some u ∧ Nums w .i32 u l[i].2 ∧ LiesIn F u l[i].2.length := by
  obtain ⟨p', cap', hv, _, _, _, h⟩ := h
  simp only [Value.slice.injEq] at hv
  obtain ⟨rfl, _, _⟩ := hv
  exact h i hi

/-- a row of the call's own in F -/
theorem own_lies {F : Nat → Prop} {v : Value} (h : ∀ b, v.ownBlock = some b → F b) (n : Nat) : LiesIn F v n := fun _ => h

theorem RecsF.of_own {w : World} {F : Nat → Prop} {B e n : Nat} {v : Value} {rs : List (Int × Value)} {l : List (Int × List Int)} (h : w.ownsRow B e 2 v n (flat2 rs)) (hv : ∀ b, v.ownBlock = some b → F b)
    (hlen : rs.length = l.length) (hr : ∀ i (h1 : i < rs.length) (h2 : i < l.length), rs[i].1 = l[i].1 ∧ Nums w .i32 rs[i].2 l[i].2 ∧ LiesIn F rs[i].2 l[i].2.length) : RecsF w F v l := by
  obtain ⟨h1, h2⟩ := h
  rw [flat2_length] at h1
  have hn : n = l.length := by omega
  subst hn
  rcases h2 with ⟨h2, h3⟩ | ⟨g, cap, cur, hvv, hb, hg, hn, hc, hs, ht⟩
  · have : l = [] := List.eq_nil_of_length_eq_zero h3
    subst this
    rw [h2]; exact RecsF.nil _ _
  · refine ⟨_, cap, hvv, hn, by simpa [maxLen] using hc, by simp, fun i hi => ?_⟩
    have hir : i < rs.length := by rw [hlen]; exact hi
    have hf := flat2_get rs i hir
    have ha := hr i hir hi
    have hcell : ∀ j u, (flat2 rs)[j]? = some u → w.cell? ⟨g, j, none⟩ = some u := by
      intro j u hj
      rw [← ht, List.getElem?_take] at hj
      split at hj
      · simp only [World.cell?, hg]; simpa using hj
      · cases hj
    refine ⟨g, 0, rs[i].2, rfl, hv g (by rw [hvv]; rfl), ?_, ?_, ha.2.1, ha.2.2⟩
    · rw [Nat.zero_add, ← ha.1]; exact hcell _ _ hf.1
    · rw [Nat.zero_add]; exact hcell _ _ hf.2

end Go.Proofs.Ytdcgooleiefljaa

namespace Go.Proofs.Ytdcgooleiefljaa
open Go.RowKit Go.ChangeMaps

/-- a file: its name, its block, its bytes' slice, the bytes, how many are firm -/
structure Fz where
  name : List UInt8
  blk : Nat
  v : Value
  bytes : List UInt8
  firm : Nat

def encB (b : UInt8) : Value := .int .u8 (b.toNat : Int)

def filesL (F : List Fz) : List (List UInt8 × Value) := F.map fun f => (f.name, .pointer (some ⟨f.blk, 0, none⟩))

theorem KOS : KeyOf Try.prog 9 strV := string_keyOf Try.underlying9

/-- the disk at block p, its map of files at block m -/
structure DkAt (w : World) (B p m : Nat) (left : Int) (down : Bool) (room : Int) (F : List Fz) : Prop where
  cell : w.heap[p]? = some (.cells #[.int .i64 left, .bool down, .int .i64 room, .map (some m)] 56 (0, 0))
  files : MapAt w strV m (filesL F)
  file : ∀ f ∈ F, w.heap[f.blk]? = some (.cells #[f.v, .int .i64 f.firm] 59 (0, 0))
  row : ∀ f ∈ F, w.ownsRow B 5 1 f.v f.bytes.length (f.bytes.map encB)
  blks : (F.map (·.blk)).Nodup
  apart : F.Pairwise fun f g => f.v.ownBlock = none ∨ f.v.ownBlock ≠ g.v.ownBlock
  firm : ∀ f ∈ F, f.firm ≤ f.bytes.length
  low : B ≤ p ∧ B ≤ m ∧ ∀ f ∈ F, B ≤ f.blk
  big : B ≤ w.heap.size

/-- the blocks of a disk -/
def DkF (p m : Nat) (F : List Fz) (j : Nat) : Prop := j = p ∨ j = m ∨ ∃ f ∈ F, j = f.blk ∨ f.v.ownBlock = some j

theorem DkAt.names {w : World} {B p m : Nat} {left : Int} {down : Bool} {room : Int} {F : List Fz} (h : DkAt w B p m left down room F) : (F.map (·.name)).Nodup := by
  obtain ⟨es, c, hi⟩ := h.files
  have := hi.keys
  simpa [filesL, List.map_map, Function.comp_def] using this

/-- all blocks of the disk are as they were -/
theorem DkAt.keep {w w' : World} {B p m : Nat} {left : Int} {down : Bool} {room : Int} {F : List Fz} (h : DkAt w B p m left down room F) (hk : ∀ j, j < w.heap.size → DkF p m F j → w'.heap[j]? = w.heap[j]?) (hs : w.heap.size ≤ w'.heap.size) : DkAt w' B p m left down room F :=
  ⟨(hk p (lt_block h.cell) (.inl rfl)).trans h.cell, h.files.kept (hk m h.files.lt (.inr (.inl rfl))), fun f hf => (hk f.blk (lt_block (h.file f hf)) (.inr (.inr ⟨f, hf, .inl rfl⟩))).trans (h.file f hf),
    fun f hf => own_agree (h.row f hf) fun k hk2 => hk k ((h.row f hf).lt k hk2).2 (.inr (.inr ⟨f, hf, .inr hk2⟩)), h.blks, h.apart, h.firm, h.low, Nat.le_trans h.big hs⟩

theorem DkAt.below {w w' : World} {B p m : Nat} {left : Int} {down : Bool} {room : Int} {F : List Fz} (h : DkAt w B p m left down room F) (hb : Below w.heap.size w w') : DkAt w' B p m left down room F :=
  h.keep (fun j hj _ => hb.block j hj) hb.size

theorem DkAt.lt {w : World} {B p m : Nat} {left : Int} {down : Bool} {room : Int} {F : List Fz} (h : DkAt w B p m left down room F) : ∀ j, DkF p m F j → B ≤ j ∧ j < w.heap.size := by
  rintro j (rfl | rfl | ⟨f, hf, rfl | hj⟩)
  · exact ⟨h.low.1, lt_block h.cell⟩
  · exact ⟨h.low.2.1, h.files.lt⟩
  · exact ⟨h.low.2.2 f hf, lt_block (h.file f hf)⟩
  · exact (h.row f hf).lt j hj

/-- block j holds cells of the type T -/
def OfTy (w : World) (T : TypeId) (j : Nat) : Prop := ∃ cs fr, w.heap[j]? = some (.cells cs T fr)

theorem own_ty {w : World} {B e s n : Nat} {v : Value} {xs : List Value} (h : w.ownsRow B e s v n xs) {b : Nat} (hb : v.ownBlock = some b) : OfTy w e b := by
  rcases h.2 with ⟨hv, -⟩ | ⟨g, cap, cur, hv, -, hg, -⟩
  · rw [hv] at hb; cases hb
  · rw [hv] at hb
    obtain rfl : g = b := by simpa [Value.ownBlock] using hb
    exact ⟨_, _, hg⟩

theorem OfTy.ne {w : World} {T U : TypeId} {j : Nat} (h : OfTy w T j) (g : OfTy w U j) : T = U := by
  obtain ⟨cs, fr, h⟩ := h
  obtain ⟨ds, gr, g⟩ := g
  rw [h] at g
  cases g; rfl

theorem setBlk {w : World} {b : Nat} {cs : Array Value} {t : TypeId} {fr : Nat × Nat} (h : w.heap[b]? = some (.cells cs t fr)) (j : Nat) (v : Value) : (w.setCell ⟨b, j, none⟩ v).heap[b]? = some (.cells (cs.setIfInBounds j v) t fr) := by
  simp only [World.setCell]
  rw [Array.getElem?_modify, if_pos rfl, h]
  rfl

theorem cellsG {w : World} {b : Nat} {cs : Array Value} {t : TypeId} {fr : Nat × Nat} (h : w.heap[b]? = some (.cells cs t fr)) (j : Nat) : w.cell? ⟨b, j, none⟩ = cs[j]? := by simp [World.cell?, h]

theorem thawedG {w : World} {b : Nat} {cs : Array Value} {t : TypeId} (h : w.heap[b]? = some (.cells cs t (0, 0))) (j : Nat) : w.frozen? ⟨b, j, none⟩ = false := by simp [World.frozen?, h]

/-- p is no other of the disk's blocks -/
theorem DkAt.self {w : World} {B p m : Nat} {left : Int} {down : Bool} {room : Int} {F : List Fz} (h : DkAt w B p m left down room F) : p ≠ m ∧ ∀ f ∈ F, p ≠ f.blk ∧ f.v.ownBlock ≠ some p := by
  have hp : OfTy w 56 p := ⟨_, _, h.cell⟩
  refine ⟨?_, fun f hf => ⟨?_, fun e => ?_⟩⟩
  · rintro rfl
    obtain ⟨es, c, hi⟩ := h.files
    have := hi.obj
    rw [h.cell] at this
    cases this
  · intro e
    exact absurd (hp.ne ⟨_, _, e ▸ h.file f hf⟩) (by decide)
  · exact absurd (hp.ne (own_ty (h.row f hf) e)) (by decide)

/-- the power's cells are written -/
theorem DkAt.power {w w' : World} {B p m : Nat} {left left' : Int} {down down' : Bool} {room : Int} {F : List Fz} (h : DkAt w B p m left down room F) (hc : w'.heap[p]? = some (.cells #[.int .i64 left', .bool down', .int .i64 room, .map (some m)] 56 (0, 0))) (hm : Mod (fun j => j = p) w w') : DkAt w' B p m left' down' room F := by
  obtain ⟨h1, h2⟩ := h.self
  have hk : ∀ j, j < w.heap.size → j ≠ p → w'.heap[j]? = w.heap[j]? := fun j hj hne => hm.block j hj hne
  exact ⟨hc, h.files.kept (hk m h.files.lt h1.symm), fun f hf => (hk _ (lt_block (h.file f hf)) (h2 f hf).1.symm).trans (h.file f hf), fun f hf => own_agree (h.row f hf) fun k hk2 => hk k ((h.row f hf).lt k hk2).2 (by rintro rfl; exact (h2 f hf).2 hk2),
    h.blks, h.apart, h.firm, h.low, Nat.le_trans h.big hm.size⟩

/-- what a change costs -/
def spendZ (left : Int) (down : Bool) : Bool × Int × Bool := if down = true ∨ left = 0 then (false, left, true) else (true, max (left - 1) (-1), down)

theorem max2i (a b : Int) (w : World) : (Builtin.max_ #[3, 3] 3 #[.int .i64 a, .int .i64 b]).run Try.prog w = .ok (.int .i64 (max a b)) w := by
  simp [Builtin.max_, Builtin.max2]
  split <;> omega

set_option maxHeartbeats 2000000 in
theorem dkSpend (w : World) (B p m : Nat) (left : Int) (down : Bool) (room : Int) (F : List Fz) (h : DkAt w B p m left down room F) (hl : -1 ≤ left ∧ left ≤ 9223372036854775807) :
    Calls Try.prog 35 #[.pointer (some ⟨p, 0, none⟩)] w fun e w' => e = .returned (.bool (spendZ left down).1) ∧ DkAt w' B p m (spendZ left down).2.1 (spendZ left down).2.2 room F ∧ Mod (fun j => j = p) w w' := by
  have c0 : w.cell? ⟨p, 0, none⟩ = some (.int .i64 left) := by simp [World.cell?, h.cell]
  have c1 : w.cell? ⟨p, 1, none⟩ = some (.bool down) := by simp [World.cell?, h.cell]
  have f0 : w.frozen? ⟨p, 0, none⟩ = false := by simp [World.frozen?, h.cell]
  have f1 : w.frozen? ⟨p, 1, none⟩ = false := by simp [World.frozen?, h.cell]
  have set1 : ∀ v, Mod (fun j => j = p) w (w.setCell ⟨p, 1, none⟩ v) := fun v => Mod.setCell (F := fun j => j = p) (Mod.refl _ w) (p := ⟨p, 1, none⟩) (.inl rfl) v
  have set0 : ∀ v, Mod (fun j => j = p) w (w.setCell ⟨p, 0, none⟩ v) := fun v => Mod.setCell (F := fun j => j = p) (Mod.refl _ w) (p := ⟨p, 0, none⟩) (.inl rfl) v
  have hc1 := setBlk h.cell 1 (.bool true)
  have H := Lib.hid h
  have HS := Lib.hid (And.intro set0 set1)
  cases down with
  | true =>
    have hz : spendZ left true = (false, left, true) := by simp [spendZ]
    rw [hz]
    have HC := Lib.hid hc1
    clear h set0 set1 hc1 hz
    go_enter Try.func35, Try.ntmps35
    go_wp2_with fail
    go_ret
    exact ⟨rfl, H.out.power (by simpa using HC.out) (HS.out.2 _), HS.out.2 _⟩
  | false =>
    by_cases h0 : left = 0
    · subst h0
      have hz : spendZ 0 false = (false, 0, true) := by simp [spendZ]
      rw [hz]
      have HC := Lib.hid hc1
      clear h set0 set1 hc1 hz
      go_enter Try.func35, Try.ntmps35
      go_wp2_with fail
      go_ret
      exact ⟨rfl, H.out.power (by simpa using HC.out) (HS.out.2 _), HS.out.2 _⟩
    · have hz : spendZ left false = (true, max (left - 1) (-1), false) := by simp [spendZ, h0]
      rw [hz]
      have hmx := max2i (left - 1) (-1)
      obtain ⟨mx, hm⟩ : ∃ mx, mx = max (left - 1) (-1) := ⟨_, rfl⟩
      rw [← hm] at hmx ⊢
      have hc0 := setBlk h.cell 0 (.int .i64 mx)
      have b1 : (left == 0) = false := by simp [h0]
      have hw : IntKind.i64.wrap (left - 1) = left - 1 := by simp [IntKind.wrap, IntKind.signed, IntKind.bits] <;> omega
      have HC := Lib.hid hc0
      clear h set0 set1 hc1 hz hc0 hm h0
      go_enter Try.func35, Try.ntmps35
      go_wp2_with fail
      go_ret
      exact ⟨rfl, H.out.power (by simpa using HC.out) (HS.out.1 _), HS.out.1 _⟩

theorem dkUp (w : World) (B p m : Nat) (left : Int) (down : Bool) (room : Int) (F : List Fz) (h : DkAt w B p m left down room F) :
    Calls Try.prog 22 #[.pointer (some ⟨p, 0, none⟩)] w fun e w' => e = .returned (.bool (!down)) ∧ w' = w := by
  have c1 : w.cell? ⟨p, 1, none⟩ = some (.bool down) := by simp [World.cell?, h.cell]
  have cU : Calls Try.prog 34 #[.pointer (some ⟨p, 0, none⟩)] w fun e w' => e = .returned (.bool (!down)) ∧ w' = w := by
    clear h
    go_enter Try.func34, Try.ntmps34
    go_wp2_with fail
    go_ret
    exact ⟨rfl, rfl⟩
  clear h
  go_enter Try.func22, Try.ntmps22
  go_wp2_with (go_at_call 34; refine cU.mono ?_; rintro e w' ⟨rfl, rfl⟩)
  go_ret
  exact ⟨rfl, rfl⟩

end Go.Proofs.Ytdcgooleiefljaa
