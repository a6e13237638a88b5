/-
  disk: Names.
  disk: a file's bytes are cut; Crash.
  disk: a file has another name, in memory.
-/
import Derived.Test.YtdcgooleiefljaaJ06
import Derived.Test.YtdcgooleiefljaaJ03
import Derived.Test.YtdcgooleiefljaaJ14
namespace Go.Proofs.Ytdcgooleiefljaa
open Go.RowKit Go.ChangeMaps

set_option maxHeartbeats 4000000 in
theorem dkNames (w : World) (B p m : Nat) (left : Int) (down : Bool) (room : Int) (F : List Fz) (h : DkAt w B p m left down room F) (hF : F.length ≤ 1000000) :
    Calls Try.prog 11 #[.pointer (some ⟨p, 0, none⟩)] w fun e w' => ∃ (v : Value) (ns : List (List UInt8)), e = .returned v ∧ ns.Perm (F.map (·.name)) ∧ w'.ownsRow w.heap.size 9 1 v ns.length (ns.map strV) ∧ Below w.heap.size w w' := by
  have c3 : w.cell? ⟨p, 3, none⟩ = some (.map (some m)) := by simp [World.cell?, h.cell]
  have cK := keysA (some m) w
  obtain ⟨W1, hW1⟩ : ∃ W1, W1 = w.alloc (.cells #[.map (some m)] 54) := ⟨_, rfl⟩
  have hb1 : Below w.heap.size w W1 := by rw [hW1]; exact (Below.refl _ w).alloc (Nat.le_refl _) _
  have hc1 : W1.cell? ⟨w.heap.size, 0, none⟩ = some (.map (some m)) := by rw [hW1]; simp only [World.cell?, heap_alloc_new]; rfl
  have hs1 : W1.heap.size = w.heap.size + 1 := by rw [hW1]; simp
  have cS := sortedKeysA w.heap.size m (filesL F) W1 (by omega) hc1 (h.files.kept (hb1.block m h.files.lt)) (by simpa [filesL] using hF)
  have HB := Lib.hid (And.intro hb1 hs1)
  have HW := Lib.hid hW1
  clear h hb1 hc1 hs1 hW1
  go_enter Try.func11, Try.ntmps11
  go_wp2_with (first
    | (go_at_call 28; refine cK.mono ?_; rintro e w' ⟨rfl, rfl⟩)
    | (go_at_call 27; rw [← HW.out]; refine cS.mono ?_; rintro e w2 ⟨v, ss, rfl, hp, hrow, hbl⟩; have R := Lib.hid (And.intro hp (And.intro hrow hbl)); clear hp hrow hbl))
  go_ret
  have hls : (sortS ss).length = ss.length := by simp [sortS]
  refine ⟨v, sortS ss, rfl, ?_, by rw [hls]; exact own_mono R.out.2.1 (by have := HB.out.2; omega), HB.out.1.trans (R.out.2.2.mono (by have := HB.out.2; omega))⟩
  have h1 : (sortS ss).Perm ss := List.mergeSort_perm _ _
  have h2 := R.out.1
  simp only [filesL, List.map_map] at h2
  exact h1.trans h2

end Go.Proofs.Ytdcgooleiefljaa

namespace Go.Proofs.Ytdcgooleiefljaa
open Go.RowKit Go.ChangeMaps Go.Shelf

theorem own_cut {w : World} {B e n c k : Nat} {q : Option Addr} {xs : List Value} (h : w.ownsRow B e 1 (.slice q n c) n xs) (hk : k ≤ n) : w.ownsRow B e 1 (.slice q k c) k (xs.take k) := by
  obtain ⟨h1, ⟨h2, h3⟩ | ⟨g, cap, cur, hv, hb, hg, hn, hc, hs, ht⟩⟩ := h
  · obtain ⟨rfl, rfl, rfl⟩ := Value.slice.inj h2
    obtain rfl : k = 0 := by omega
    exact ⟨by simp, .inl ⟨rfl, rfl⟩⟩
  · obtain ⟨rfl, -, rfl⟩ := Value.slice.inj hv
    refine ⟨by simp [h1]; omega, .inr ⟨g, c, cur, rfl, hb, hg, by omega, hc, hs, ?_⟩⟩
    rw [← ht, List.take_take]
    congr 1
    omega

theorem own_cap {w : World} {B e n c : Nat} {q : Option Addr} {xs : List Value} (h : w.ownsRow B e 1 (.slice q n c) n xs) : n ≤ c ∧ c ≤ 9223372036854775807 := by
  obtain ⟨h1, ⟨h2, h3⟩ | ⟨g, cap, cur, hv, hb, hg, hn, hc, hs, ht⟩⟩ := h
  · obtain ⟨rfl, rfl, rfl⟩ := Value.slice.inj h2
    simp
  · obtain ⟨rfl, -, rfl⟩ := Value.slice.inj hv
    have : maxLen = 9223372036854775807 := rfl
    exact ⟨by omega, by omega⟩

/-- a file's bytes are cut, and so many are firm -/
def cutTo (f : Fz) (v : Value) (k firm : Nat) : Fz := { f with v := v, bytes := f.bytes.take k, firm := firm }

/-- in place: two stores -/
theorem DkAt.cut {w : World} {B p m : Nat} {left : Int} {down : Bool} {room : Int} {F1 F2 : List Fz} {f : Fz} (h : DkAt w B p m left down room (F1 ++ f :: F2)) {q : Option Addr} {c : Nat} (hv : f.v = .slice q f.bytes.length c) (k n : Nat) (hk : k ≤ f.bytes.length) (hn : n ≤ k) :
    DkAt ((w.setCell ⟨f.blk, 0, none⟩ (.slice q k c)).setCell ⟨f.blk, 1, none⟩ (.int .i64 n)) B p m left down room (F1 ++ cutTo f (.slice q k c) k n :: F2) ∧
      DkStep w ((w.setCell ⟨f.blk, 0, none⟩ (.slice q k c)).setCell ⟨f.blk, 1, none⟩ (.int .i64 n)) p m (F1 ++ f :: F2) (F1 ++ cutTo f (.slice q k c) k n :: F2) := by
  have hf : f ∈ F1 ++ f :: F2 := by simp
  have hset := setBlk (setBlk (h.file f hf) 0 (.slice q k c)) 1 (.int .i64 n)
  obtain ⟨-, -, n3, -, -⟩ := h.own_not hf
  have hrow := h.row f hf
  rw [hv] at hrow n3
  have hown := own_cut hrow hk
  have hob : (Value.slice q k c).ownBlock = (Value.slice q f.bytes.length c).ownBlock := by rcases q with _ | ⟨b, o, s⟩ <;> simp [Value.ownBlock]
  refine h.put (cutTo f (.slice q k c) k n) rfl rfl (((Mod.refl _ w).setCell (p := ⟨f.blk, 0, none⟩) (.inl (.inl rfl)) _).setCell (p := ⟨f.blk, 1, none⟩) (.inl (.inl rfl)) _) (by simpa [cutTo] using hset) ?_ (.inl (by rw [hv]; exact hob)) (by simp [cutTo]; omega)
  have h1 := own_agree (w' := (w.setCell ⟨f.blk, 0, none⟩ (.slice q k c)).setCell ⟨f.blk, 1, none⟩ (.int .i64 n)) hown fun j hj => by
    have : j ≠ f.blk := fun e => n3 (e ▸ (hob ▸ hj))
    simp [World.setCell, Array.getElem?_modify, Ne.symm this]
  have e : (f.bytes.take k).length = k := by simp; omega
  simp only [cutTo, e]
  rw [List.map_take]
  exact h1

/-- a crash takes a file's loose bytes but so many -/
def crashK (kp : Int) (s : List UInt8 × List UInt8 × Nat) : Nat := s.2.2 + (if 0 < kp then (kp % ((s.2.1.length - s.2.2 : Nat) + 1)).toNat else 0)

def crash1 (n : List UInt8) (kp : Int) (s : List UInt8 × List UInt8 × Nat) : List UInt8 × List UInt8 × Nat := if s.1 = n then (s.1, s.2.1.take (crashK kp s), crashK kp s) else s

def crashS (S : List (List UInt8 × List UInt8 × Nat)) (ns : List (List UInt8)) (keep : List Int) : Nat → List (List UInt8 × List UInt8 × Nat)
  | 0 => S
  | j + 1 => (crashS S ns keep j).map (crash1 (ns.getD j []) (keep.getD j 0))

theorem crashK_le (kp : Int) (s : List UInt8 × List UInt8 × Nat) (h : s.2.2 ≤ s.2.1.length) : s.2.2 ≤ crashK kp s ∧ crashK kp s ≤ s.2.1.length := by
  unfold crashK
  split
  · have h1 := Int.emod_nonneg kp (b := ((s.2.1.length - s.2.2 : Nat) + 1 : Int)) (by omega)
    have h2 := Int.emod_lt_of_pos kp (b := ((s.2.1.length - s.2.2 : Nat) + 1 : Int)) (by omega)
    omega
  · omega

end Go.Proofs.Ytdcgooleiefljaa

namespace Go.Proofs.Ytdcgooleiefljaa
open Go.RowKit Go.ChangeMaps Go.Shelf

/-- a file in the place of the one of its name, or at the end -/
def putF : List Fz → Fz → List Fz
  | [], f => [f]
  | g :: L, f => if g.name = f.name then f :: L else g :: putF L f

/-- plainly -/
def putS : List (List UInt8 × List UInt8 × Nat) → List UInt8 × List UInt8 × Nat → List (List UInt8 × List UInt8 × Nat)
  | [], s => [s]
  | g :: L, s => if g.1 = s.1 then s :: L else g :: putS L s

theorem putF_plain (L : List Fz) (f : Fz) : (putF L f).map plain = putS (L.map plain) (plain f) := by
  induction L with
  | nil => rfl
  | cons g L ih =>
    rw [putF, List.map_cons, putS]
    by_cases h : g.name = f.name
    · rw [if_pos h, if_pos (by simpa [plain] using h)]; rfl
    · rw [if_neg h, if_neg (by simpa [plain] using h), List.map_cons, ih]

theorem putF_files (L : List Fz) (f : Fz) : filesL (putF L f) = putK (filesL L) f.name (.pointer (some ⟨f.blk, 0, none⟩)) := by
  induction L with
  | nil => rfl
  | cons g L ih =>
    rw [putF]
    show _ = putK ((g.name, _) :: filesL L) _ _
    rw [putK]
    by_cases h : g.name = f.name
    · rw [if_pos h, if_pos h]; rfl
    · rw [if_neg h, if_neg h, ← ih]; rfl

theorem mem_putF {L : List Fz} {f x : Fz} (h : x ∈ putF L f) : x = f ∨ x ∈ L := by
  induction L with
  | nil => simpa [putF] using h
  | cons g L ih =>
    rw [putF] at h
    split at h
    · rcases List.mem_cons.1 h with h | h
      · exact .inl h
      · exact .inr (by simp [h])
    · rcases List.mem_cons.1 h with h | h
      · exact .inr (by simp [h])
      · rcases ih h with h | h
        · exact .inl h
        · exact .inr (by simp [h])

theorem putF_pairwise {R : Fz → Fz → Prop} {L : List Fz} {f : Fz} (h : L.Pairwise R) (hf : ∀ g ∈ L, R g f ∧ R f g) : (putF L f).Pairwise R := by
  induction L with
  | nil => simp [putF]
  | cons g L ih =>
    rw [List.pairwise_cons] at h
    rw [putF]
    split
    · rw [List.pairwise_cons]
      exact ⟨fun x hx => (hf x (by simp [hx])).2, h.2⟩
    · rw [List.pairwise_cons]
      refine ⟨fun x hx => ?_, ih h.2 fun x hx => hf x (by simp [hx])⟩
      rcases mem_putF hx with rfl | hx
      · exact (hf g (by simp)).1
      · exact h.1 x hx

/-- the map is written: a file of the disk has one more name, or another -/
theorem DkAt.renamed {w : World} {B p m : Nat} {left : Int} {down : Bool} {room : Int} {F1 F2 : List Fz} {f : Fz} (h : DkAt w B p m left down room (F1 ++ f :: F2)) (nto : List UInt8) {w1 : World} {F' : List Fz} (hF : F' = (F1 ++ f :: F2).filter fun g => decide (g.name ≠ f.name))
    (h1 : DkAt w1 B p m left down room F') (hM : Mod (fun j => j = m) w w1) :
    ∃ w2, (Instr.mapUpdate 54 (.map (some m)) (strV nto) (.pointer (some ⟨f.blk, 0, none⟩))).run Try.prog w1 = .ok () w2 ∧ DkAt w2 B p m left down room (putF F' { f with name := nto }) ∧ DkStep w w2 p m (F1 ++ f :: F2) (putF F' { f with name := nto }) := by
  obtain ⟨w2, hr, hm, hg, hsz⟩ := run_put KOS Try.underlying54 h1.files nto (.pointer (some ⟨f.blk, 0, none⟩))
  have e : putK (filesL F') nto (.pointer (some ⟨f.blk, 0, none⟩)) = filesL (putF F' { f with name := nto }) := (putF_files F' { f with name := nto }).symm
  rw [e] at hm
  have hmod : Mod (fun j => j = m) w w2 := (hM.trans ((Mod.refl _ w1).grown hg (fun k hk => .inl (by cases hk; rfl))) fun k _ e => e)
  have hmem : ∀ g ∈ F', g ∈ F1 ++ f :: F2 ∧ g ≠ f := by
    intro g hg
    rw [hF, List.mem_filter] at hg
    refine ⟨hg.1, ?_⟩
    rintro rfl
    simp at hg
  have hf : f ∈ F1 ++ f :: F2 := by simp
  have hap : ∀ g ∈ F', g.blk ≠ f.blk ∧ (g.v.ownBlock = none ∨ g.v.ownBlock ≠ f.v.ownBlock) ∧ (f.v.ownBlock = none ∨ f.v.ownBlock ≠ g.v.ownBlock) := by
    intro g hg
    obtain ⟨hg1, hg2⟩ := hmem g hg
    have hb := h.blks
    have ha := h.apart
    rw [List.map_append, List.map_cons, List.nodup_append, List.nodup_cons] at hb
    rw [List.pairwise_append, List.pairwise_cons] at ha
    have sym : ∀ a b : Option Nat, (a = none ∨ a ≠ b) → (b = none ∨ b ≠ a) := by
      rintro a b (rfl | h)
      · cases b with
        | none => exact .inl rfl
        | some c => exact .inr (by simp)
      · exact .inr (Ne.symm h)
    rcases List.mem_append.1 hg1 with hx | hx
    · have h3 := ha.2.2 g hx f (by simp)
      exact ⟨hb.2.2 _ (List.mem_map.2 ⟨g, hx, rfl⟩) _ (by simp), h3, sym _ _ h3⟩
    · rcases List.mem_cons.1 hx with hx | hx
      · exact absurd hx hg2
      · have h3 := ha.2.1.1 g hx
        exact ⟨fun e => hb.2.1.1 (List.mem_map.2 ⟨g, hx, e⟩), sym _ _ h3, h3⟩
  obtain ⟨hD, hS⟩ := h.maps hm hmod (fun x hx => by
    rcases mem_putF hx with rfl | hx
    · exact ⟨f, hf, rfl, rfl, rfl, rfl⟩
    · exact ⟨x, (hmem x hx).1, rfl, rfl, rfl, rfl⟩) (by
    rw [List.Nodup, List.pairwise_map]
    exact putF_pairwise (R := fun a b => a.blk ≠ b.blk) (List.pairwise_map.1 h1.blks) fun g hg => ⟨(hap g hg).1, Ne.symm (hap g hg).1⟩) (putF_pairwise h1.apart fun g hg => ⟨(hap g hg).2.1, (hap g hg).2.2⟩)
  exact ⟨w2, hr, hD, hS⟩

end Go.Proofs.Ytdcgooleiefljaa
