/-
  disk: what a change does to the files, in memory. No program.
  disk: bytes.Join and bytes.Clone at bytes that lie in memory.
-/
import Derived.Test.YtdcgooleiefljaaJ06
import Derived.Test.YtdcgooleiefljaaJ03
import Derived.Test.YtdcgooleiefljaaJ08
namespace Go.Proofs.Ytdcgooleiefljaa
open Go.RowKit Go.ChangeMaps

theorem MapAt.notCells {α : Type} {mk : α → Value} {w : World} {b : Nat} {L : List (α × Value)} {T : TypeId} (h : MapAt w mk b L) : ¬ OfTy w T b := by
  rintro ⟨cs, fr, g⟩
  obtain ⟨es, c, hi⟩ := h
  rw [hi.obj] at g
  cases g

/-- the disk's blocks are turned alone; a later disk's old blocks are among them -/
def DkStep (w w' : World) (p m : Nat) (F F' : List Fz) : Prop := Mod (DkF p m F) w w' ∧ ∀ j, DkF p m F' j → DkF p m F j ∨ w.heap.size ≤ j

theorem DkStep.trans {w w1 w2 : World} {p m : Nat} {F F1 F2 : List Fz} (h : DkStep w w1 p m F F1) (g : DkStep w1 w2 p m F1 F2) : DkStep w w2 p m F F2 :=
  ⟨h.1.trans g.1 fun k hk hG => (h.2 k hG).resolve_right (by omega), fun j hj => (g.2 j hj).elim (fun h' => h.2 j h') fun h' => .inr (Nat.le_trans h.1.size h')⟩

theorem DkStep.refl (w : World) (p m : Nat) (F : List Fz) : DkStep w w p m F F := ⟨Mod.refl _ w, fun _ h => .inl h⟩

theorem DkStep.below {w w' : World} (p m : Nat) (F : List Fz) (h : Below w.heap.size w w') : DkStep w w' p m F F := ⟨Mod.of_below h, fun _ h => .inl h⟩

theorem DkStep.power {w w' : World} (p m : Nat) (F : List Fz) (h : Mod (fun j => j = p) w w') : DkStep w w' p m F F := ⟨h.mono fun _ _ e => .inl e, fun _ h => .inl h⟩

/-- below the disk nothing is turned -/
theorem DkStep.base {w w' : World} {B p m : Nat} {left : Int} {down : Bool} {room : Int} {F F' : List Fz} (h : DkAt w B p m left down room F) (hs : DkStep w w' p m F F') : Below B w w' :=
  hs.1.below h.big fun k hk => (h.lt k hk).1

/-- a file is written anew, in its place -/
theorem DkAt.put {w w2 : World} {B p m : Nat} {left : Int} {down : Bool} {room : Int} {F1 F2 : List Fz} {f : Fz} (h : DkAt w B p m left down room (F1 ++ f :: F2)) (f' : Fz) (hname : f'.name = f.name) (hblk : f'.blk = f.blk)
    (hm : Mod (fun j => j = f.blk ∨ f.v.ownBlock = some j) w w2) (hcell : w2.heap[f.blk]? = some (.cells #[f'.v, .int .i64 f'.firm] 59 (0, 0))) (hrow : w2.ownsRow B 5 1 f'.v f'.bytes.length (f'.bytes.map encB))
    (hap : f'.v.ownBlock = f.v.ownBlock ∨ f'.v.ownBlock = none ∨ ∃ b, w.heap.size ≤ b ∧ f'.v.ownBlock = some b) (hfirm : f'.firm ≤ f'.bytes.length) :
    DkAt w2 B p m left down room (F1 ++ f' :: F2) ∧ DkStep w w2 p m (F1 ++ f :: F2) (F1 ++ f' :: F2) := by
  have hf : f ∈ F1 ++ f :: F2 := by simp
  have htf : OfTy w 59 f.blk := ⟨_, _, h.file f hf⟩
  have hrf := h.row f hf
  have hsz : ∀ g ∈ F1 ++ f :: F2, ∀ j, g.v.ownBlock = some j → j < w.heap.size := fun g hg j hj => ((h.row g hg).lt j hj).2
  have hkeep : ∀ j, j < w.heap.size → j ≠ f.blk → f.v.ownBlock ≠ some j → w2.heap[j]? = w.heap[j]? := fun j hj h1 h2 => hm.block j hj fun e => e.elim h1 h2
  have hp := h.self
  have hmb : m ≠ f.blk := by
    intro e
    exact h.files.notCells (e ▸ htf)
  have hmo : f.v.ownBlock ≠ some m := fun e => h.files.notCells (own_ty hrf e)
  -- the others
  have hoth : ∀ g ∈ F1 ++ F2, g ∈ F1 ++ f :: F2 ∧ g.blk ≠ f.blk ∧ (g.v.ownBlock = none ∨ g.v.ownBlock ≠ f.v.ownBlock) := by
    intro g hg
    have hb := h.blks
    have ha := h.apart
    rw [List.map_append, List.map_cons, List.nodup_append, List.nodup_cons] at hb
    rw [List.pairwise_append, List.pairwise_cons] at ha
    rcases List.mem_append.1 hg with hg | hg
    · exact ⟨by simp [hg], hb.2.2 _ (List.mem_map.2 ⟨g, hg, rfl⟩) _ (by simp), ha.2.2 g hg f (by simp)⟩
    · refine ⟨by simp [hg], fun e => hb.2.1.1 (List.mem_map.2 ⟨g, hg, e⟩), ?_⟩
      rcases ha.2.1.1 g hg with e | e
      · rw [e]
        cases hgb : g.v.ownBlock with
        | none => exact .inl rfl
        | some b => exact .inr (by simp)
      · exact .inr (Ne.symm e)
  have hkb : ∀ g ∈ F1 ++ F2, w2.heap[g.blk]? = w.heap[g.blk]? := by
    intro g hg
    obtain ⟨h1, h2, -⟩ := hoth g hg
    refine hkeep _ (lt_block (h.file g h1)) h2 fun e => ?_
    exact absurd ((own_ty hrf e).ne ⟨_, _, h.file g h1⟩) (by decide)
  have hko : ∀ g ∈ F1 ++ F2, ∀ j, g.v.ownBlock = some j → w2.heap[j]? = w.heap[j]? := by
    intro g hg j hj
    obtain ⟨h1, -, h3⟩ := hoth g hg
    refine hkeep j (hsz g h1 j hj) (fun e => ?_) fun e => ?_
    · exact absurd ((own_ty (h.row g h1) hj).ne (e ▸ htf)) (by decide)
    · rcases h3 with h3 | h3
      · rw [h3] at hj; cases hj
      · exact h3 (hj.trans e.symm)
  have hmem : ∀ g, g ∈ F1 ++ f' :: F2 → g = f' ∨ g ∈ F1 ++ F2 := by
    intro g hg
    rcases List.mem_append.1 hg with hg | hg
    · exact .inr (by simp [hg])
    · rcases List.mem_cons.1 hg with hg | hg
      · exact .inl hg
      · exact .inr (by simp [hg])
  have hR : ∀ g ∈ F1 ++ F2, g.v.ownBlock = none ∨ g.v.ownBlock ≠ f'.v.ownBlock := by
    intro g hg
    obtain ⟨h1, -, h3⟩ := hoth g hg
    rcases hap with e | e | ⟨b, hb, e⟩
    · rw [e]; exact h3
    · rw [e]
      cases hgb : g.v.ownBlock with
      | none => exact .inl rfl
      | some c => exact .inr (by simp)
    · rw [e]
      cases hgb : g.v.ownBlock with
      | none => exact .inl rfl
      | some c => exact .inr (by have := hsz g h1 c hgb; simp; omega)
  refine ⟨⟨(hkeep p (lt_block h.cell) (hp.2 f hf).1 (hp.2 f hf).2).trans h.cell, ?_, fun g hg => ?_, fun g hg => ?_, ?_, ?_, fun g hg => ?_, ⟨h.low.1, h.low.2.1, fun g hg => ?_⟩, Nat.le_trans h.big hm.size⟩, hm.mono ?_, ?_⟩
  · have e : filesL (F1 ++ f' :: F2) = filesL (F1 ++ f :: F2) := by simp [filesL, hname, hblk]
    rw [e]
    exact h.files.kept (hkeep m h.files.lt hmb hmo)
  · rcases hmem g hg with rfl | hg
    · rw [hblk]; exact hcell
    · exact (hkb g hg).trans (h.file g (hoth g hg).1)
  · rcases hmem g hg with rfl | hg
    · exact hrow
    · exact own_agree (h.row g (hoth g hg).1) (hko g hg)
  · have := h.blks
    simpa [hblk] using this
  · have ha := h.apart
    rw [List.pairwise_append, List.pairwise_cons] at ha ⊢
    refine ⟨ha.1, ⟨fun g hg => ?_, ha.2.1.2⟩, fun g hg x hx => ?_⟩
    · rcases hR g (by simp [hg]) with e | e
      · rw [e]
        cases hgb : f'.v.ownBlock with
        | none => exact .inl rfl
        | some c => exact .inr (by simp)
      · exact .inr (Ne.symm e)
    · rcases List.mem_cons.1 hx with rfl | hx
      · exact hR g (by simp [hg])
      · exact ha.2.2 g hg x (by simp [hx])
  · rcases hmem g hg with rfl | hg
    · exact hfirm
    · exact h.firm g (hoth g hg).1
  · rcases hmem g hg with rfl | hg
    · rw [hblk]; exact h.low.2.2 f hf
    · exact h.low.2.2 g (hoth g hg).1
  · rintro k - (e | e)
    · exact .inr (.inr ⟨f, hf, .inl e⟩)
    · exact .inr (.inr ⟨f, hf, .inr e⟩)
  · rintro j (rfl | rfl | ⟨g, hg, hj⟩)
    · exact .inl (.inl rfl)
    · exact .inl (.inr (.inl rfl))
    · rcases hmem g hg with rfl | hg
      · rcases hj with rfl | hj
        · exact .inl (.inr (.inr ⟨f, hf, .inl hblk⟩))
        · rcases hap with e | e | ⟨b, hb, e⟩
          · exact .inl (.inr (.inr ⟨f, hf, .inr (e ▸ hj)⟩))
          · rw [e] at hj; cases hj
          · rw [e] at hj; cases hj; exact .inr hb
      · exact .inl (.inr (.inr ⟨g, (hoth g hg).1, hj⟩))

/-- other names for the same files, or fewer -/
theorem DkAt.maps {w w2 : World} {B p m : Nat} {left : Int} {down : Bool} {room : Int} {F F' : List Fz} (h : DkAt w B p m left down room F) (hm : MapAt w2 strV m (filesL F')) (hmod : Mod (fun j => j = m) w w2)
    (hsub : ∀ f ∈ F', ∃ g ∈ F, f.blk = g.blk ∧ f.v = g.v ∧ f.bytes = g.bytes ∧ f.firm = g.firm) (hb : (F'.map (·.blk)).Nodup) (ha : F'.Pairwise fun f g => f.v.ownBlock = none ∨ f.v.ownBlock ≠ g.v.ownBlock) :
    DkAt w2 B p m left down room F' ∧ DkStep w w2 p m F F' := by
  have hk : ∀ j, j < w.heap.size → j ≠ m → w2.heap[j]? = w.heap[j]? := fun j hj hne => hmod.block j hj hne
  refine ⟨⟨(hk p (lt_block h.cell) h.self.1).trans h.cell, hm, fun f hf => ?_, fun f hf => ?_, hb, ha, fun f hf => ?_, ⟨h.low.1, h.low.2.1, fun f hf => ?_⟩, Nat.le_trans h.big hmod.size⟩, hmod.mono fun k _ e => .inr (.inl e), ?_⟩
  · obtain ⟨g, hg, e1, e2, e3, e4⟩ := hsub f hf
    rw [e1, e2, e4]
    refine (hk _ (lt_block (h.file g hg)) fun e => ?_).trans (h.file g hg)
    exact h.files.notCells (T := 59) (e ▸ ⟨_, _, h.file g hg⟩)
  · obtain ⟨g, hg, e1, e2, e3, e4⟩ := hsub f hf
    rw [e2, e3]
    refine own_agree (h.row g hg) fun k hk2 => hk k ((h.row g hg).lt k hk2).2 ?_
    rintro rfl
    exact h.files.notCells (own_ty (h.row g hg) hk2)
  · obtain ⟨g, hg, e1, e2, e3, e4⟩ := hsub f hf
    rw [e3, e4]
    exact h.firm g hg
  · obtain ⟨g, hg, e1, e2, e3, e4⟩ := hsub f hf
    rw [e1]
    exact h.low.2.2 g hg
  · rintro j (rfl | rfl | ⟨f, hf, hj⟩)
    · exact .inl (.inl rfl)
    · exact .inl (.inr (.inl rfl))
    · obtain ⟨g, hg, e1, e2, e3, e4⟩ := hsub f hf
      rw [e1, e2] at hj
      exact .inl (.inr (.inr ⟨g, hg, hj⟩))

/-- a file of no bytes is made -/
theorem DkAt.made {w w2 : World} {B p m : Nat} {left : Int} {down : Bool} {room : Int} {F : List Fz} (h : DkAt w B p m left down room F) (name : List UInt8)
    (hm : MapAt w2 strV m (filesL (F ++ [⟨name, w.heap.size, .slice none 0 0, [], 0⟩]))) (hmod : Mod (fun j => j = m) w w2) (hc : w2.heap[w.heap.size]? = some (.cells #[.slice none 0 0, .int .i64 0] 59 (0, 0))) :
    DkAt w2 B p m left down room (F ++ [⟨name, w.heap.size, .slice none 0 0, [], 0⟩]) ∧ DkStep w w2 p m F (F ++ [⟨name, w.heap.size, .slice none 0 0, [], 0⟩]) := by
  have hk : ∀ j, j < w.heap.size → j ≠ m → w2.heap[j]? = w.heap[j]? := fun j hj hne => hmod.block j hj hne
  have hmem : ∀ f, f ∈ F ++ [(⟨name, w.heap.size, .slice none 0 0, [], 0⟩ : Fz)] → f ∈ F ∨ f = ⟨name, w.heap.size, .slice none 0 0, [], 0⟩ := by
    intro f hf
    simpa using hf
  refine ⟨⟨(hk p (lt_block h.cell) h.self.1).trans h.cell, hm, fun f hf => ?_, fun f hf => ?_, ?_, ?_, fun f hf => ?_, ⟨h.low.1, h.low.2.1, fun f hf => ?_⟩, Nat.le_trans h.big hmod.size⟩, hmod.mono fun k _ e => .inr (.inl e), ?_⟩
  · rcases hmem f hf with hf | rfl
    · refine (hk _ (lt_block (h.file f hf)) fun e => ?_).trans (h.file f hf)
      exact h.files.notCells (T := 59) (e ▸ ⟨_, _, h.file f hf⟩)
    · exact hc
  · rcases hmem f hf with hf | rfl
    · refine own_agree (h.row f hf) fun k hk2 => hk k ((h.row f hf).lt k hk2).2 ?_
      rintro rfl
      exact h.files.notCells (own_ty (h.row f hf) hk2)
    · exact World.ownsRow_nil _ _ _ _
  · rw [List.map_append, List.nodup_append]
    refine ⟨h.blks, by simp, fun a ha b hb => ?_⟩
    obtain ⟨f, hf, rfl⟩ := List.mem_map.1 ha
    have := lt_block (h.file f hf)
    simp at hb
    omega
  · rw [List.pairwise_append]
    refine ⟨h.apart, by simp, fun a ha b hb => ?_⟩
    simp only [List.mem_singleton] at hb
    subst hb
    show _ ∨ a.v.ownBlock ≠ none
    cases a.v.ownBlock with
    | none => exact .inl rfl
    | some c => exact .inr (by simp)
  · rcases hmem f hf with hf | rfl
    · exact h.firm f hf
    · exact Nat.le_refl _
  · rcases hmem f hf with hf | rfl
    · exact h.low.2.2 f hf
    · exact h.big
  · rintro j (rfl | rfl | ⟨f, hf, hj⟩)
    · exact .inl (.inl rfl)
    · exact .inl (.inr (.inl rfl))
    · rcases hmem f hf with hf | rfl
      · exact .inl (.inr (.inr ⟨f, hf, hj⟩))
      · rcases hj with rfl | hj
        · exact .inr (Nat.le_refl _)
        · cases hj

end Go.Proofs.Ytdcgooleiefljaa

namespace Go.Proofs.Ytdcgooleiefljaa
open Go.RowKit Go.ChangeMaps Go.Lib Go.Shelf

/-- the parts of a Write -/
def Parts (w : World) (v : Value) (ls : List (List UInt8)) : Prop :=
  ∃ vs, Reads w v 1 ls.length vs ∧ ∀ (i : Nat) u l, vs[i]? = some u → ls[i]? = some l → HoldsBytes w u l

/-- bytes that lie somewhere -/
def BytesAt (w : World) (v : Value) (l : List UInt8) : Prop := ∃ p c, v = .slice p l.length c ∧ SrcAt w p l.length c 1 (l.map encB)

theorem nat_of_byte {z : Int} {x : UInt8} (h : 0 ≤ z ∧ z < 256) (hz : UInt8.ofNat z.toNat = x) : z = (x.toNat : Int) := by
  subst hz
  rw [UInt8.toNat_ofNat']
  omega

theorem fresh_src {B : Nat} {w : World} {v : Value} {l : List UInt8} (h : FreshBytes B w v l) : BytesAt w v l := by
  obtain ⟨g, cap, zs, rfl, _, hl, _, hz, hr, hb, hc, _⟩ := h
  refine ⟨_, _, rfl, by simp, by simp, fun a ha j u hj => ?_⟩
  cases ha
  rw [List.getElem?_map, Option.map_eq_some_iff] at hj
  obtain ⟨x, hx, rfl⟩ := hj
  obtain ⟨hj', rfl⟩ := List.getElem?_eq_some_iff.1 hx
  have h1 := hc j (by omega)
  have hjz : j < zs.length := by omega
  rw [Addr.add_lit, Nat.zero_add, h1]
  have e : zs.getD j 0 = zs[j] := by simp [List.getD, List.getElem?_eq_getElem hjz]
  have hx2 : UInt8.ofNat zs[j].toNat = l[j] := by
    have := congrArg (fun l => l[j]?) hb
    simpa [bytesOf, hj', hjz] using this
  rw [e, encB, nat_of_byte (hr _ (List.getElem_mem _)) hx2]

theorem join_nil : ∀ ls : List (List UInt8), join ls [] = ls.flatten
  | [] => rfl
  | [l] => by simp [join, List.intercalate]
  | l :: l2 :: ls => by
    have := join_nil (l2 :: ls)
    unfold join List.intercalate at this ⊢
    rw [List.intersperse, List.flatten_cons, List.flatten_cons, this]
    · rfl
    · intro h; cases h

set_option maxHeartbeats 1000000 in
theorem dkJoin (w : World) (v : Value) (ls : List (List UInt8)) (hP : Parts w v ls) (hlen : lens ls ≤ 1000000) (hn : ls.length ≤ 1000000) :
    Calls Try.prog 25 #[v, .slice none 0 0] w fun e w' => ∃ u, e = .returned u ∧ BytesAt w' u ls.flatten ∧ Below w.heap.size w w' := by
  obtain ⟨vs, hR, hB⟩ := hP
  obtain ⟨h0, p, cap, rfl, h1, h2, h3, h4⟩ := hR
  have hvl : vs.length = ls.length := by simpa using h0
  match ls, hB, hlen, hvl with
  | [], _, _, _ =>
    refine (show Calls Try.prog 25 _ _ _ from Any.bytes_Join_none layJoin p cap (.slice none 0 0) w).mono ?_
    rintro e w' ⟨rfl, rfl⟩
    exact ⟨_, rfl, ⟨_, _, rfl, by simp, by simp, by simp⟩, (Below.refl _ w).alloc (Nat.le_refl _) _⟩
  | [l], hB, hlen, hvl =>
    obtain ⟨u, rfl⟩ : ∃ u, vs = [u] := by
      match vs, hvl with
      | [u], _ => exact ⟨u, rfl⟩
    obtain ⟨b, off, rfl, hc⟩ := h4 0 u rfl
    obtain ⟨q, c, rfl, hq, hcl⟩ := hB 0 u l rfl rfl
    rw [Nat.add_zero] at hc
    match l, hq, hcl, hc, hlen with
    | [], _, _, hc, _ =>
      refine (show Calls Try.prog 25 _ _ _ from Any.bytes_Join_one_empty layJoin b off cap q c (.slice none 0 0) w hc).mono ?_
      rintro e w' ⟨rfl, rfl⟩
      exact ⟨_, rfl, ⟨_, _, rfl, by simp, by simp, by simp⟩, Below.refl _ _⟩
    | x :: l, hq, hcl, hc, hlen =>
      cases q with
      | none => exact absurd (hq rfl) (by simp)
      | some a =>
        refine (show Calls Try.prog 25 _ _ _ from Any.bytes_Join_one layJoin b off cap a c (x :: l) (.slice none 0 0) w hc (fun i y hy => hcl a rfl i y hy) (by simp) (by simp [lens] at hlen ⊢; omega)).mono ?_
        rintro e w' ⟨u, rfl, hf, hb⟩
        exact ⟨_, rfl, by simpa using fresh_src hf, hb⟩
  | l1 :: l2 :: ls, hB, hlen, hvl =>
    obtain ⟨u, us, rfl⟩ : ∃ u us, vs = u :: us := by
      match vs, hvl with
      | u :: us, _ => exact ⟨u, us, rfl⟩
    obtain ⟨b, off, rfl, hc⟩ := h4 0 u rfl
    refine (show Calls Try.prog 25 _ _ _ from Any.bytes_Join_many layJoin b off _ cap (u :: us) (l1 :: l2 :: ls) (.slice none 0 0) [] w rfl (by simp) ⟨by simpa using hvl, fun i v hv => ?_, hB⟩ h1 ⟨none, 0, rfl, by simp, by simp⟩ (by simp at hn ⊢; omega) (by simp; omega)).mono ?_
    · obtain ⟨b', off', he, hc'⟩ := h4 i v hv
      cases he
      rw [Addr.add_lit]
      exact hc'
    · rintro e w' ⟨u, rfl, hf, hb⟩
      rw [join_nil] at hf
      exact ⟨_, rfl, fresh_src hf, hb⟩

end Go.Proofs.Ytdcgooleiefljaa
