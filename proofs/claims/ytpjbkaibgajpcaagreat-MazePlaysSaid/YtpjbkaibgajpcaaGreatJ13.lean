/-
  best's document: all that it has, in order; a new one. Lists that are put together in no room.
  walk's document: the state of a walk in memory.
-/
import Derived.Test.YtpjbkaibgajpcaaGreatJ12
import Derived.Test.YtpjbkaibgajpcaaGreatJ02
import Derived.Test.YtpjbkaibgajpcaaGreatJ08
namespace Go.Proofs.YtpjbkaibgajpcaaGreat
open Go.RowKit
set_option maxRecDepth 20000

theorem refAll (F : Nat → Prop) (c : Nat) (most : Int) (n : Nat) (L : List Hz) (w : World) (hL : RefL w F c most L) (gL : GoodL n L) (hn : L.length ≤ 1000000) :
    Calls Tryz.prog 79 #[.pointer (some ⟨c, 0, none⟩)] w (SortTo w F L) := by
  obtain ⟨v, G, r, ho, hp, -, hG⟩ := hL
  obtain ⟨c0, c1, -⟩ := ho.cells
  have hlen := hp.length_eq
  have S := Lib.hid (sort r L gL.sorted (gL.ids.perm hp) hp (by omega) v G w ho.hits)
  have GF := Lib.hid hG
  clear ho hp gL hG hlen
  go_enter Tryz.func79, Tryz.ntmps79
  go_wp2_with fail
  refine S.out.mono ?_
  rintro e w' ⟨v', rfl, hh, hb⟩
  have R := Lib.hid (And.intro (hh.mono (G := Plus F w w') fun k hk => by
    rcases hk with hk | hk
    · exact .inl (GF.out k hk)
    · exact .inr hk) hb)
  clear hh hb
  go_wp2_with fail
  go_ret
  exact ⟨v', rfl, R.out.1, R.out.2⟩

end Go.Proofs.YtpjbkaibgajpcaaGreat

namespace Go.Proofs.YtpjbkaibgajpcaaGreat
open Go.RowKit
set_option maxRecDepth 20000

theorem infoU64R : (Tryz.prog.info? 36).map (fun i => (i.zero, i.size, i.bytes)) = some (some (.int .u64 0), 1, 8) := by kernel_rfl
theorem rowU64R : RowTy Tryz.prog 45 36 1 8 (.int .u64 0) := ⟨Tryz.underlying45, infoU64R, rfl, by decide⟩

structure RsAt (kv : Value) (ks : List Int) (w0 w : World) (b c : Nat) (F : Nat → Prop) (most : Nat) (sv tv : Value) (L : List Hz) (S : List Int) (T : List Hz) : Prop where
  cell : w.heap[b]? = some (.cells #[.pointer (some ⟨c, 0, none⟩), sv, tv] 138 (0, 0))
  best : RefL w F c most L
  seen : w.ownsRow w0.heap.size 36 1 sv S.length (S.map (Value.int .u64))
  todo : w.ownsRow w0.heap.size 38 3 tv T.length (flat3 (T.map bareV))
  fhi : ∀ k, F k → k < w.heap.size
  fb : ¬ F b
  fs : ∀ k, sv.ownBlock = some k → ¬ F k
  ft : ∀ k, tv.ownBlock = some k → ¬ F k
  low : w0.heap.size ≤ b ∧ w0.heap.size ≤ c
  old : Below w0.heap.size w0 w
  keys : Nums w .u64 kv ks
  apart : ∀ k, kv.ownBlock = some k → 0 < ks.length → k < w.heap.size ∧ k ≠ b ∧ k ≠ c ∧ sv.ownBlock ≠ some k ∧ tv.ownBlock ≠ some k

theorem own_tyR {w : World} {B e s n : Nat} {v : Value} {xs : List Value} (h : w.ownsRow B e s v n xs) {b : Nat} (hb : v.ownBlock = some b) : ∃ cur, w.heap[b]? = some (.cells cur e (0, 0)) := by
  rcases h.2 with ⟨hv, -⟩ | ⟨g, cap, cur, hv, -, hg, -⟩
  · rw [hv] at hb; cases hb
  · rw [hv] at hb
    obtain rfl : g = b := by simpa [Value.ownBlock] using hb
    exact ⟨_, hg⟩

section
variable {kv : Value} {ks : List Int} {w0 w w' : World} {b c : Nat} {F : Nat → Prop} {most : Nat} {sv tv : Value} {L : List Hz} {S : List Int} {T : List Hz}

theorem RsAt.blt (h : RsAt kv ks w0 w b c F most sv tv L S T) : b < w.heap.size := (Array.getElem?_eq_some_iff.1 h.cell).1

theorem RsAt.fc (h : RsAt kv ks w0 w b c F most sv tv L S T) : F c := by obtain ⟨v, G, r, -, -, hF, -⟩ := h.best; exact hF

theorem RsAt.self (h : RsAt kv ks w0 w b c F most sv tv L S T) : b ≠ c ∧ sv.ownBlock ≠ some b ∧ tv.ownBlock ≠ some b ∧ (sv.ownBlock = none ∨ sv.ownBlock ≠ tv.ownBlock) ∧ (tv.ownBlock = none ∨ tv.ownBlock ≠ sv.ownBlock) := by
  refine ⟨fun e => h.fb (e ▸ h.fc), fun e => ?_, fun e => ?_, ?_, ?_⟩
  · obtain ⟨cur, hg⟩ := own_tyR h.seen e
    rw [h.cell] at hg
    cases hg
  · obtain ⟨cur, hg⟩ := own_tyR h.todo e
    rw [h.cell] at hg
    cases hg
  · exact own_apart h.seen h.todo (by decide)
  · exact own_apart h.todo h.seen (by decide)

/-- a step: what it turns are the state, the rows, the list's own block -/
theorem RsAt.turn (h : RsAt kv ks w0 w b c F most sv tv L S T) {F' : Nat → Prop} {sv' tv' : Value} {L' : List Hz} {S' : List Int} {T' : List Hz} (hm : Mod (fun k => k = b ∨ k = c ∨ sv.ownBlock = some k ∨ tv.ownBlock = some k) w w')
    (hc : w'.heap[b]? = some (.cells #[.pointer (some ⟨c, 0, none⟩), sv', tv'] 138 (0, 0))) (hb : RefL w' F' c most L') (hs : w'.ownsRow w0.heap.size 36 1 sv' S'.length (S'.map (Value.int .u64))) (ht : w'.ownsRow w0.heap.size 38 3 tv' T'.length (flat3 (T'.map bareV)))
    (hF : ∀ k, F' k → F k ∨ (w.heap.size ≤ k ∧ k < w'.heap.size)) (hsv : sv'.ownBlock = sv.ownBlock ∨ ∀ k, sv'.ownBlock = some k → w.heap.size ≤ k ∧ ¬ F' k) (htv : tv'.ownBlock = tv.ownBlock ∨ ∀ k, tv'.ownBlock = some k → w.heap.size ≤ k ∧ ¬ F' k) :
    RsAt kv ks w0 w' b c F' most sv' tv' L' S' T' := by
  have hbl := h.blt
  have hsz := hm.size
  have hws := h.old.size
  refine ⟨hc, hb, hs, ht, fun k hk => ?_, fun hk => ?_, fun k hk hF' => ?_, fun k hk hF' => ?_, h.low, h.old.trans (hm.below hws ?_), ?_, fun k hk h0 => ?_⟩
  · rcases hF k hk with h1 | h1
    · have := h.fhi k h1; omega
    · omega
  · rcases hF b hk with h1 | h1
    · exact h.fb h1
    · omega
  · rcases hsv with e | e
    · rw [e] at hk
      rcases hF k hF' with h1 | h1
      · exact h.fs k hk h1
      · have := (h.seen.lt k hk).2; omega
    · exact (e k hk).2 hF'
  · rcases htv with e | e
    · rw [e] at hk
      rcases hF k hF' with h1 | h1
      · exact h.ft k hk h1
      · have := (h.todo.lt k hk).2; omega
    · exact (e k hk).2 hF'
  · rintro k (rfl | rfl | hk | hk)
    · exact h.low.1
    · exact h.low.2
    · exact (h.seen.lt k hk).1
    · exact (h.todo.lt k hk).1
  · refine h.keys.agree (F := fun k => kv.ownBlock = some k ∧ 0 < ks.length) (fun hn b hb => ⟨hb, hn⟩) fun k hk => ?_
    obtain ⟨h1, h2, h3, h4, h5⟩ := h.apart k hk.1 hk.2
    exact hm.block k h1 fun e => by
      rcases e with e | e | e | e
      · exact h2 e
      · exact h3 e
      · exact h4 e
      · exact h5 e
  · obtain ⟨h1, h2, h3, h4, h5⟩ := h.apart k hk h0
    refine ⟨by omega, h2, h3, ?_, ?_⟩
    · rcases hsv with e | e
      · rw [e]; exact h4
      · intro e2
        have := (e k e2).1
        omega
    · rcases htv with e | e
      · rw [e]; exact h5
      · intro e2
        have := (e k e2).1
        omega

theorem RsAt.below (h : RsAt kv ks w0 w b c F most sv tv L S T) (hb : Below w.heap.size w w') : RsAt kv ks w0 w' b c F most sv tv L S T :=
  h.turn (Mod.of_below hb) ((hb.block b h.blt).trans h.cell) (h.best.below hb) (own_below h.seen hb) (own_below h.todo hb) (fun k hk => .inl hk) (.inl rfl) (.inl rfl)

theorem RsAt.hits (h : RsAt kv ks w0 w b c F most sv tv L S T) (hb : ∀ x ∈ T, x.vec = []) : HitsF w (fun k => tv.ownBlock = some k) tv T :=
  HitsF.of_own h.todo (fun b hb => hb) (bare_rows hb)

/-- one more was seen -/
theorem RsAt.saw (h : RsAt kv ks w0 w b c F most sv tv L S T) (k : Int) (hS : S.length ≤ 100000) : ∃ (g cp : Nat) (w' : World), (∀ ty, (Builtin.append_ #[45, 45] ty #[sv, .slice (some ⟨w.heap.size, 0, none⟩) 1 1]).run Tryz.prog (w.alloc (.cells #[.int .u64 k] 36)) = .ok (.slice (some ⟨g, 0, none⟩) (S.length + 1) cp) w') ∧
    RsAt kv ks w0 (w'.setCell ⟨b, 1, none⟩ (.slice (some ⟨g, 0, none⟩) (S.length + 1) cp)) b c F most (.slice (some ⟨g, 0, none⟩) (S.length + 1) cp) tv L (S ++ [k]) T ∧ w'.heap[b]? = some (.cells #[.pointer (some ⟨c, 0, none⟩), sv, tv] 138 (0, 0)) := by
  obtain ⟨g, cp, w', hrun, hown, hg, hat, hgl⟩ := run_push rowU64R h.seen h.old.size #[.int .u64 k] rfl (by simp [Value.oneCell']) (by simp [maxLen]; omega) (by omega)
  obtain ⟨e1, e2, e3, e4, e5⟩ := h.self
  have hb1 : Below w.heap.size w (w.alloc (.cells #[.int .u64 k] 36)) := (Below.refl _ w).alloc (Nat.le_refl _) _
  have hmw : Mod (fun j => sv.ownBlock = some j) w w' := (Mod.of_below (F := fun j => sv.ownBlock = some j) hb1).grown hg (fun j hj => .inl hj)
  have hcell : w'.heap[b]? = some (.cells #[.pointer (some ⟨c, 0, none⟩), sv, tv] 138 (0, 0)) := (hmw.block b h.blt e2).trans h.cell
  have hset := setBk hcell 1 (.slice (some ⟨g, 0, none⟩) (S.length + 1) cp)
  have hcl : c < w.heap.size := h.fhi c h.fc
  have hgb : g ≠ b := by
    rcases hat with e | e
    · rintro rfl; exact e2 e
    · have := h.blt; omega
  have hown' : (w'.setCell ⟨b, 1, none⟩ (.slice (some ⟨g, 0, none⟩) (S.length + 1) cp)).ownsRow w0.heap.size 36 1 (.slice (some ⟨g, 0, none⟩) (S.length + 1) cp) (S.length + 1) (S.map (Value.int .u64) ++ [.int .u64 k]) :=
    own_agree hown fun j hj => setBk_other (fun e => hgb ((show g = j from by simpa [Value.ownBlock] using hj).trans e))
  have htodo : (w'.setCell ⟨b, 1, none⟩ (.slice (some ⟨g, 0, none⟩) (S.length + 1) cp)).ownsRow w0.heap.size 38 3 tv T.length (flat3 (T.map bareV)) :=
    own_agree h.todo fun j hj => (setBk_other (by rintro rfl; exact e3 hj)).trans (hmw.block j (h.todo.lt j hj).2 (by
      rcases e5 with e | e
      · rw [e] at hj; cases hj
      · rw [← hj]; exact Ne.symm e))
  refine ⟨g, cp, w', hrun, h.turn ((hmw.mono fun j _ e => .inr (.inr (.inl e))).setCell (p := ⟨b, 1, none⟩) (.inl (.inl rfl)) _) (by simpa using hset) ?_ (by simpa using hown') htodo (fun j hj => .inl hj) ?_ (.inl rfl), hcell⟩
  · refine (h.best.agree (fun j hj => hmw.block j (h.fhi j hj) fun e => h.fs j e hj) hmw.size).agree (fun j hj => setBk_other (by rintro rfl; exact h.fb hj)) (by simp [World.setCell])
  · rcases hat with e | e
    · exact .inl (by rw [e]; rfl)
    · refine .inr fun j hj => ?_
      obtain rfl : g = j := by simpa [Value.ownBlock] using hj
      exact ⟨by omega, fun hF => by have := h.fhi g hF; omega⟩

/-- one more to be gone to -/
theorem RsAt.pushed (h : RsAt kv ks w0 w b c F most sv tv L S T) (k d : Int) (hT : T.length ≤ 100000) : ∃ (g cp : Nat) (w' : World), (∀ ty, (Builtin.append_ #[30, 30] ty #[tv, .slice (some ⟨w.heap.size, 0, none⟩) 1 1]).run Tryz.prog (w.alloc (.cells #[.int .u64 k, .int .u64 d, .slice none 0 0] 38)) = .ok (.slice (some ⟨g, 0, none⟩) (T.length + 1) cp) w') ∧
    RsAt kv ks w0 (w'.setCell ⟨b, 2, none⟩ (.slice (some ⟨g, 0, none⟩) (T.length + 1) cp)) b c F most sv (.slice (some ⟨g, 0, none⟩) (T.length + 1) cp) L S (T ++ [hitK k d]) ∧ w'.heap[b]? = some (.cells #[.pointer (some ⟨c, 0, none⟩), sv, tv] 138 (0, 0)) ∧ ∀ j, j < w.heap.size → tv.ownBlock ≠ some j → w'.heap[j]? = w.heap[j]? := by
  obtain ⟨g, cp, w', hrun, hown, hg, hat, hgl⟩ := run_push rowHit h.todo h.old.size #[.int .u64 k, .int .u64 d, .slice none 0 0] rfl (by simp [Value.oneCell']) (by simp [maxLen]; omega) (by omega)
  obtain ⟨e1, e2, e3, e4, e5⟩ := h.self
  have hb1 : Below w.heap.size w (w.alloc (.cells #[.int .u64 k, .int .u64 d, .slice none 0 0] 38)) := (Below.refl _ w).alloc (Nat.le_refl _) _
  have hmw : Mod (fun j => tv.ownBlock = some j) w w' := (Mod.of_below (F := fun j => tv.ownBlock = some j) hb1).grown hg (fun j hj => .inl hj)
  have hcell : w'.heap[b]? = some (.cells #[.pointer (some ⟨c, 0, none⟩), sv, tv] 138 (0, 0)) := (hmw.block b h.blt e3).trans h.cell
  have hset := setBk hcell 2 (.slice (some ⟨g, 0, none⟩) (T.length + 1) cp)
  have hcl : c < w.heap.size := h.fhi c h.fc
  have hgb : g ≠ b := by
    rcases hat with e | e
    · rintro rfl; exact e3 e
    · have := h.blt; omega
  have ef : flat3 ((T ++ [hitK k d]).map bareV) = flat3 (T.map bareV) ++ [.int .u64 k, .int .u64 d, .slice none 0 0] := by rw [List.map_append, flat3_append]; rfl
  have hown' : (w'.setCell ⟨b, 2, none⟩ (.slice (some ⟨g, 0, none⟩) (T.length + 1) cp)).ownsRow w0.heap.size 38 3 (.slice (some ⟨g, 0, none⟩) (T.length + 1) cp) (T ++ [hitK k d]).length (flat3 ((T ++ [hitK k d]).map bareV)) := by
    rw [ef, List.length_append]
    exact own_agree hown fun j hj => setBk_other (fun e => hgb ((show g = j from by simpa [Value.ownBlock] using hj).trans e))
  have hseen : (w'.setCell ⟨b, 2, none⟩ (.slice (some ⟨g, 0, none⟩) (T.length + 1) cp)).ownsRow w0.heap.size 36 1 sv S.length (S.map (Value.int .u64)) :=
    own_agree h.seen fun j hj => (setBk_other (by rintro rfl; exact e2 hj)).trans (hmw.block j (h.seen.lt j hj).2 (by
      rcases e4 with e | e
      · rw [e] at hj; cases hj
      · rw [← hj]; exact Ne.symm e))
  refine ⟨g, cp, w', hrun, h.turn ((hmw.mono fun j _ e => .inr (.inr (.inr e))).setCell (p := ⟨b, 2, none⟩) (.inl (.inl rfl)) _) (by simpa using hset) ?_ hseen hown' (fun j hj => .inl hj) (.inl rfl) ?_, hcell, fun j hj hne => hmw.block j hj hne⟩
  · refine (h.best.agree (fun j hj => hmw.block j (h.fhi j hj) fun e => h.ft j e hj) hmw.size).agree (fun j hj => setBk_other (by rintro rfl; exact h.fb hj)) (by simp [World.setCell])
  · rcases hat with e | e
    · exact .inl (by rw [e]; rfl)
    · refine .inr fun j hj => ?_
      obtain rfl : g = j := by simpa [Value.ownBlock] using hj
      exact ⟨by omega, fun hF => by have := h.fhi g hF; omega⟩

/-- one more among the best -/
theorem RsAt.added (h : RsAt kv ks w0 w b c F most sv tv L S T) (hm : 1 ≤ most ∧ most ≤ 1000) (g : GoodL most L) (k d : Int) :
    Calls Tryz.prog 104 #[.pointer (some ⟨c, 0, none⟩), .agg #[.int .u64 k, .int .u64 d, .slice none 0 0]] w fun e w' => ∃ (z : Bool) (F' : Nat → Prop), e = .returned (.bool z) ∧ RsAt kv ks w0 w' b c F' most sv tv (addZ most L (hitK k d)).2 S T ∧ Mod (fun j => j = c) w w' := by
  refine (show Calls Tryz.prog 104 _ w _ from refAdd F c most L (hitK k d) (.slice none 0 0) w hm.1 (by have := g.len; omega) h.best h.fhi g (Nums.mk (xs := []) (by simp) (by simp) (by simp) (by simp)) (by simp [hitK])).mono ?_
  rintro e w' ⟨rfl, hl, hmod⟩
  obtain ⟨e1, e2, e3, -, -⟩ := h.self
  have hsz := hmod.size
  have hcF := h.fc
  refine ⟨_, Plus F w w', rfl, h.turn (hmod.mono fun j _ e => .inr (.inl e)) ((hmod.block b h.blt e1).trans h.cell) hl (own_agree h.seen fun j hj => hmod.block j (h.seen.lt j hj).2 (by rintro rfl; exact h.fs _ hj hcF)) (own_agree h.todo fun j hj => hmod.block j (h.todo.lt j hj).2 (by rintro rfl; exact h.ft _ hj hcF)) (fun j hj => hj) (.inl rfl) (.inl rfl), hmod⟩
end

end Go.Proofs.YtpjbkaibgajpcaaGreat
