/- best's document: all that it has, in order; a new one. Lists that are put together in no room. walk's document: the state of a walk in memory. walk's document: a node is seen. graph's document: how it lies; is a number in a list. -/
import Derived.Test.YtpjbkaibgajpcaaGreatJ12
import Derived.Test.YtpjbkaibgajpcaaGreatJ02
import Derived.Test.YtpjbkaibgajpcaaGreatJ08
import Derived.Test.YtpjbkaibgajpcaaGreatJ10
import Derived.Deep.DeepCutAuto
import Derived.Test.YtpjbkaibgajpcaaGreatJ01
namespace Go.Proofs.YtpjbkaibgajpcaaGreat
open Go.RowKit
set_option maxRecDepth 20000

theorem refAll (F : Nat → Prop) (c : Nat) (most : Int) (n : Nat) (L : List Hz) (w : World) (hL : RefL w F c most L) (gL : GoodL n L) (hn : L.length ≤ 1000000) :
    Calls Tryz.prog 79 #[.pointer (some ⟨c, 0, none⟩)] w (SortTo w F L) := by
  obtain ⟨v, G, r, ho, hp, -, hG⟩ := hL
  obtain ⟨c0, c1, -⟩ := ho.cells
  have hlen := hp.length_eq
  have S := Lib.hid (sort r L gL.sorted (gL.ids.perm hp) hp (by omega) v G w ho.hits)
  have GF := Lib.hid hG
  clear ho hp gL hG hlen
  go_enter Tryz.func79, Tryz.ntmps79
  go_wp2_with fail
  refine S.out.mono ?_
  rintro e w' ⟨v', rfl, hh, hb⟩
  have R := Lib.hid (And.intro (hh.mono (G := Plus F w w') fun k hk => by
    rcases hk with hk | hk
    · exact .inl (GF.out k hk)
    · exact .inr hk) hb)
  clear hh hb
  go_wp2_with fail
  go_ret
  exact ⟨v', rfl, R.out.1, R.out.2⟩

end Go.Proofs.YtpjbkaibgajpcaaGreat

namespace Go.Proofs.YtpjbkaibgajpcaaGreat
open Go.RowKit
set_option maxRecDepth 20000

theorem infoU64R : (Tryz.prog.info? 36).map (fun i => (i.zero, i.size, i.bytes)) = some (some (.int .u64 0), 1, 8) := by kernel_rfl
theorem rowU64R : RowTy Tryz.prog 45 36 1 8 (.int .u64 0) := ⟨Tryz.underlying45, infoU64R, rfl, by decide⟩

structure RsAt (kv : Value) (ks : List Int) (w0 w : World) (b c : Nat) (F : Nat → Prop) (most : Nat) (sv tv : Value) (L : List Hz) (S : List Int) (T : List Hz) : Prop where
  cell : w.heap[b]? = some (.cells #[.pointer (some ⟨c, 0, none⟩), sv, tv] 138 (0, 0))
  best : RefL w F c most L
  seen : w.ownsRow w0.heap.size 36 1 sv S.length (S.map (Value.int .u64))
  todo : w.ownsRow w0.heap.size 38 3 tv T.length (flat3 (T.map bareV))
  fhi : ∀ k, F k → k < w.heap.size
  fb : ¬ F b
  fs : ∀ k, sv.ownBlock = some k → ¬ F k
  ft : ∀ k, tv.ownBlock = some k → ¬ F k
  low : w0.heap.size ≤ b ∧ w0.heap.size ≤ c
  old : Below w0.heap.size w0 w
  keys : Nums w .u64 kv ks
  apart : ∀ k, kv.ownBlock = some k → 0 < ks.length → k < w.heap.size ∧ k ≠ b ∧ k ≠ c ∧ sv.ownBlock ≠ some k ∧ tv.ownBlock ≠ some k

theorem own_tyR {w : World} {B e s n : Nat} {v : Value} {xs : List Value} (h : w.ownsRow B e s v n xs) {b : Nat} (hb : v.ownBlock = some b) : ∃ cur, w.heap[b]? = some (.cells cur e (0, 0)) := by
  rcases h.2 with ⟨hv, -⟩ | ⟨g, cap, cur, hv, -, hg, -⟩
  · rw [hv] at hb; cases hb
  · rw [hv] at hb
    obtain rfl : g = b := by simpa [Value.ownBlock] using hb
    exact ⟨_, hg⟩

section
variable {kv : Value} {ks : List Int} {w0 w w' : World} {b c : Nat} {F : Nat → Prop} {most : Nat} {sv tv : Value} {L : List Hz} {S : List Int} {T : List Hz}

theorem RsAt.blt (h : RsAt kv ks w0 w b c F most sv tv L S T) : b < w.heap.size := (Array.getElem?_eq_some_iff.1 h.cell).1

theorem RsAt.fc (h : RsAt kv ks w0 w b c F most sv tv L S T) : F c := by obtain ⟨v, G, r, -, -, hF, -⟩ := h.best; exact hF

theorem RsAt.self (h : RsAt kv ks w0 w b c F most sv tv L S T) : b ≠ c ∧ sv.ownBlock ≠ some b ∧ tv.ownBlock ≠ some b ∧ (sv.ownBlock = none ∨ sv.ownBlock ≠ tv.ownBlock) ∧ (tv.ownBlock = none ∨ tv.ownBlock ≠ sv.ownBlock) := by
  refine ⟨fun e => h.fb (e ▸ h.fc), fun e => ?_, fun e => ?_, ?_, ?_⟩
  · obtain ⟨cur, hg⟩ := own_tyR h.seen e
    rw [h.cell] at hg
    cases hg
  · obtain ⟨cur, hg⟩ := own_tyR h.todo e
    rw [h.cell] at hg
    cases hg
  · exact own_apart h.seen h.todo (by decide)
  · exact own_apart h.todo h.seen (by decide)

theorem RsAt.turn (h : RsAt kv ks w0 w b c F most sv tv L S T) {F' : Nat → Prop} {sv' tv' : Value} {L' : List Hz} {S' : List Int} {T' : List Hz} (hm : Mod (fun k => k = b ∨ k = c ∨ sv.ownBlock = some k ∨ tv.ownBlock = some k) w w')
    (hc : w'.heap[b]? = some (.cells #[.pointer (some ⟨c, 0, none⟩), sv', tv'] 138 (0, 0))) (hb : RefL w' F' c most L') (hs : w'.ownsRow w0.heap.size 36 1 sv' S'.length (S'.map (Value.int .u64))) (ht : w'.ownsRow w0.heap.size 38 3 tv' T'.length (flat3 (T'.map bareV)))
    (hF : ∀ k, F' k → F k ∨ (w.heap.size ≤ k ∧ k < w'.heap.size)) (hsv : sv'.ownBlock = sv.ownBlock ∨ ∀ k, sv'.ownBlock = some k → w.heap.size ≤ k ∧ ¬ F' k) (htv : tv'.ownBlock = tv.ownBlock ∨ ∀ k, tv'.ownBlock = some k → w.heap.size ≤ k ∧ ¬ F' k) :
    RsAt kv ks w0 w' b c F' most sv' tv' L' S' T' := by
  have hbl := h.blt
  have hsz := hm.size
  have hws := h.old.size
  refine ⟨hc, hb, hs, ht, fun k hk => ?_, fun hk => ?_, fun k hk hF' => ?_, fun k hk hF' => ?_, h.low, h.old.trans (hm.below hws ?_), ?_, fun k hk h0 => ?_⟩
  · rcases hF k hk with h1 | h1
    · have := h.fhi k h1; omega
    · omega
  · rcases hF b hk with h1 | h1
    · exact h.fb h1
    · omega
  · rcases hsv with e | e
    · rw [e] at hk
      rcases hF k hF' with h1 | h1
      · exact h.fs k hk h1
      · have := (h.seen.lt k hk).2; omega
    · exact (e k hk).2 hF'
  · rcases htv with e | e
    · rw [e] at hk
      rcases hF k hF' with h1 | h1
      · exact h.ft k hk h1
      · have := (h.todo.lt k hk).2; omega
    · exact (e k hk).2 hF'
  · rintro k (rfl | rfl | hk | hk)
    · exact h.low.1
    · exact h.low.2
    · exact (h.seen.lt k hk).1
    · exact (h.todo.lt k hk).1
  · refine h.keys.agree (F := fun k => kv.ownBlock = some k ∧ 0 < ks.length) (fun hn b hb => ⟨hb, hn⟩) fun k hk => ?_
    obtain ⟨h1, h2, h3, h4, h5⟩ := h.apart k hk.1 hk.2
    exact hm.block k h1 fun e => by
      rcases e with e | e | e | e
      · exact h2 e
      · exact h3 e
      · exact h4 e
      · exact h5 e
  · obtain ⟨h1, h2, h3, h4, h5⟩ := h.apart k hk h0
    refine ⟨by omega, h2, h3, ?_, ?_⟩
    · rcases hsv with e | e
      · rw [e]; exact h4
      · intro e2
        have := (e k e2).1
        omega
    · rcases htv with e | e
      · rw [e]; exact h5
      · intro e2
        have := (e k e2).1
        omega

theorem RsAt.below (h : RsAt kv ks w0 w b c F most sv tv L S T) (hb : Below w.heap.size w w') : RsAt kv ks w0 w' b c F most sv tv L S T :=
  h.turn (Mod.of_below hb) ((hb.block b h.blt).trans h.cell) (h.best.below hb) (own_below h.seen hb) (own_below h.todo hb) (fun _k hk => .inl hk) (.inl rfl) (.inl rfl)

theorem RsAt.hits (h : RsAt kv ks w0 w b c F most sv tv L S T) (hb : ∀ x ∈ T, x.vec = []) : HitsF w (fun k => tv.ownBlock = some k) tv T :=
  HitsF.of_own h.todo (fun _b hb => hb) (bare_rows hb)

theorem RsAt.saw (h : RsAt kv ks w0 w b c F most sv tv L S T) (k : Int) (hS : S.length ≤ 100000) : ∃ (g cp : Nat) (w' : World), (∀ ty, (Builtin.append_ #[45, 45] ty #[sv, .slice (some ⟨w.heap.size, 0, none⟩) 1 1]).run Tryz.prog (w.alloc (.cells #[.int .u64 k] 36)) = .ok (.slice (some ⟨g, 0, none⟩) (S.length + 1) cp) w') ∧
    RsAt kv ks w0 (w'.setCell ⟨b, 1, none⟩ (.slice (some ⟨g, 0, none⟩) (S.length + 1) cp)) b c F most (.slice (some ⟨g, 0, none⟩) (S.length + 1) cp) tv L (S ++ [k]) T ∧ w'.heap[b]? = some (.cells #[.pointer (some ⟨c, 0, none⟩), sv, tv] 138 (0, 0)) := by
  obtain ⟨g, cp, w', hrun, hown, hg, hat, hgl⟩ := run_push rowU64R h.seen h.old.size #[.int .u64 k] rfl (by simp [Value.oneCell']) (by simp [maxLen]; omega) (by omega)
  obtain ⟨e1, e2, e3, e4, e5⟩ := h.self
  have hb1 : Below w.heap.size w (w.alloc (.cells #[.int .u64 k] 36)) := (Below.refl _ w).alloc (Nat.le_refl _) _
  have hmw : Mod (fun j => sv.ownBlock = some j) w w' := (Mod.of_below (F := fun j => sv.ownBlock = some j) hb1).grown hg (fun j hj => .inl hj)
  have hcell : w'.heap[b]? = some (.cells #[.pointer (some ⟨c, 0, none⟩), sv, tv] 138 (0, 0)) := (hmw.block b h.blt e2).trans h.cell
  have hset := setBk hcell 1 (.slice (some ⟨g, 0, none⟩) (S.length + 1) cp)
  have hcl : c < w.heap.size := h.fhi c h.fc
  have hgb : g ≠ b := by
    rcases hat with e | e
    · rintro rfl; exact e2 e
    · have := h.blt; omega
  have hown' : (w'.setCell ⟨b, 1, none⟩ (.slice (some ⟨g, 0, none⟩) (S.length + 1) cp)).ownsRow w0.heap.size 36 1 (.slice (some ⟨g, 0, none⟩) (S.length + 1) cp) (S.length + 1) (S.map (Value.int .u64) ++ [.int .u64 k]) :=
    own_agree hown fun j hj => setBk_other (fun e => hgb ((show g = j from by simpa [Value.ownBlock] using hj).trans e))
  have htodo : (w'.setCell ⟨b, 1, none⟩ (.slice (some ⟨g, 0, none⟩) (S.length + 1) cp)).ownsRow w0.heap.size 38 3 tv T.length (flat3 (T.map bareV)) :=
    own_agree h.todo fun j hj => (setBk_other (by rintro rfl; exact e3 hj)).trans (hmw.block j (h.todo.lt j hj).2 (by
      rcases e5 with e | e
      · rw [e] at hj; cases hj
      · rw [← hj]; exact Ne.symm e))
  refine ⟨g, cp, w', hrun, h.turn ((hmw.mono fun j _ e => .inr (.inr (.inl e))).setCell (p := ⟨b, 1, none⟩) (.inl (.inl rfl)) _) (by simpa using hset) ?_ (by simpa using hown') htodo (fun j hj => .inl hj) ?_ (.inl rfl), hcell⟩
  · refine (h.best.agree (fun j hj => hmw.block j (h.fhi j hj) fun e => h.fs j e hj) hmw.size).agree (fun j hj => setBk_other (by rintro rfl; exact h.fb hj)) (by simp [World.setCell])
  · rcases hat with e | e
    · exact .inl (by rw [e]; rfl)
    · refine .inr fun j hj => ?_
      obtain rfl : g = j := by simpa [Value.ownBlock] using hj
      exact ⟨by omega, fun hF => by have := h.fhi g hF; omega⟩

theorem RsAt.pushed (h : RsAt kv ks w0 w b c F most sv tv L S T) (k d : Int) (hT : T.length ≤ 100000) : ∃ (g cp : Nat) (w' : World), (∀ ty, (Builtin.append_ #[30, 30] ty #[tv, .slice (some ⟨w.heap.size, 0, none⟩) 1 1]).run Tryz.prog (w.alloc (.cells #[.int .u64 k, .int .u64 d, .slice none 0 0] 38)) = .ok (.slice (some ⟨g, 0, none⟩) (T.length + 1) cp) w') ∧
    RsAt kv ks w0 (w'.setCell ⟨b, 2, none⟩ (.slice (some ⟨g, 0, none⟩) (T.length + 1) cp)) b c F most sv (.slice (some ⟨g, 0, none⟩) (T.length + 1) cp) L S (T ++ [hitK k d]) ∧ w'.heap[b]? = some (.cells #[.pointer (some ⟨c, 0, none⟩), sv, tv] 138 (0, 0)) ∧ ∀ j, j < w.heap.size → tv.ownBlock ≠ some j → w'.heap[j]? = w.heap[j]? := by
  obtain ⟨g, cp, w', hrun, hown, hg, hat, hgl⟩ := run_push rowHit h.todo h.old.size #[.int .u64 k, .int .u64 d, .slice none 0 0] rfl (by simp [Value.oneCell']) (by simp [maxLen]; omega) (by omega)
  obtain ⟨e1, e2, e3, e4, e5⟩ := h.self
  have hb1 : Below w.heap.size w (w.alloc (.cells #[.int .u64 k, .int .u64 d, .slice none 0 0] 38)) := (Below.refl _ w).alloc (Nat.le_refl _) _
  have hmw : Mod (fun j => tv.ownBlock = some j) w w' := (Mod.of_below (F := fun j => tv.ownBlock = some j) hb1).grown hg (fun j hj => .inl hj)
  have hcell : w'.heap[b]? = some (.cells #[.pointer (some ⟨c, 0, none⟩), sv, tv] 138 (0, 0)) := (hmw.block b h.blt e3).trans h.cell
  have hset := setBk hcell 2 (.slice (some ⟨g, 0, none⟩) (T.length + 1) cp)
  have hcl : c < w.heap.size := h.fhi c h.fc
  have hgb : g ≠ b := by
    rcases hat with e | e
    · rintro rfl; exact e3 e
    · have := h.blt; omega
  have ef : flat3 ((T ++ [hitK k d]).map bareV) = flat3 (T.map bareV) ++ [.int .u64 k, .int .u64 d, .slice none 0 0] := by rw [List.map_append, flat3_append]; rfl
  have hown' : (w'.setCell ⟨b, 2, none⟩ (.slice (some ⟨g, 0, none⟩) (T.length + 1) cp)).ownsRow w0.heap.size 38 3 (.slice (some ⟨g, 0, none⟩) (T.length + 1) cp) (T ++ [hitK k d]).length (flat3 ((T ++ [hitK k d]).map bareV)) := by
    rw [ef, List.length_append]
    exact own_agree hown fun j hj => setBk_other (fun e => hgb ((show g = j from by simpa [Value.ownBlock] using hj).trans e))
  have hseen : (w'.setCell ⟨b, 2, none⟩ (.slice (some ⟨g, 0, none⟩) (T.length + 1) cp)).ownsRow w0.heap.size 36 1 sv S.length (S.map (Value.int .u64)) :=
    own_agree h.seen fun j hj => (setBk_other (by rintro rfl; exact e2 hj)).trans (hmw.block j (h.seen.lt j hj).2 (by
      rcases e4 with e | e
      · rw [e] at hj; cases hj
      · rw [← hj]; exact Ne.symm e))
  refine ⟨g, cp, w', hrun, h.turn ((hmw.mono fun j _ e => .inr (.inr (.inr e))).setCell (p := ⟨b, 2, none⟩) (.inl (.inl rfl)) _) (by simpa using hset) ?_ hseen hown' (fun j hj => .inl hj) (.inl rfl) ?_, hcell, fun j hj hne => hmw.block j hj hne⟩
  · refine (h.best.agree (fun j hj => hmw.block j (h.fhi j hj) fun e => h.ft j e hj) hmw.size).agree (fun j hj => setBk_other (by rintro rfl; exact h.fb hj)) (by simp [World.setCell])
  · rcases hat with e | e
    · exact .inl (by rw [e]; rfl)
    · refine .inr fun j hj => ?_
      obtain rfl : g = j := by simpa [Value.ownBlock] using hj
      exact ⟨by omega, fun hF => by have := h.fhi g hF; omega⟩

theorem RsAt.added (h : RsAt kv ks w0 w b c F most sv tv L S T) (hm : 1 ≤ most ∧ most ≤ 1000) (g : GoodL most L) (k d : Int) :
    Calls Tryz.prog 104 #[.pointer (some ⟨c, 0, none⟩), .agg #[.int .u64 k, .int .u64 d, .slice none 0 0]] w fun e w' => ∃ (z : Bool) (F' : Nat → Prop), e = .returned (.bool z) ∧ RsAt kv ks w0 w' b c F' most sv tv (addZ most L (hitK k d)).2 S T ∧ Mod (fun j => j = c) w w' := by
  refine (show Calls Tryz.prog 104 _ w _ from refAdd F c most L (hitK k d) (.slice none 0 0) w hm.1 (by have := g.len; omega) h.best h.fhi g (Nums.mk (xs := []) (by simp) (by simp) (by simp) (by simp)) (by simp [hitK])).mono ?_
  rintro e w' ⟨rfl, hl, hmod⟩
  obtain ⟨e1, e2, e3, -, -⟩ := h.self
  have hsz := hmod.size
  have hcF := h.fc
  refine ⟨_, Plus F w w', rfl, h.turn (hmod.mono fun j _ e => .inr (.inl e)) ((hmod.block b h.blt e1).trans h.cell) hl (own_agree h.seen fun j hj => hmod.block j (h.seen.lt j hj).2 (by rintro rfl; exact h.fs _ hj hcF)) (own_agree h.todo fun j hj => hmod.block j (h.todo.lt j hj).2 (by rintro rfl; exact h.ft _ hj hcF)) (fun j hj => hj) (.inl rfl) (.inl rfl), hmod⟩
end

end Go.Proofs.YtpjbkaibgajpcaaGreat

namespace Go.Proofs.YtpjbkaibgajpcaaGreat
open Go.RowKit
set_option maxRecDepth 20000

def seeR (far : Int → Option Int) (most : Nat) (all : Bool) (s : Ws) (k : Int) : Ws :=
  match far k with
  | none => s
  | some d => if k ∈ s.S then s else if (hopeB most s.L (hitK k d) || all) = true then ⟨(addZ most s.L (hitK k d)).2, s.S ++ [k], s.T ++ [hitK k d]⟩ else ⟨s.L, s.S ++ [k], s.T⟩

structure Like (s t : Ws) : Prop where
  best : s.L = t.L
  seen : s.S = t.S
  todo : s.T.Perm t.T

theorem Like.see {s t : Ws} (h : Like s t) (far : Int → Option Int) (most : Nat) (all : Bool) (k : Int) : Like (seeR far most all s k) (seeW far most all t k) := by
  obtain ⟨L, S, T⟩ := s
  obtain ⟨L', S', T'⟩ := t
  obtain ⟨rfl, rfl, hT⟩ := h
  simp only at hT
  unfold seeR seeW
  cases far k with
  | none => exact ⟨rfl, rfl, hT⟩
  | some d =>
    simp only
    split
    · exact ⟨rfl, rfl, hT⟩
    · split
      · refine ⟨rfl, rfl, ?_⟩
        exact (List.perm_append_singleton _ _).trans ((hT.cons _).trans (insD_perm _ _).symm)
      · exact ⟨rfl, rfl, hT⟩

theorem notin_snoc (S : List Int) (k : Int) (j : Nat) (hj : j < S.length) : decide (k ∉ S.take (j + 1)) = (decide (k ∉ S.take j) && (S[j] != k)) := by
  rw [List.take_succ_eq_append_getElem hj]
  generalize S.take j = A
  generalize S[j] = y
  by_cases h1 : k ∈ A
  · simp [h1]
  · by_cases h2 : y = k
    · subst h2; simp
    · have h3 : ¬ k = y := fun e => h2 e.symm
      simp [h1, h2, h3]


set_option maxRecDepth 100000 in
set_option maxHeartbeats 16000000 in
theorem wSee (kv : Value) (ks : List Int) (w0 w : World) (x : Nat) (far : Int → Option Int) (cF : ∀ W, Below w0.heap.size w0 W → ∀ k, Calls Tryz.prog 103 #[.pointer (some ⟨x, 0, none⟩), .int .u64 k] W fun e w' => ∃ v, e = .returned v ∧ v = .tuple #[.int .u64 ((far k).getD 0), .bool (far k).isSome] ∧ Below W.heap.size W w')
    (b c : Nat) (F : Nat → Prop) (most : Nat) (hm : 1 ≤ most ∧ most ≤ 1000) (sv tv : Value) (s : Ws) (h : RsAt kv ks w0 w b c F most sv tv s.L s.S s.T) (g : GoodL most s.L) (hS : s.S.length ≤ 1000) (hT : s.T.length ≤ 1000) (k : Int) (all : Bool) :
    Calls Tryz.prog 78 #[.pointer (some ⟨x, 0, none⟩), .pointer (some ⟨b, 0, none⟩), .int .u64 k, .bool all] w fun e w' => e = .returned (.tuple #[]) ∧ ∃ F' sv' tv', RsAt kv ks w0 w' b c F' most sv' tv' (seeR far most all s k).L (seeR far most all s k).S (seeR far most all s k).T := by
  obtain ⟨L, S, T⟩ := s
  simp only at h g hS hT
  have A0 := Lib.hid h
  have GG := Lib.hid g
  have cF0 := Lib.hid (cF w h.old k)
  obtain ⟨okB, hok⟩ : ∃ b, b = (far k).isSome := ⟨_, rfl⟩
  rw [← hok] at cF0
  obtain ⟨d0, hd0⟩ : ∃ d, d = (far k).getD 0 := ⟨_, rfl⟩
  rw [← hd0] at cF0
  have OK := Lib.hid (And.intro hok hd0)
  clear h g cF hok hd0
  go_enter Tryz.func78, Tryz.ntmps78
  go_upto_region 2 with (go_at_call 103; (with_reducible refine cF0.out.mono ?_); rintro e w1 ⟨v, rfl, rfl, hb1⟩; have A1 := Lib.hid (A0.out.below hb1); have c1 : w1.cell? ⟨b, 1, none⟩ = some sv := cellsB A1.out.cell 1; obtain ⟨sp, sn, sc, rfl⟩ := own_form A1.out.seen; obtain rfl : sn = S.length := own_len A1.out.seen; clear hb1)
  go_loopg [9, 25] S.length (fun q o i wr => ∃ j : Nat, q = S.length - j ∧ j ≤ S.length ∧ i = .int .i64 j ∧ o = .bool (okB && decide (k ∉ S.take j)) ∧ wr = w1)
  case atStart => exact ⟨0, rfl, by omega, rfl, by simp, rfl⟩
  case round =>
    obtain ⟨j, rfl, hj, rfl, rfl, rfl⟩ := hrel
    by_cases hlt : j < S.length
    · obtain ⟨bb, ob, hsp, hcell⟩ := (Nums.of_own A1.out.seen).elem hlt
      subst hsp
      have SN := Lib.hid (notin_snoc S k j hlt)
      obtain ⟨y, hy⟩ : ∃ y, y = S[j] := ⟨_, rfl⟩
      rw [← hy] at hcell SN
      clear hy
      cases ho : (okB && decide (k ∉ S.take j)) with
      | false =>
        have HO := Lib.hid ho
        clear ho
        go_wp2_with fail
        go_roundg (S.length - (j + 1))
        case measure => omega
        case rel => exact ⟨j + 1, rfl, by omega, by go_num, by rw [SN.out, ← Bool.and_assoc, HO.out, Bool.false_and], rfl⟩
      | true =>
        have HO := Lib.hid ho
        clear ho
        go_wp2_with fail
        go_roundg (S.length - (j + 1))
        case measure => omega
        case rel => exact ⟨j + 1, rfl, by omega, by go_num, by rw [SN.out, ← Bool.and_assoc, HO.out, Bool.true_and], rfl⟩
    · obtain rfl : j = S.length := by omega
      rw [List.take_length]
      obtain ⟨w1, rfl⟩ : ∃ W : World, W = wr := ⟨_, rfl⟩
      cases hf : far k with
      | none =>
        have hokf : okB = false := by rw [OK.out.1, hf]; rfl
        have FF := Lib.hid hf
        subst hokf
        clear hf
        simp only [Bool.false_and]
        go_wp2_with fail
        (try simp only [Exit.inBlock, Exit.then]); refine bodyPost_ret (results_none rfl _ _ _) rfl ?_
        exact ⟨rfl, F, _, tv, by simp only [seeR, FF.out]; exact A1.out⟩
      | some d =>
        have hokf : okB = true := by rw [OK.out.1, hf]; rfl
        have hdd : d0 = d := by rw [OK.out.2, hf]; rfl
        have FF := Lib.hid hf
        subst hokf
        subst hdd
        clear hf
        by_cases hkS : k ∈ S
        · have HS := Lib.hid hkS
          have hdec : (true && decide (k ∉ S)) = false := by simp [hkS]
          rw [hdec]
          clear hkS hdec
          go_wp2_with fail
          (try simp only [Exit.inBlock, Exit.then]); refine bodyPost_ret (results_none rfl _ _ _) rfl ?_
          exact ⟨rfl, F, _, tv, by simp only [seeR, FF.out, HS.out, if_true]; exact A1.out⟩
        · have HS := Lib.hid hkS
          have hdec : (true && decide (k ∉ S)) = true := by simp [hkS]
          rw [hdec]
          clear hkS hdec
          obtain ⟨gs, cps, w2, hrun, hA2, hb2⟩ := A1.out.saw k (by omega)
          have A2 := Lib.hid hA2
          have z1 : w2.frozen? ⟨b, 1, none⟩ = false := by simp [World.frozen?, hb2]
          have y1 := cellsB hb2 1
          clear hA2
          go_upto_region 8 with (with_reducible refine wpList_append_eq hrun rfl _ _ rfl rfl rfl ?_)
          obtain ⟨W3, hW3⟩ : ∃ W3, W3 = w2.setCell ⟨b, 1, none⟩ (.slice (some ⟨gs, 0, none⟩) (S.length + 1) cps) := ⟨_, rfl⟩
          have A3 := Lib.hid (show RsAt kv ks w0 W3 b c F most (.slice (some ⟨gs, 0, none⟩) (S.length + 1) cps) tv L (S ++ [k]) T from by rw [hW3]; exact A2.out)
          rw [← hW3]
          clear hW3 z1 y1 hrun hb2 A2
          obtain ⟨svn, hsvn⟩ : ∃ v, v = Value.slice (some ⟨gs, 0, none⟩) (S.length + 1) cps := ⟨_, rfl⟩
          rw [← hsvn] at A3
          clear hsvn
          go_upto_region 9 with fail
          obtain ⟨g, hg⟩ : ∃ g, g = W3.heap.size := ⟨_, rfl⟩
          have hgF : ¬ F g := fun hF => by have := A3.out.fhi g hF; omega
          have hgc : g ≠ c := fun e => hgF (e ▸ A3.out.fc)
          have hgb : g ≠ b := by have := A3.out.blt; omega
          have hgt : tv.ownBlock ≠ some g := fun e => by have := (A3.out.todo.lt g e).2; omega
          obtain ⟨W4, hW4⟩ : ∃ W4, W4 = (W3.alloc (.cells #[.int .u64 k, .int .u64 d0, .slice none 0 0] 38)).drew := ⟨_, rfl⟩
          have hb4 : Below W3.heap.size W3 W4 := by rw [hW4]; exact ((Below.refl _ _).alloc (Nat.le_refl _) _).drew
          have y4 : W4.heap[g]? = some (.cells #[.int .u64 k, .int .u64 d0, .slice none 0 0] 38 (0, 0)) := by rw [hW4, hg]; exact heap_alloc_new _ _
          rw [← hg]
          have A4 := Lib.hid (A3.out.below hb4)
          obtain ⟨vl, Gl, r, hro, hperm, -, -⟩ := A4.out.best
          obtain ⟨l0, l1, -⟩ := hro.cells
          obtain ⟨lp, lc, rfl, -, -, -, -⟩ := id hro.hits
          have hrl := hperm.length_eq
          rw [← hrl] at l1
          have b0 : W4.cell? ⟨b, 0, none⟩ = some (.pointer (some ⟨c, 0, none⟩)) := cellsB A4.out.cell 0
          have I4 := Lib.hid (And.intro b0 (And.intro l0 l1))
          have Y4 := Lib.hid (And.intro y4 (And.intro hgF (And.intro hgc (And.intro hgb hgt))))
          have HW4 := Lib.hid hW4
          have hLm := GG.out.len
          have HB := Lib.hid (show hopeB most L (hitK k d0) = (!decide (L.length = most) || (match L.getLast? with | some x => near (hitK k d0) x | none => false)) from rfl)
          clear hW4 hb4 y4 hg hgF hgc hgb hgt hro hperm hrl l0 l1 b0
          go_cut [70] (fun s wc => s = .bool (decide (L.length = most) && !all) ∧ wc = W4)
          case first =>
            by_cases hfull : L.length = most
            · have hge : (most : Int) ≤ (L.length : Int) := by omega
              refine region_go (fun w' => w'.cell? ⟨b, 0, none⟩ = some (.pointer (some ⟨c, 0, none⟩)) ∧ w'.cell? ⟨c, 0, none⟩ = some (.int .i64 most) ∧ w'.cell? ⟨c, 1, none⟩ = some (.slice lp L.length lc)) (by kernel_rfl) ?hS0 (fun hH => ?_)
              case hS0 =>
                rw [← HW4.out]; exact I4.out
              rw [← HW4.out] at hH ⊢
              refine kY 0 hH ?_
              repeat simp only [Act.put, uA1, uB1, uC1]
              refine kY 1 hH ?_
              repeat simp only [Act.put, uA1, uB1, uC1]
              refine kY 2 hH ?_
              repeat simp only [Act.put, uA1, uB1, uC1]
              refine kY 3 hH ?_
              repeat simp only [Act.put, uA1, uB1, uC1]
              refine kY 4 hH ?_
              repeat simp only [Act.put, uA1, uB1, uC1]
              refine kY 5 hH ?_
              repeat simp only [Act.put, uA1, uB1, uC1]
              refine kY 6 hH ?_
              repeat simp only [Act.put, uA1, uB1, uC1]
              refine kY 7 hH ?_
              repeat simp only [Act.put, uA1, uB1, uC1]
              refine kY 8 hH ?_
              repeat simp only [Act.put, uA1, uB1, uC1]
              refine kY 9 hH ?_
              repeat simp only [Act.put, uA1, uB1, uC1]
              refine kY 10 hH ?_
              repeat simp only [Act.put, uA1, uB1, uC1]
              refine kY 11 hH ?_
              repeat simp only [Act.put, uA1, uB1, uC1]
              refine kY 12 hH ?_
              repeat simp only [Act.put, uA1, uB1, uC1]
              refine kY 13 hH ?_
              repeat simp only [Act.put, uA1, uB1, uC1]
              refine kY 14 hH ?_
              repeat simp only [Act.put, uA1, uB1, uC1]
              refine kY 15 hH ?_
              repeat simp only [Act.put, uA1, uB1, uC1]
              refine kY 16 hH ?_
              repeat simp only [Act.put, uA1, uB1, uC1]
              refine kY 17 hH ?_
              repeat simp only [Act.put, uA1, uB1, uC1]
              refine kY 18 hH ?_
              repeat simp only [Act.put, uA1, uB1, uC1]
              refine kY 19 hH ?_
              repeat simp only [Act.put, uA1, uB1, uC1]
              refine wpAnyH_done (by decide +kernel) ?_ _
              go_wp2_with fail
              go_meet
              exact ⟨by simp [hfull], rfl⟩
            · have hge : ¬ (most : Int) ≤ (L.length : Int) := by omega
              refine region_go (fun w' => w'.cell? ⟨b, 0, none⟩ = some (.pointer (some ⟨c, 0, none⟩)) ∧ w'.cell? ⟨c, 0, none⟩ = some (.int .i64 most) ∧ w'.cell? ⟨c, 1, none⟩ = some (.slice lp L.length lc)) (by kernel_rfl) ?hS0 (fun hH => ?_)
              case hS0 =>
                rw [← HW4.out]; exact I4.out
              rw [← HW4.out] at hH ⊢
              refine kY 0 hH ?_
              repeat simp only [Act.put, uA1, uB1, uC1]
              refine kY 1 hH ?_
              repeat simp only [Act.put, uA1, uB1, uC1]
              refine kY 2 hH ?_
              repeat simp only [Act.put, uA1, uB1, uC1]
              refine kY 3 hH ?_
              repeat simp only [Act.put, uA1, uB1, uC1]
              refine kY 4 hH ?_
              repeat simp only [Act.put, uA1, uB1, uC1]
              refine kY 5 hH ?_
              repeat simp only [Act.put, uA1, uB1, uC1]
              refine kY 6 hH ?_
              repeat simp only [Act.put, uA1, uB1, uC1]
              refine kY 7 hH ?_
              repeat simp only [Act.put, uA1, uB1, uC1]
              refine kY 8 hH ?_
              repeat simp only [Act.put, uA1, uB1, uC1]
              refine kY 9 hH ?_
              repeat simp only [Act.put, uA1, uB1, uC1]
              refine kY 10 hH ?_
              repeat simp only [Act.put, uA1, uB1, uC1]
              refine kY 11 hH ?_
              repeat simp only [Act.put, uA1, uB1, uC1]
              refine kY 12 hH ?_
              repeat simp only [Act.put, uA1, uB1, uC1]
              refine kY 13 hH ?_
              repeat simp only [Act.put, uA1, uB1, uC1]
              refine kY 14 hH ?_
              repeat simp only [Act.put, uA1, uB1, uC1]
              refine kY 15 hH ?_
              repeat simp only [Act.put, uA1, uB1, uC1]
              refine kY 16 hH ?_
              repeat simp only [Act.put, uA1, uB1, uC1]
              refine kN 17 hH ?_
              repeat simp only [Act.put, uA1, uB1, uC1]
              refine kN 18 hH ?_
              repeat simp only [Act.put, uA1, uB1, uC1]
              refine kY 19 hH ?_
              repeat simp only [Act.put, uA1, uB1, uC1]
              refine wpAnyH_done (by decide +kernel) ?_ _
              go_wp2_with fail
              go_meet
              exact ⟨by simp [hfull], rfl⟩
          case rest =>
          obtain ⟨rfl, rfl⟩ := hcut
          obtain ⟨W4, rfl⟩ : ∃ W : World, W = wc := ⟨_, rfl⟩
          by_cases hgo : (decide (L.length = most) && !all) = true
          · rw [hgo]
            obtain ⟨hf1, ha1⟩ : L.length = most ∧ all = false := by simpa using hgo
            obtain ⟨n, hn⟩ : ∃ n, L.length = n + 1 := ⟨L.length - 1, by omega⟩
            have cA := Lib.hid (refAll F c most most L W4 A4.out.best GG.out (by omega))
            have b0 : W4.cell? ⟨b, 0, none⟩ = some (.pointer (some ⟨c, 0, none⟩)) := cellsB A4.out.cell 0
            have HB2 := Lib.hid (show hopeB most L (hitK k d0) = near (hitK k d0) (L[n]'(by omega)) from by rw [hopeB_some hm.1 hn]; simp [hf1])
            have hnl : n < L.length := by omega
            obtain ⟨xl, hxl⟩ : ∃ xl, xl = L[n] := ⟨_, rfl⟩
            rw [← hxl] at HB2
            have XL := Lib.hid hxl
            have HN := Lib.hid (And.intro hn (And.intro hf1 ha1))
            clear hgo hf1 hxl
            go_upto_region 11 with (go_at_call 79; (with_reducible refine cA.out.mono ?_); rintro e w5 ⟨v5, rfl, hh5, hb5⟩; obtain ⟨p5, c5, rfl, -, -, -, -⟩ := id hh5; have H5 := Lib.hid hh5; have B5 := Lib.hid hb5; clear hh5 hb5)
            obtain ⟨rs5, -, -, hel5⟩ := H5.out.rows
            obtain ⟨bb, ob, up, uc, -, rfl, -, -, q0, q1, q2, -, -⟩ := hel5 n hnl
            rw [← XL.out] at q0 q1 q2
            obtain ⟨W5, hW5⟩ : ∃ W5, W5 = w5.drew := ⟨_, rfl⟩
            have hb55 : Below w5.heap.size w5 W5 := by rw [hW5]; exact (Below.refl _ _).drew
            have hb45 := B5.out.trans (hb55.mono B5.out.size)
            have A5 := Lib.hid (A4.out.below hb45)
            have y5 := (hb45.block g (Array.getElem?_eq_some_iff.1 Y4.out.1).1).trans Y4.out.1
            have I5 := Lib.hid (And.intro (And.intro (cellsB y5 0) (And.intro (cellsB y5 1) (cellsB y5 2))) (And.intro (below_cells hb55 q0) (And.intro (below_cells hb55 q1) (below_cells hb55 q2))))
            have Y5 := Lib.hid y5
            have HW5 := Lib.hid hW5
            obtain ⟨nv, hnv⟩ : ∃ v, v = xl.vec.length := ⟨_, rfl⟩
            rw [← hnv] at I5
            have hwn : IntKind.i64.wrap (n : Int) = n := by simp [IntKind.wrap, IntKind.signed, IntKind.bits] <;> omega
            have hn1 : (0 : Int) ≤ n ∧ (n : Int) < n + 1 := by omega
            have hn2 : ((n : Nat) : Int).toNat = n := Int.toNat_natCast _
            have cN := Lib.hid (fun W : World => refNearer k d0 xl.id xl.dist (.slice none 0 0) (.slice up nv uc) W)
            obtain ⟨nb, hnb⟩ : ∃ b, b = nearB k d0 xl.id xl.dist := ⟨_, rfl⟩
            rw [← hnb] at cN
            have NB := Lib.hid hnb
            clear hW5 hb55 hb45 y5 q0 q1 q2 hel5 hnv hnb b0 hn
            go_cut [84] (fun s wc => s = .bool (!nb) ∧ Below W5.heap.size W5 wc)
            case first =>
              refine region_go (fun w' => (w'.cell? ⟨g, 0, none⟩ = some (.int .u64 k) ∧ w'.cell? ⟨g, 1, none⟩ = some (.int .u64 d0) ∧ w'.cell? ⟨g, 2, none⟩ = some (.slice none 0 0)) ∧ w'.cell? ⟨bb, ob + n * 3, none⟩ = some (.int .u64 xl.id) ∧ w'.cell? ⟨bb, ob + n * 3 + 1, none⟩ = some (.int .u64 xl.dist) ∧ w'.cell? ⟨bb, ob + n * 3 + 1 + 1, none⟩ = some (.slice up nv uc)) (by kernel_rfl) ?hS0 (fun hH => ?_)
              case hS0 =>
                rw [← HW5.out]; exact I5.out
              rw [← HW5.out] at hH ⊢
              refine kY 0 hH ?_
              repeat simp only [Act.put, uA1, uB1, uC1]
              refine kY 1 hH ?_
              repeat simp only [Act.put, uA1, uB1, uC1]
              refine kY 2 hH ?_
              repeat simp only [Act.put, uA1, uB1, uC1]
              refine kY 3 hH ?_
              repeat simp only [Act.put, uA1, uB1, uC1]
              refine kY 4 hH ?_
              repeat simp only [Act.put, uA1, uB1, uC1]
              refine kY 5 hH ?_
              repeat simp only [Act.put, uA1, uB1, uC1]
              refine kY 6 hH ?_
              repeat simp only [Act.put, uA1, uB1, uC1]
              refine spk 7 rfl (by decide +kernel) (by rfl) (fun K' hK => ?_)
              go_simp
              with_reducible refine (cN.out _).mono ?_
              rintro e w6 ⟨rfl, hb6⟩
              try dsimp only
              refine hK.out _ _ ?hS (fun hH' => ?_)
              case hS =>
                exact ⟨⟨below_cells hb6 hH.1.1, below_cells hb6 hH.1.2.1, below_cells hb6 hH.1.2.2⟩, below_cells hb6 hH.2.1, below_cells hb6 hH.2.2.1, below_cells hb6 hH.2.2.2⟩
              clear hK K' hH; have hH := hH'; clear hH'; repeat simp only [Act.put, uA1, uB1, uC1]
              refine kY 8 hH ?_
              repeat simp only [Act.put, uA1, uB1, uC1]
              refine wpAnyH_done (by decide +kernel) ?_ _
              go_wp2_with fail
              go_meet
              exact ⟨rfl, hb6⟩
            case rest =>
            obtain ⟨rfl, hbc⟩ := hcut
            have AX := Lib.hid (A5.out.below hbc)
            have YX := Lib.hid (And.intro ((hbc.block g (Array.getElem?_eq_some_iff.1 Y5.out).1).trans Y5.out) Y4.out.2)
            obtain ⟨WQ, rfl⟩ : ∃ W : World, W = wc := ⟨_, rfl⟩
            clear hbc hwn hn1 hn2
            cases nb with
            | false =>
              have HNO := Lib.hid (show ¬ (hopeB most L (hitK k d0) || all) = true from by
                rw [HB2.out, show near (hitK k d0) xl = false from NB.out.symm, HN.out.2.2]
                simp)
              go_wp2_with fail
              (try simp only [Exit.inBlock, Exit.then]); refine bodyPost_ret (results_none rfl _ _ _) rfl ?_
              exact ⟨rfl, F, _, tv, by simp only [seeR, FF.out, HS.out, if_false]; rw [if_neg HNO.out]; exact AX.out⟩
            | true =>
              have HOPE := Lib.hid (show (hopeB most L (hitK k d0) || all) = true from by
                rw [HB2.out, show near (hitK k d0) xl = true from NB.out.symm]
                simp)
              go_wp2_with fail
              obtain ⟨W6, hW6⟩ : ∃ W6, W6 = WQ.drew := ⟨_, rfl⟩
              have hb6 : Below WQ.heap.size WQ W6 := by rw [hW6]; exact (Below.refl _ _).drew
              have A6 := Lib.hid (AX.out.below hb6)
              have y6 := (hb6.block g (Array.getElem?_eq_some_iff.1 YX.out.1).1).trans YX.out.1
              have b0 : W6.cell? ⟨b, 0, none⟩ = some (.pointer (some ⟨c, 0, none⟩)) := cellsB A6.out.cell 0
              have I6 := Lib.hid (And.intro b0 (And.intro (cellsB y6 0) (And.intro (cellsB y6 1) (cellsB y6 2))))
              have c6 := Lib.hid (A6.out.added hm GG.out k d0)
              have Y6 := Lib.hid y6
              have HW6 := Lib.hid hW6
              clear hW6 hb6 y6 b0
              refine region_go (fun w' => w'.cell? ⟨b, 0, none⟩ = some (.pointer (some ⟨c, 0, none⟩)) ∧ w'.cell? ⟨g, 0, none⟩ = some (.int .u64 k) ∧ w'.cell? ⟨g, 1, none⟩ = some (.int .u64 d0) ∧ w'.cell? ⟨g, 2, none⟩ = some (.slice none 0 0)) (by kernel_rfl) ?hS0 (fun hH => ?_)
              case hS0 =>
                rw [← HW6.out]; exact I6.out
              rw [← HW6.out] at hH ⊢
              refine kY 0 hH ?_
              repeat simp only [Act.put, uA1, uB1, uC1]
              refine kY 1 hH ?_
              repeat simp only [Act.put, uA1, uB1, uC1]
              refine kY 2 hH ?_
              repeat simp only [Act.put, uA1, uB1, uC1]
              refine kY 3 hH ?_
              repeat simp only [Act.put, uA1, uB1, uC1]
              refine kY 4 hH ?_
              repeat simp only [Act.put, uA1, uB1, uC1]
              refine spk 5 rfl (by decide +kernel) (by rfl) (fun K' hK => ?_)
              go_simp
              with_reducible refine c6.out.mono ?_
              rintro e w7 ⟨z7, F7, rfl, hA7, hm7⟩
              have y7 := (hm7.block g (Array.getElem?_eq_some_iff.1 Y6.out).1 YX.out.2.2.1).trans Y6.out
              try dsimp only
              refine hK.out _ _ ?hS (fun hH' => ?_)
              case hS =>
                exact ⟨cellsB hA7.cell 0, cellsB y7 0, cellsB y7 1, cellsB y7 2⟩
              clear hK K' hH; have hH := hH'; clear hH'; repeat simp only [Act.put, uA1, uB1, uC1]
              refine wpAnyH_done (by decide +kernel) ?_ _
              have A7 := Lib.hid hA7
              have Y7 := Lib.hid y7
              clear hH hA7 hm7 y7
              go_wp2_with fail
              obtain ⟨W8, hW8⟩ : ∃ W8, W8 = w7.drew := ⟨_, rfl⟩
              have hb8 : Below w7.heap.size w7 W8 := by rw [hW8]; exact (Below.refl _ _).drew
              have A8 := Lib.hid (A7.out.below hb8)
              have y8 := (hb8.block g (Array.getElem?_eq_some_iff.1 Y7.out).1).trans Y7.out
              have b2 : W8.cell? ⟨b, 2, none⟩ = some tv := cellsB A8.out.cell 2
              have e0 : W8.cell? ⟨g, 0, none⟩ = some (.int .u64 k) := cellsB y8 0
              have e1 : W8.cell? ⟨g, 1, none⟩ = some (.int .u64 d0) := cellsB y8 1
              have e2 : W8.cell? ⟨g, 2, none⟩ = some (.slice none 0 0) := cellsB y8 2
              obtain ⟨g9, cp9, w9, hrun9, hA9, hc9, hk9⟩ := A8.out.pushed k d0 (by omega)
              have y9 := (hk9 g (Array.getElem?_eq_some_iff.1 y8).1 YX.out.2.2.2.2).trans y8
              have z9 : w9.frozen? ⟨b, 2, none⟩ = false := by simp [World.frozen?, hc9]
              have b9 := cellsB hc9 2
              have I8 := Lib.hid (And.intro b2 (And.intro e0 (And.intro e1 e2)))
              have ba : Below W8.heap.size W8 (W8.alloc (.cells #[.int .u64 k, .int .u64 d0, .slice none 0 0] 38)) := (Below.refl _ _).alloc (Nat.le_refl _) _
              have I9 := Lib.hid (And.intro (below_cells ba b2) (And.intro (below_cells ba e0) (And.intro (below_cells ba e1) (below_cells ba e2))))
              have I10 := Lib.hid (show w9.cell? ⟨b, 2, none⟩ = some tv ∧ w9.cell? ⟨g, 0, none⟩ = some (.int .u64 k) ∧ w9.cell? ⟨g, 1, none⟩ = some (.int .u64 d0) ∧ w9.cell? ⟨g, 2, none⟩ = some (.slice none 0 0) from ⟨b9, cellsB y9 0, cellsB y9 1, cellsB y9 2⟩)
              have A9 := Lib.hid hA9
              have HW8 := Lib.hid hW8
              clear hW8 hb8 y8 b2 e0 e1 e2 hA9 hc9 hk9 y9 ba
              refine region_goN 10 (fun w' => w'.cell? ⟨b, 2, none⟩ = some tv ∧ w'.cell? ⟨g, 0, none⟩ = some (.int .u64 k) ∧ w'.cell? ⟨g, 1, none⟩ = some (.int .u64 d0) ∧ w'.cell? ⟨g, 2, none⟩ = some (.slice none 0 0)) (by kernel_rfl) ?hS0 (fun hH => ?_)
              case hS0 =>
                rw [← HW8.out]; exact I8.out
              rw [← HW8.out] at hH ⊢
              refine kYN 0 hH ?_
              repeat simp only [Act.put, uA1, uB1, uC1]
              refine kYN 1 hH ?_
              repeat simp only [Act.put, uA1, uB1, uC1]
              refine kYN 2 hH ?_
              repeat simp only [Act.put, uA1, uB1, uC1]
              refine kYN 3 hH ?_
              repeat simp only [Act.put, uA1, uB1, uC1]
              refine kYN 4 hH ?_
              repeat simp only [Act.put, uA1, uB1, uC1]
              refine kYN 5 hH ?_
              repeat simp only [Act.put, uA1, uB1, uC1]
              refine spkN 6 rfl (by decide) (by decide +kernel) (by rfl) (fun K' hK => ?_)
              go_simp
              try dsimp only
              refine hK.out _ _ ?hS (fun hH' => ?_)
              case hS =>
                exact I9.out
              clear hK K' hH; have hH := hH'; clear hH'; repeat simp only [Act.put, uA1, uB1, uC1]
              refine spkN 7 rfl (by decide) (by decide +kernel) (by rfl) (fun K' hK => ?_)
              with_reducible refine wp_append_eq hrun9 _ _ rfl rfl rfl ?_
              try dsimp only
              refine hK.out _ _ ?hS (fun hH' => ?_)
              case hS =>
                exact I10.out
              clear hK K' hH; have hH := hH'; clear hH'; repeat simp only [Act.put, uA1, uB1, uC1]
              refine spkN 8 rfl (by decide) (by decide +kernel) (by rfl) (fun K' hK => ?_)
              go_simp
              try dsimp only
              refine hK.out _ _ ?hS (fun hH' => ?_)
              case hS =>
                exact hH
              clear hK K' hH; have hH := hH'; clear hH'; repeat simp only [Act.put, uA1, uB1, uC1]
              refine kYN 9 hH ?_
              repeat simp only [Act.put, uA1, uB1, uC1]
              refine spkL rfl (by decide +kernel) (by rfl) (fun K' hK => ?_)
              go_simp
              try dsimp only
              refine hK.out _ _ ?_
              clear hK K' hH; repeat simp only [Act.put, uA1, uB1, uC1]
              refine anyBut_done (by decide +kernel) ?_ _
              go_wp2_with fail
              go_end0
              exact ⟨rfl, F7, _, _, by simp only [seeR, FF.out, HS.out, if_false]; rw [if_pos HOPE.out]; exact A9.out⟩
          · have hgo' : (decide (L.length = most) && !all) = false := by simpa using hgo
            rw [hgo']
            have HOPE := Lib.hid (show (hopeB most L (hitK k d0) || all) = true from by
              rw [HB.out]
              revert hgo'
              cases all
              · intro h; simp at h; simp [h]
              · intro _; simp)
            have AX := Lib.hid A4.out
            have YX := Lib.hid Y4.out
            clear hgo hgo'
            go_wp2_with fail
            obtain ⟨W6, hW6⟩ : ∃ W6, W6 = W4.drew := ⟨_, rfl⟩
            have hb6 : Below W4.heap.size W4 W6 := by rw [hW6]; exact (Below.refl _ _).drew
            have A6 := Lib.hid (AX.out.below hb6)
            have y6 := (hb6.block g (Array.getElem?_eq_some_iff.1 YX.out.1).1).trans YX.out.1
            have b0 : W6.cell? ⟨b, 0, none⟩ = some (.pointer (some ⟨c, 0, none⟩)) := cellsB A6.out.cell 0
            have I6 := Lib.hid (And.intro b0 (And.intro (cellsB y6 0) (And.intro (cellsB y6 1) (cellsB y6 2))))
            have c6 := Lib.hid (A6.out.added hm GG.out k d0)
            have Y6 := Lib.hid y6
            have HW6 := Lib.hid hW6
            clear hW6 hb6 y6 b0
            refine region_go (fun w' => w'.cell? ⟨b, 0, none⟩ = some (.pointer (some ⟨c, 0, none⟩)) ∧ w'.cell? ⟨g, 0, none⟩ = some (.int .u64 k) ∧ w'.cell? ⟨g, 1, none⟩ = some (.int .u64 d0) ∧ w'.cell? ⟨g, 2, none⟩ = some (.slice none 0 0)) (by kernel_rfl) ?hS0 (fun hH => ?_)
            case hS0 =>
              rw [← HW6.out]; exact I6.out
            rw [← HW6.out] at hH ⊢
            refine kY 0 hH ?_
            repeat simp only [Act.put, uA1, uB1, uC1]
            refine kY 1 hH ?_
            repeat simp only [Act.put, uA1, uB1, uC1]
            refine kY 2 hH ?_
            repeat simp only [Act.put, uA1, uB1, uC1]
            refine kY 3 hH ?_
            repeat simp only [Act.put, uA1, uB1, uC1]
            refine kY 4 hH ?_
            repeat simp only [Act.put, uA1, uB1, uC1]
            refine spk 5 rfl (by decide +kernel) (by rfl) (fun K' hK => ?_)
            go_simp
            with_reducible refine c6.out.mono ?_
            rintro e w7 ⟨z7, F7, rfl, hA7, hm7⟩
            have y7 := (hm7.block g (Array.getElem?_eq_some_iff.1 Y6.out).1 YX.out.2.2.1).trans Y6.out
            try dsimp only
            refine hK.out _ _ ?hS (fun hH' => ?_)
            case hS =>
              exact ⟨cellsB hA7.cell 0, cellsB y7 0, cellsB y7 1, cellsB y7 2⟩
            clear hK K' hH; have hH := hH'; clear hH'; repeat simp only [Act.put, uA1, uB1, uC1]
            refine wpAnyH_done (by decide +kernel) ?_ _
            have A7 := Lib.hid hA7
            have Y7 := Lib.hid y7
            clear hH hA7 hm7 y7
            go_wp2_with fail
            obtain ⟨W8, hW8⟩ : ∃ W8, W8 = w7.drew := ⟨_, rfl⟩
            have hb8 : Below w7.heap.size w7 W8 := by rw [hW8]; exact (Below.refl _ _).drew
            have A8 := Lib.hid (A7.out.below hb8)
            have y8 := (hb8.block g (Array.getElem?_eq_some_iff.1 Y7.out).1).trans Y7.out
            have b2 : W8.cell? ⟨b, 2, none⟩ = some tv := cellsB A8.out.cell 2
            have e0 : W8.cell? ⟨g, 0, none⟩ = some (.int .u64 k) := cellsB y8 0
            have e1 : W8.cell? ⟨g, 1, none⟩ = some (.int .u64 d0) := cellsB y8 1
            have e2 : W8.cell? ⟨g, 2, none⟩ = some (.slice none 0 0) := cellsB y8 2
            obtain ⟨g9, cp9, w9, hrun9, hA9, hc9, hk9⟩ := A8.out.pushed k d0 (by omega)
            have y9 := (hk9 g (Array.getElem?_eq_some_iff.1 y8).1 YX.out.2.2.2.2).trans y8
            have z9 : w9.frozen? ⟨b, 2, none⟩ = false := by simp [World.frozen?, hc9]
            have b9 := cellsB hc9 2
            have I8 := Lib.hid (And.intro b2 (And.intro e0 (And.intro e1 e2)))
            have ba : Below W8.heap.size W8 (W8.alloc (.cells #[.int .u64 k, .int .u64 d0, .slice none 0 0] 38)) := (Below.refl _ _).alloc (Nat.le_refl _) _
            have I9 := Lib.hid (And.intro (below_cells ba b2) (And.intro (below_cells ba e0) (And.intro (below_cells ba e1) (below_cells ba e2))))
            have I10 := Lib.hid (show w9.cell? ⟨b, 2, none⟩ = some tv ∧ w9.cell? ⟨g, 0, none⟩ = some (.int .u64 k) ∧ w9.cell? ⟨g, 1, none⟩ = some (.int .u64 d0) ∧ w9.cell? ⟨g, 2, none⟩ = some (.slice none 0 0) from ⟨b9, cellsB y9 0, cellsB y9 1, cellsB y9 2⟩)
            have A9 := Lib.hid hA9
            have HW8 := Lib.hid hW8
            clear hW8 hb8 y8 b2 e0 e1 e2 hA9 hc9 hk9 y9 ba
            refine region_goN 10 (fun w' => w'.cell? ⟨b, 2, none⟩ = some tv ∧ w'.cell? ⟨g, 0, none⟩ = some (.int .u64 k) ∧ w'.cell? ⟨g, 1, none⟩ = some (.int .u64 d0) ∧ w'.cell? ⟨g, 2, none⟩ = some (.slice none 0 0)) (by kernel_rfl) ?hS0 (fun hH => ?_)
            case hS0 =>
              rw [← HW8.out]; exact I8.out
            rw [← HW8.out] at hH ⊢
            refine kYN 0 hH ?_
            repeat simp only [Act.put, uA1, uB1, uC1]
            refine kYN 1 hH ?_
            repeat simp only [Act.put, uA1, uB1, uC1]
            refine kYN 2 hH ?_
            repeat simp only [Act.put, uA1, uB1, uC1]
            refine kYN 3 hH ?_
            repeat simp only [Act.put, uA1, uB1, uC1]
            refine kYN 4 hH ?_
            repeat simp only [Act.put, uA1, uB1, uC1]
            refine kYN 5 hH ?_
            repeat simp only [Act.put, uA1, uB1, uC1]
            refine spkN 6 rfl (by decide) (by decide +kernel) (by rfl) (fun K' hK => ?_)
            go_simp
            try dsimp only
            refine hK.out _ _ ?hS (fun hH' => ?_)
            case hS =>
              exact I9.out
            clear hK K' hH; have hH := hH'; clear hH'; repeat simp only [Act.put, uA1, uB1, uC1]
            refine spkN 7 rfl (by decide) (by decide +kernel) (by rfl) (fun K' hK => ?_)
            with_reducible refine wp_append_eq hrun9 _ _ rfl rfl rfl ?_
            try dsimp only
            refine hK.out _ _ ?hS (fun hH' => ?_)
            case hS =>
              exact I10.out
            clear hK K' hH; have hH := hH'; clear hH'; repeat simp only [Act.put, uA1, uB1, uC1]
            refine spkN 8 rfl (by decide) (by decide +kernel) (by rfl) (fun K' hK => ?_)
            go_simp
            try dsimp only
            refine hK.out _ _ ?hS (fun hH' => ?_)
            case hS =>
              exact hH
            clear hK K' hH; have hH := hH'; clear hH'; repeat simp only [Act.put, uA1, uB1, uC1]
            refine kYN 9 hH ?_
            repeat simp only [Act.put, uA1, uB1, uC1]
            refine spkL rfl (by decide +kernel) (by rfl) (fun K' hK => ?_)
            go_simp
            try dsimp only
            refine hK.out _ _ ?_
            clear hK K' hH; repeat simp only [Act.put, uA1, uB1, uC1]
            refine anyBut_done (by decide +kernel) ?_ _
            go_wp2_with fail
            go_end0
            exact ⟨rfl, F7, _, _, by simp only [seeR, FF.out, HS.out, if_false]; rw [if_pos HOPE.out]; exact A9.out⟩

end Go.Proofs.YtpjbkaibgajpcaaGreat

namespace Go.Proofs.YtpjbkaibgajpcaaGreat
open Go.RowKit
set_option maxRecDepth 20000

abbrev Eg := List (Int × Int × Bool)

def flatE : Eg → List Value
  | [] => []
  | e :: E => .int .u64 e.1 :: .int .u64 e.2.1 :: .bool e.2.2 :: flatE E

theorem flatE_append (E F : Eg) : flatE (E ++ F) = flatE E ++ flatE F := by
  induction E with
  | nil => rfl
  | cons e E ih => simp [flatE, ih]

theorem flatE_get (E : Eg) (i : Nat) (hi : i < E.length) : (flatE E)[i * 3]? = some (.int .u64 E[i].1) ∧ (flatE E)[i * 3 + 1]? = some (.int .u64 E[i].2.1) ∧ (flatE E)[i * 3 + 2]? = some (.bool E[i].2.2) := by
  induction E generalizing i with
  | nil => simp at hi
  | cons e E ih =>
    cases i with
    | zero => simp [flatE]
    | succ i =>
      have := ih i (by simpa using hi)
      have e1 : (i + 1) * 3 = i * 3 + 1 + 1 + 1 := by omega
      have e2 : (i + 1) * 3 + 1 = (i * 3 + 1) + 1 + 1 + 1 := by omega
      have e3 : (i + 1) * 3 + 2 = (i * 3 + 2) + 1 + 1 + 1 := by omega
      rw [e3, e2, e1]
      simpa [flatE, List.getElem?_cons_succ] using this

theorem flatE_one (E : Eg) : ∀ u ∈ flatE E, u.oneCell' = true := by
  induction E with
  | nil => intro u hu; cases hu
  | cons e E ih =>
    intro u hu
    simp only [flatE, List.mem_cons] at hu
    rcases hu with rfl | rfl | rfl | hu
    · rfl
    · rfl
    · rfl
    · exact ih u hu

structure DGr (w : World) (B c : Nat) (N : List Int) (E : Eg) (vn ve : Value) : Prop where
  cell : w.heap[c]? = some (.cells #[vn, ve] 96 (0, 0))
  nodes : w.ownsRow B 36 1 vn N.length (N.map (Value.int .u64))
  edges : w.ownsRow B 144 3 ve E.length (flatE E)
  low : B ≤ c

theorem DGr.lt {w : World} {B c : Nat} {N : List Int} {E : Eg} {vn ve : Value} (h : DGr w B c N E vn ve) : c < w.heap.size := lt_block h.cell

theorem DGr.get0 {w : World} {B c : Nat} {N : List Int} {E : Eg} {vn ve : Value} (h : DGr w B c N E vn ve) : w.cell? ⟨c, 0, none⟩ = some vn := by simp [World.cell?, h.cell]
theorem DGr.get1 {w : World} {B c : Nat} {N : List Int} {E : Eg} {vn ve : Value} (h : DGr w B c N E vn ve) : w.cell? ⟨c, 1, none⟩ = some ve := by simp [World.cell?, h.cell]

def OfType (w : World) (T : TypeId) (j : Nat) : Prop := ∃ cs fr, w.heap[j]? = some (.cells cs T fr)

theorem own_type {w : World} {B e s n : Nat} {v : Value} {xs : List Value} (h : w.ownsRow B e s v n xs) {b : Nat} (hb : v.ownBlock = some b) : OfType w e b := by
  rcases h.2 with ⟨hv, -⟩ | ⟨g, cap, cur, hv, -, hg, -⟩
  · rw [hv] at hb; cases hb
  · rw [hv] at hb
    obtain rfl : g = b := by simpa [Value.ownBlock] using hb
    exact ⟨_, _, hg⟩

theorem OfType.ne {w : World} {T U : TypeId} {j : Nat} (h : OfType w T j) (g : OfType w U j) : T = U := by
  obtain ⟨cs, fr, h⟩ := h
  obtain ⟨ds, gr, g⟩ := g
  rw [h] at g
  cases g; rfl

theorem DGr.kept {w w' : World} {B c : Nat} {N : List Int} {E : Eg} {vn ve : Value} (h : DGr w B c N E vn ve) {F : Nat → Prop} (hm : Mod F w w') (h1 : ∀ j, B ≤ j → OfType w 96 j → ¬ F j) (h2 : ∀ j, B ≤ j → OfType w 36 j → ¬ F j) (h3 : ∀ j, B ≤ j → OfType w 144 j → ¬ F j) : DGr w' B c N E vn ve := by
  have own : ∀ {e s n : Nat} {v : Value} {xs : List Value}, w.ownsRow B e s v n xs → (∀ j, B ≤ j → OfType w e j → ¬ F j) → w'.ownsRow B e s v n xs := by
    intro e s n v xs ho hF
    obtain ⟨q1, q2 | ⟨g, cap, cur, hv, hb, hg, r⟩⟩ := ho
    · exact ⟨q1, .inl q2⟩
    · exact ⟨q1, .inr ⟨g, cap, cur, hv, hb, (hm.block g (lt_block hg) (hF g hb ⟨_, _, hg⟩)).trans hg, r⟩⟩
  exact ⟨(hm.block c h.lt (h1 c h.low ⟨_, _, h.cell⟩)).trans h.cell, own h.nodes h2, own h.edges h3, h.low⟩

theorem DGr.below {w w' : World} {B c : Nat} {N : List Int} {E : Eg} {vn ve : Value} (h : DGr w B c N E vn ve) (hb : Below w.heap.size w w') : DGr w' B c N E vn ve :=
  h.kept (F := fun _ => False) (Mod.of_below hb) (fun _ _ _ => id) (fun _ _ _ => id) (fun _ _ _ => id)

set_option maxHeartbeats 2000000 in
theorem dHas (w : World) (B c : Nat) (N : List Int) (E : Eg) (vn ve : Value) (k : Int) (h : DGr w B c N E vn ve) :
    Calls Tryz.prog 63 #[.pointer (some ⟨c, 0, none⟩), .int .u64 k] w fun e w' => e = .returned (.bool (decide (k ∈ N))) ∧ w = w' := by
  have hN : Nums w .u64 vn N := Nums.of_own h.nodes
  have c0 := h.get0
  obtain ⟨p, cap, rfl, hcap, hbig, -, hc⟩ := hN.slice
  have hl : N.length ≤ 9223372036854775807 := by omega
  have HC := Lib.hid hc
  clear hcap hbig h hc hN
  go_enter Tryz.func63, Tryz.ntmps63
  go_wp2_with fail
  go_loopg [14] N.length (fun q i wr => ∃ j : Nat, q = N.length - j ∧ j ≤ N.length ∧ i = .int .i64 j ∧ (∀ x ∈ N.take j, x ≠ k) ∧ wr = w)
  case atStart => exact ⟨0, rfl, by omega, rfl, by simp, rfl⟩
  case round =>
    obtain ⟨j, rfl, hj, rfl, hall, rfl⟩ := hrel
    have HA := Lib.hid hall
    clear hall
    by_cases hlt : j < N.length
    · obtain ⟨b, off, rfl, hcell⟩ := HC.out j hlt
      by_cases hx : N[j] = k
      · go_wp2_with fail
        go_ret
        exact ⟨ret_bool (by rw [decide_eq_true]; rw [← hx]; exact List.getElem_mem hlt), rfl⟩
      · have HX := Lib.hid hx
        go_wp2_with fail
        go_roundg (N.length - (j + 1))
        case measure => omega
        case rel => exact ⟨j + 1, rfl, by omega, by go_num, fun x hh => by
          rw [List.take_add_one, List.getElem?_eq_getElem hlt] at hh
          rcases List.mem_append.1 hh with h1 | h1
          · exact HA.out x h1
          · simp at h1; rw [h1]; exact HX.out, rfl⟩
    · go_wp2_with fail
      go_ret
      exact ⟨ret_bool (by
        have := HA.out
        rw [List.take_of_length_le (by omega)] at this
        rw [decide_eq_false]
        exact fun hm => this k hm rfl), rfl⟩

end Go.Proofs.YtpjbkaibgajpcaaGreat
