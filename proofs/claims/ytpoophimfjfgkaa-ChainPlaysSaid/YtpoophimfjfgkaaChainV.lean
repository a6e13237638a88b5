/-
  chain: a chain or none at all, one contract for both.
-/
import Derived.Test.YtpoophimfjfgkaaChainU
namespace Go.Proofs.Ytpoophimfjfgkaa
open Go.RowKit

theorem last_nil (w : World) : Calls Try.prog 22 #[.pointer none] w fun e w' => e = .returned (.int .u64 0) ∧ w = w' := by
  go_enter Try.func22, Try.ntmps22
  go_wp2_with fail
  refine (len_nil w).mono ?_
  rintro e w' ⟨rfl, rfl⟩
  go_wp2_with fail
  go_ret
  exact ⟨rfl, rfl⟩

/-- a law's chain, or the nil one -/
structure ChainV (none : Bool) (w0 : World) (F : Nat → Prop) (pc : Value) (l : List (Int × List Int)) (w : World) : Prop where
  it : (none = true ∧ pc = .pointer Option.none ∧ l = []) ∨ (none = false ∧ ∃ c, pc = .pointer (some ⟨c, 0, Option.none⟩) ∧ ChainAt w w0.heap.size F c l)
  lo : ∀ k, F k → w0.heap.size ≤ k
  hi : ∀ k, F k → k < w.heap.size
  below : Below w0.heap.size w0 w
  good : Good l

theorem ChainV.step {none : Bool} {w0 w w' : World} {F : Nat → Prop} {pc : Value} {l : List (Int × List Int)} (h : ChainV none w0 F pc l w) (hb : Below w.heap.size w w') : ChainV none w0 F pc l w' :=
  ⟨h.it.imp id fun ⟨a, c, b, hc⟩ => ⟨a, c, b, hc.below hb⟩, h.lo, fun k hk => by have := h.hi k hk; have := hb.size; omega, h.below.trans (hb.mono h.below.size), h.good⟩

theorem ChainV.other {none : Bool} {w0 w w' : World} {F G : Nat → Prop} {pc : Value} {l : List (Int × List Int)} (h : ChainV none w0 F pc l w) (hm : Mod G w w') (hd : ∀ k, F k → ¬ G k) (hG : ∀ k, G k → w0.heap.size ≤ k) : ChainV none w0 F pc l w' :=
  ⟨h.it.imp id fun ⟨a, c, b, hc⟩ => ⟨a, c, b, hc.agree (Agree.of_mod hm h.hi hd)⟩, h.lo, fun k hk => by have := h.hi k hk; have := hm.size; omega, h.below.trans (hm.below h.below.size hG), h.good⟩

theorem plus_lo {w0 w w' : World} {F : Nat → Prop} (h : ∀ k, F k → w0.heap.size ≤ k) (hs : w0.heap.size ≤ w.heap.size) : ∀ k, Plus F w w' k → w0.heap.size ≤ k := fun k hk => by
  rcases hk with hk | ⟨hk, _⟩
  · exact h k hk
  · omega

theorem plus_hi {w w' : World} {F : Nat → Prop} (h : ∀ k, F k → k < w.heap.size) (hs : w.heap.size ≤ w'.heap.size) : ∀ k, Plus F w w' k → k < w'.heap.size := fun k hk => by
  rcases hk with hk | ⟨_, hk⟩
  · have := h k hk; omega
  · exact hk

def SweptV (none : Bool) (w0 : World) (F : Nat → Prop) (pc : Value) (s : Int) (l : List (Int × List Int)) (w : World) (e : Ending) (w' : World) : Prop :=
  ∃ v, e = .returned v ∧ Nums w' .u64 v ((l.take (goneN s l)).map (·.1)) ∧ ChainV none w0 (Plus F w w') pc (l.drop (goneN s l)) w' ∧ Mod F w w'

theorem sweepV {none : Bool} {w0 w : World} {F : Nat → Prop} {pc : Value} {l : List (Int × List Int)} (h : ChainV none w0 F pc l w) (hn : l.length ≤ 1000000) (s : Int) :
    Calls Try.prog 12 #[pc, .int .u64 s] w (SweptV none w0 F pc s l w) := by
  obtain ⟨⟨rfl, rfl, rfl⟩ | ⟨rfl, c, rfl, hc⟩, lo, hi, hb, hg⟩ := h
  · refine (sweep_nil s w).mono fun e w' ⟨he, hw⟩ => ?_
    subst hw
    exact ⟨_, he, Nums.mk (xs := []) (by simp) (by simp) (by simp) (by simp), ⟨.inl ⟨rfl, rfl, by simp⟩, plus_lo lo hb.size, plus_hi hi (Nat.le_refl _), hb, by simpa using Good.nil⟩, Mod.refl _ _⟩
  · refine (sweep w0.heap.size c F l hg.rising hn s w hc hb.size).mono fun e w' ⟨v, he, hv, hc', hm⟩ => ?_
    exact ⟨v, he, Nums.of_own hv, ⟨.inr ⟨rfl, c, rfl, hc'⟩, plus_lo lo hb.size, plus_hi hi hm.size, hb.trans (hm.below hb.size lo), hg.drop _⟩, hm⟩

/-- what Put says, and what is there then -/
def putN (none : Bool) (l : List (Int × List Int)) (s : Int) (xs : List Int) : Int × List (Int × List Int) := if none = true then (6, l) else putZ l s xs

def PutV (none : Bool) (w0 : World) (F : Nat → Prop) (pc : Value) (r : Int × List (Int × List Int)) (w : World) (e : Ending) (w' : World) : Prop :=
  e = .returned (.int .i64 r.1) ∧ ChainV none w0 (Plus F w w') pc r.2 w' ∧ Mod F w w'

theorem putV {none : Bool} {w0 w : World} {F : Nat → Prop} {pc : Value} {l : List (Int × List Int)} (h : ChainV none w0 F pc l w) (hn : l.length ≤ 1000000) (s : Int) (hs : 0 ≤ s) (xs : List Int) (u : Value) (hu : Nums w .i32 u xs) (hx : xs.length ≤ 1000000) :
    Calls Try.prog 14 #[pc, .agg #[.int .u64 s, u]] w (PutV none w0 F pc (putN none l s xs) w) := by
  obtain ⟨⟨rfl, rfl, rfl⟩ | ⟨rfl, c, rfl, hc⟩, lo, hi, hb, hg⟩ := h
  · refine (put_nil s u w).mono fun e w' ⟨he, hw⟩ => ?_
    exact ⟨he, ⟨.inl ⟨rfl, rfl, rfl⟩, plus_lo lo hb.size, plus_hi hi hw.size, hb.trans (hw.mono hb.size), hg⟩, Mod.of_below hw⟩
  · refine (put w0.heap.size c F l s xs u w hc hn hu hx hs hb.size).mono fun e w' ⟨he, hc', hm⟩ => ?_
    exact ⟨he, ⟨.inr ⟨rfl, c, rfl, hc'⟩, plus_lo lo hb.size, plus_hi hi hm.size, hb.trans (hm.below hb.size lo), putZ_good hg s xs⟩, hm⟩

theorem atV {none : Bool} {w0 w : World} {F : Nat → Prop} {pc : Value} {l : List (Int × List Int)} (h : ChainV none w0 F pc l w) (hn : l.length ≤ 1000000) (s : Int) :
    Calls Try.prog 17 #[pc, .int .u64 s] w (Told w (atZ s l)) := by
  obtain ⟨⟨rfl, rfl, rfl⟩ | ⟨rfl, c, rfl, v, rs, hc, -⟩, lo, hi, hb, hg⟩ := h
  · exact at_nil s w
  · exact atOf l hg.rising hn hg.lengths s c v w hc.is

theorem listV {none : Bool} {w0 w : World} {F : Nat → Prop} {pc : Value} {l : List (Int × List Int)} (h : ChainV none w0 F pc l w) (hn : l.length ≤ 1000000) :
    Calls Try.prog 21 #[pc] w (NewRecs w 41 l) := by
  obtain ⟨⟨rfl, rfl, rfl⟩ | ⟨rfl, c, rfl, v, rs, hc, -⟩, lo, hi, hb, hg⟩ := h
  · exact (list_nil w).mono fun e w' ⟨he, hw⟩ => by subst hw; exact ⟨_, [], he, World.ownsRow_nil _ _ _ _, Held2.nil _ _ _, Below.refl _ _⟩
  · exact list l hn hg.lengths c v w hc.is

theorem lastV {none : Bool} {w0 w : World} {F : Nat → Prop} {pc : Value} {l : List (Int × List Int)} (h : ChainV none w0 F pc l w) (hn : l.length ≤ 1000000) :
    Calls Try.prog 22 #[pc] w fun e w' => e = .returned (.int .u64 (lastZ l)) ∧ Drawn w w' := by
  obtain ⟨⟨rfl, rfl, rfl⟩ | ⟨rfl, c, rfl, v, rs, hc, -⟩, lo, hi, hb, hg⟩ := h
  · exact (last_nil w).mono fun e w' ⟨he, hw⟩ => by subst hw; exact ⟨he, Drawn.refl _⟩
  · exact last l hn c v w hc.is

theorem lenV {none : Bool} {w0 w : World} {F : Nat → Prop} {pc : Value} {l : List (Int × List Int)} (h : ChainV none w0 F pc l w) (hn : l.length ≤ 1000000) :
    Calls Try.prog 23 #[pc] w fun e w' => e = .returned (.int .i64 l.length) ∧ w = w' := by
  obtain ⟨⟨rfl, rfl, rfl⟩ | ⟨rfl, c, rfl, v, rs, hc, -⟩, lo, hi, hb, hg⟩ := h
  · exact len_nil w
  · exact len l hn c v w hc.is

theorem sameNumsOne (xs : List Int) (v u : Value) (w : World) (h : Nums w .u64 v xs) (g : Nums w .u64 u xs) :
    Calls Try.prog 11 #[v, u] w fun e w' => e = .returned (.bool true) ∧ Drawn w w' :=
  (sameNums xs xs v u w h g).mono fun _ _ ⟨a, b⟩ => ⟨by rw [a]; simp, b⟩

/-- what ChainPlays carries with it: the chain, and the document's list -/
def PlayIn (none : Bool) (w0 : World) (pc u7 : Value) (l : List (Int × List Int)) (wr : World) : Prop :=
  ∃ F R, ChainV none w0 F pc l wr ∧ RecsF wr R u7 l ∧ (∀ k, R k → w0.heap.size ≤ k) ∧ (∀ k, R k → k < wr.heap.size) ∧ ∀ k, F k → ¬ R k

theorem PlayIn.step {none : Bool} {w0 w w' : World} {pc u7 : Value} {l : List (Int × List Int)} (h : PlayIn none w0 pc u7 l w) (hb : Below w.heap.size w w') : PlayIn none w0 pc u7 l w' := by
  obtain ⟨F, R, hc, hr, h1, h2, h3⟩ := h
  exact ⟨F, R, hc.step hb, hr.agree (Agree.of_below hb h2), h1, fun k hk => by have := h2 k hk; have := hb.size; omega, h3⟩

/-- behind a sweep of both -/
theorem PlayIn.swept {none : Bool} {w0 w1 w2 w3 : World} {pc v1 v2 : Value} {l l' : List (Int × List Int)} {F R : Nat → Prop} {xs : List Int} (hc : ChainV none w0 F pc l w1) (hlo : ∀ k, R k → w0.heap.size ≤ k) (hhi : ∀ k, R k → k < w1.heap.size) (hd : ∀ k, F k → ¬ R k)
    (hb : Below w1.heap.size w1 w2) (hr : RecsF w2 (Plus R w1 w2) v1 l') (hv : Nums w2 .u64 v2 xs) (hv2 : ∀ b, v2.ownBlock = some b → w1.heap.size ≤ b ∧ b < w2.heap.size) (hc3 : ChainV none w0 (Plus F w2 w3) pc l' w3) (hm : Mod F w2 w3) :
    PlayIn none w0 pc v1 l' w3 ∧ Nums w3 .u64 v2 xs := by
  have s1 := hb.size
  have s2 := hm.size
  have hlow := hc.below.size
  have hR2 : ∀ k, Plus R w1 w2 k → ¬ F k := fun k hk hf => by
    rcases hk with hk | ⟨hk, _⟩
    · exact hd k hf hk
    · have := hc.hi k hf; omega
  refine ⟨⟨_, _, hc3, hr.agree (Agree.of_mod hm (plus_hi hhi s1) hR2), plus_lo hlo hlow, fun k hk => by have := plus_hi hhi s1 k hk; omega, fun k hk hk' => ?_⟩, ?_⟩
  · rcases hk with hk | ⟨hk, _⟩
    · exact hR2 k hk' hk
    · have := plus_hi hhi s1 k hk'; omega
  · exact hv.agree (F := fun k => v2.ownBlock = some k) (fun _ b hb => hb) (Agree.of_mod hm (fun k hk => (hv2 k hk).2) fun k hk hf => by have := hc.hi k hf; have := (hv2 k hk).1; omega)

/-- behind the chain's Put -/
theorem put_mid {none : Bool} {w0 w1 w2 w3 : World} {pc u7 ua : Value} {l l' : List (Int × List Int)} {F R : Nat → Prop} {xs : List Int} (hc : ChainV none w0 F pc l w1) (hr : RecsF w1 R u7 l) (hhi : ∀ k, R k → k < w1.heap.size) (hd : ∀ k, F k → ¬ R k)
    (hb : Below w1.heap.size w1 w2) (hu : w2.ownsRow w1.heap.size 21 1 ua xs.length (xs.map (Value.int .i32))) (hc3 : ChainV none w0 (Plus F w2 w3) pc l' w3) (hm : Mod F w2 w3) :
    RecsF w3 R u7 l ∧ w3.ownsRow w1.heap.size 21 1 ua xs.length (xs.map (Value.int .i32)) ∧ (∀ k, Plus F w2 w3 k → ¬ R k) ∧ (∀ b, ua.ownBlock = some b → ¬ Plus F w2 w3 b ∧ ¬ R b) := by
  have s1 := hb.size
  refine ⟨(hr.agree (Agree.of_below hb hhi)).agree (Agree.of_mod hm (fun k hk => by have := hhi k hk; omega) fun k hk hf => hd k hf hk), ?_, fun k hk hk' => ?_, fun b hb' => ⟨fun hk => ?_, fun hk => ?_⟩⟩
  · exact ownsRow_agree (F := fun k => ua.ownBlock = some k) hu (fun b h => h) (Agree.of_mod hm (fun k hk => (hu.lt k hk).2) fun k hk hf => by have := (hu.lt k hk).1; have := hc.hi k hf; omega)
  · rcases hk with hk | ⟨hk, _⟩
    · exact hd k hk hk'
    · have := hhi k hk'; omega
  · rcases hk with hk | ⟨hk, _⟩
    · have := (hu.lt b hb').1; have := hc.hi b hk; omega
    · have := (hu.lt b hb').2; omega
  · have := (hu.lt b hb').1; have := hhi b hk; omega

/-- the law's own vector may be written now -/
def Apart (none : Bool) (w0 : World) (pc u7 ua : Value) (l : List (Int × List Int)) (w : World) : Prop :=
  ∃ F R, ChainV none w0 F pc l w ∧ RecsF w R u7 l ∧ (∀ k, R k → w0.heap.size ≤ k) ∧ (∀ k, R k → k < w.heap.size) ∧ (∀ k, F k → ¬ R k) ∧ ∀ b, ua.ownBlock = some b → w0.heap.size ≤ b ∧ ¬ F b ∧ ¬ R b

theorem Apart.step {none : Bool} {w0 w w' : World} {pc u7 ua : Value} {l : List (Int × List Int)} (h : Apart none w0 pc u7 ua l w) (hb : Below w.heap.size w w') : Apart none w0 pc u7 ua l w' := by
  obtain ⟨F, R, hc, hr, h1, h2, h3, h4⟩ := h
  exact ⟨F, R, hc.step hb, hr.agree (Agree.of_below hb h2), h1, fun k hk => by have := h2 k hk; have := hb.size; omega, h3, h4⟩

theorem Apart.write {none : Bool} {w0 w w' : World} {pc u7 ua : Value} {l : List (Int × List Int)} (h : Apart none w0 pc u7 ua l w) (hm : Mod (fun k => ua.ownBlock = some k) w w') : Apart none w0 pc u7 ua l w' := by
  obtain ⟨F, R, hc, hr, h1, h2, h3, h4⟩ := h
  exact ⟨F, R, hc.other hm (fun k hk hg => (h4 k hg).2.1 hk) (fun k hg => (h4 k hg).1), hr.agree (Agree.of_mod hm h2 fun k hk hg => (h4 k hg).2.2 hk), h1, fun k hk => by have := h2 k hk; have := hm.size; omega, h3, h4⟩

theorem Apart.play {none : Bool} {w0 w : World} {pc u7 ua : Value} {l : List (Int × List Int)} (h : Apart none w0 pc u7 ua l w) : PlayIn none w0 pc u7 l w :=
  let ⟨F, R, hc, hr, h1, h2, h3, _⟩ := h; ⟨F, R, hc, hr, h1, h2, h3⟩

theorem apart_put {none : Bool} {w0 w3 w5 w6 : World} {pc v7 ua : Value} {l' : List (Int × List Int)} {F R : Nat → Prop} {B n : Nat} {xs : List Value} (hc : ChainV none w0 F pc l' w3) (hlo : ∀ k, R k → w0.heap.size ≤ k) (hhi : ∀ k, R k → k < w3.heap.size) (hd : ∀ k, F k → ¬ R k)
    (hu : w3.ownsRow B 21 1 ua n xs) (hB : w0.heap.size ≤ B) (ha : ∀ b, ua.ownBlock = some b → ¬ F b ∧ ¬ R b) (hb5 : Below w3.heap.size w3 w5) (hb6 : Below w5.heap.size w5 w6) (hr : RecsF w6 (Plus R w5 w6) v7 l') : Apart none w0 pc v7 ua l' w6 := by
  have s5 := hb5.size
  have s6 := hb6.size
  have s0 := hc.below.size
  refine ⟨F, _, (hc.step hb5).step hb6, hr, plus_lo hlo (by omega), fun k hk => plus_hi (fun k hk => by have := hhi k hk; omega) s6 k hk, fun k hk hk' => ?_, fun b hb => ⟨?_, (ha b hb).1, fun hk' => ?_⟩⟩
  · rcases hk' with hk' | ⟨hk', _⟩
    · exact hd k hk hk'
    · have := hc.hi k hk; omega
  · have := (hu.lt b hb).1; omega
  · rcases hk' with hk' | ⟨hk', _⟩
    · exact (ha b hb).2 hk'
    · have := (hu.lt b hb).2; omega

end Go.Proofs.Ytpoophimfjfgkaa
