/-
  walk's laws: what a walk keeps, in plain lists.
  best's law: BestMerges: what the script has laid so far.
  best's law: BestMerges: one list more.
  best's law: BestMerges: the hits of one list get their vectors, and go to the document's list.
  best's law: BestMerges, walked.
  numbers are cut: the first few behind a new block.
  walk's laws: WalkRuns.
  An argument that is a slice of pairs of numbers.
-/
import Derived.Test.YtjnkiloomdeljaaJ48
import Derived.Test.YtjnkiloomdeljaaJ18
import Derived.Test.YtjnkiloomdeljaaJ01
import Derived.Test.YtjnkiloomdeljaaJ14
import Derived.Test.YtjnkiloomdeljaaJ47
import Derived.OpenShut
namespace Go.Proofs.Ytjnkiloomdeljaa
open Go.RowKit

theorem near_le_trans {a b c : Hz} (h : near a b = false) (g : near b c = false) : near a c = false := by
  simp only [near, nearB, Bool.or_eq_false_iff, Bool.and_eq_false_iff, decide_eq_false_iff_not] at *
  omega

theorem sorted_head {l : List Hz} (hs : Sorted l) {x z : Hz} (hx : l.head? = some x) (hz : z ∈ l) : near z x = false := by
  cases l with
  | nil => cases hz
  | cons a l =>
    obtain rfl : a = x := by simpa using hx
    rcases List.mem_cons.1 hz with rfl | hz
    · exact near_irrefl _
    · exact near_asymm ((List.pairwise_cons.1 hs).1 z hz)

theorem head_of_mem {l : List Hz} {z : Hz} (hz : z ∈ l) : ∃ x, l.head? = some x := by
  cases l with
  | nil => cases hz
  | cons a l => exact ⟨a, rfl⟩

/-- a hit that is no nearer than the last is no nearer than the first -/
theorem last_head {l : List Hz} (hs : Sorted l) {x y h : Hz} (hx : l.head? = some x) (hy : l.getLast? = some y) (hn : near h y = false) : near h x = false := by
  refine near_le_trans hn (sorted_head hs hx (List.mem_of_getLast? hy))

theorem addW_head {most : Nat} (hm : 1 ≤ most) {L : List Hz} (g : GoodL most L) {h : Hz} (hi : ∀ x ∈ L, x.id ≠ h.id) (hv : h.vec.length ≤ 1000000) :
    ∃ x, (addZ most L h).2.head? = some x ∧ near h x = false ∧ ∀ y, L.head? = some y → near y x = false := by
  have hS := (addZ_good hm g hv).sorted
  rw [addW_new hi] at hS ⊢
  by_cases hf : L.length = most
  · rw [if_pos hf] at hS ⊢
    by_cases hn : near h (L.getD (most - 1) h) = true
    · rw [if_pos hn] at hS ⊢
      obtain ⟨x, hx⟩ := head_of_mem (insZ_mem.2 (.inl rfl) : h ∈ insZ (L.take (most - 1)) h)
      refine ⟨x, hx, sorted_head hS hx (insZ_mem.2 (.inl rfl)), fun y hy => ?_⟩
      by_cases h1 : most = 1
      · subst h1
        have hxm : x ∈ insZ (L.take (1 - 1)) h := List.mem_of_head? hx
        rcases insZ_mem.1 hxm with rfl | h2
        · cases L with
          | nil => cases hy
          | cons a L =>
            obtain rfl : a = y := by simpa using hy
            exact near_asymm (by simpa using hn)
        · simp at h2
      · refine sorted_head hS hx (insZ_mem.2 (.inr ?_))
        cases L with
        | nil => cases hy
        | cons a L =>
          obtain rfl : a = y := by simpa using hy
          obtain ⟨m, rfl⟩ : ∃ m, most = m + 2 := ⟨most - 2, by omega⟩
          simp
    · rw [if_neg hn] at hS ⊢
      have hlt : most - 1 < L.length := by omega
      obtain ⟨x, hx⟩ := head_of_mem (List.getElem_mem hlt)
      refine ⟨x, hx, ?_, fun y hy => ?_⟩
      · rw [List.getD_eq_getElem?_getD, List.getElem?_eq_getElem hlt] at hn
        exact near_le_trans (by simpa using hn) (sorted_head hS hx (List.getElem_mem hlt))
      · rw [hx] at hy
        obtain rfl := Option.some.inj hy
        exact near_irrefl _
  · rw [if_neg hf] at hS ⊢
    obtain ⟨x, hx⟩ := head_of_mem (insZ_mem.2 (.inl rfl) : h ∈ insZ L h)
    exact ⟨x, hx, sorted_head hS hx (insZ_mem.2 (.inl rfl)), fun y hy => sorted_head hS hx (insZ_mem.2 (.inr (List.mem_of_head? hy)))⟩

theorem ids_len {K : List Int} {far : Int → Option Int} {most : Nat} {s : Ws} (g : GoodW K far most s) : s.L.length ≤ K.length := by
  have h1 : (s.L.map (·.id)).Nodup := by
    have := g.best.ids
    unfold Ids at this
    unfold List.Nodup
    rw [List.pairwise_map]
    exact this
  have := nodup_len h1 fun k hk => by
    obtain ⟨x, hx, rfl⟩ := List.mem_map.1 hk
    exact g.sub _ (g.idl x hx)
  simpa using this

section
variable {K : List Int} {far : Int → Option Int} {nr : Int → List Int} {most : Nat} {start : List Int}

/-- what was seen, what was gone to -/
structure SeenW (K : List Int) (far : Int → Option Int) (nr : Int → List Int) (most : Nat) (start : List Int) (s : Ws) (V : List Int) : Prop where
  once : V.Nodup
  sub : ∀ v ∈ V, v ∈ s.S
  apart : ∀ v ∈ V, ∀ x ∈ s.T, x.id ≠ v
  farl : ∀ x ∈ s.L, far x.id = some x.dist
  fart : ∀ x ∈ s.T, far x.id = some x.dist
  way : ∀ k ∈ s.S, ∃ a ∈ start, (far a).isSome = true ∧ (far k).isSome = true ∧ Way (fun a b => b ∈ nr a) a k
  told : ∀ x ∈ s.L, x.id ∈ V ∨ x ∈ s.T
  first : ∀ k ∈ s.S, ∀ d, far k = some d → ∃ x, s.L.head? = some x ∧ near (hitK k d) x = false
  full : K.length ≤ most → (∀ k ∈ s.S, k ∈ V ∨ ∃ x ∈ s.T, x.id = k) ∧ ∀ k ∈ s.S, ∃ x ∈ s.L, x.id = k

theorem SeenW.begin0 : SeenW K far nr most start ⟨[], [], []⟩ [] :=
  ⟨by simp, by simp, by simp, by simp, by simp, by simp, by simp, by simp, fun _ => ⟨by simp, by simp⟩⟩

theorem see_grow (far : Int → Option Int) (most : Nat) (all : Bool) (s : Ws) (k : Int) : (∀ x ∈ s.S, x ∈ (seeW far most all s k).S) ∧ ((far k).isSome = true → k ∈ (seeW far most all s k).S) := by
  unfold seeW
  cases hf : far k with
  | none => exact ⟨fun x h => h, fun h => by simp at h⟩
  | some d =>
    simp only
    by_cases hk : k ∈ s.S
    · rw [if_pos hk]; exact ⟨fun x h => h, fun _ => hk⟩
    · rw [if_neg hk]
      split
      · exact ⟨fun x h => List.mem_append.2 (.inl h), fun _ => List.mem_append.2 (.inr (by simp))⟩
      · exact ⟨fun x h => List.mem_append.2 (.inl h), fun _ => List.mem_append.2 (.inr (by simp))⟩

theorem look_grow (far : Int → Option Int) (most : Nat) (all : Bool) (ks : List Int) : ∀ s : Ws, (∀ x ∈ s.S, x ∈ (lookW far most all s ks).S) ∧ ∀ k ∈ ks, (far k).isSome = true → k ∈ (lookW far most all s ks).S := by
  induction ks with
  | nil => intro s; exact ⟨fun x h => h, by simp⟩
  | cons a ks ih =>
    intro s
    have h1 := see_grow far most all s a
    have h2 := ih (seeW far most all s a)
    refine ⟨fun x hx => h2.1 x (h1.1 x hx), fun k hk hf => ?_⟩
    rcases List.mem_cons.1 hk with rfl | hk
    · exact h2.1 _ (h1.2 hf)
    · exact h2.2 k hk hf

theorem room_for (hK : ∀ k d, far k = some d → k ∈ K) {s : Ws} (g : GoodW K far most s) {k d : Int} (hf : far k = some d) (hk : k ∉ s.S) : s.L.length < K.length := by
  have h1 : (s.S ++ [k]).Nodup := by
    rw [List.nodup_append]
    exact ⟨g.seen, by simp, fun a ha b hb e => hk (by simp at hb; rw [← hb, ← e]; exact ha)⟩
  have h2 := nodup_len h1 fun x hx => by
    rcases List.mem_append.1 hx with h | h
    · exact g.sub x h
    · obtain rfl : x = k := by simpa using h
      exact hK x d hf
  have h3 : (s.L.map (·.id)).Nodup := by
    have := g.best.ids
    unfold Ids at this
    unfold List.Nodup
    rw [List.pairwise_map]
    exact this
  have h4 := nodup_len h3 fun k hk => by
    obtain ⟨x, hx, rfl⟩ := List.mem_map.1 hk
    exact g.idl x hx
  simp at h2 h4
  omega

theorem SeenW.see (hK : ∀ k d, far k = some d → k ∈ K) (hm : 1 ≤ most) {s : Ws} {V : List Int} (g : GoodW K far most s) (h : SeenW K far nr most start s V) (all : Bool) {k : Int}
    (hw : (far k).isSome = true → ∃ a ∈ start, (far a).isSome = true ∧ Way (fun a b => b ∈ nr a) a k) : SeenW K far nr most start (seeW far most all s k) V := by
  unfold seeW
  cases hf : far k with
  | none => exact h
  | some d =>
    simp only
    by_cases hk : k ∈ s.S
    · rw [if_pos hk]; exact h
    · rw [if_neg hk]
      have hnL : ∀ x ∈ s.L, x.id ≠ (hitK k d).id := fun x hx e => hk (show k ∈ s.S from (show x.id = k from e) ▸ g.idl x hx)
      have hway : ∀ x ∈ s.S ++ [k], ∃ a ∈ start, (far a).isSome = true ∧ (far x).isSome = true ∧ Way (fun a b => b ∈ nr a) a x := fun x hx => by
        rcases List.mem_append.1 hx with hx | hx
        · exact h.way x hx
        · obtain rfl : x = k := by simpa using hx
          have hs : (far x).isSome = true := by rw [hf]; rfl
          obtain ⟨a, h1, h2, h3⟩ := hw hs
          exact ⟨a, h1, h2, hs, h3⟩
      by_cases hh : (hopeB most s.L (hitK k d) || all) = true
      · rw [if_pos hh]
        obtain ⟨x, hx, h1, h2⟩ := addW_head hm g.best hnL (by simp [hitK])
        refine ⟨h.once, fun v hv => List.mem_append.2 (.inl (h.sub v hv)), fun v hv y hy e => ?_, fun y hy => ?_, fun y hy => ?_, hway, fun y hy => ?_, fun k' hk' d' hf' => ?_, fun hfull => ⟨fun y hy => ?_, fun y hy => ?_⟩⟩
        · rcases mem_insD.1 hy with rfl | hy
          · exact hk ((show k = v from e) ▸ h.sub v hv)
          · exact h.apart v hv y hy e
        · rcases addW_mem hnL hy with rfl | hy
          · exact hf
          · exact h.farl y hy
        · rcases mem_insD.1 hy with rfl | hy
          · exact hf
          · exact h.fart y hy
        · rcases addW_mem hnL hy with rfl | hy
          · exact .inr (mem_insD.2 (.inl rfl))
          · exact (h.told y hy).imp id fun h => mem_insD.2 (.inr h)
        · rcases List.mem_append.1 hk' with hk' | hk'
          · obtain ⟨y, hy, hn⟩ := h.first k' hk' d' hf'
            exact ⟨x, hx, near_le_trans hn (h2 y hy)⟩
          · obtain rfl : k' = k := by simpa using hk'
            rw [hf] at hf'
            obtain rfl := Option.some.inj hf'
            exact ⟨x, hx, h1⟩
        · rcases List.mem_append.1 hy with hy | hy
          · rcases (h.full hfull).1 y hy with h3 | ⟨z, hz, e⟩
            · exact .inl h3
            · exact .inr ⟨z, mem_insD.2 (.inr hz), e⟩
          · obtain rfl : y = k := by simpa using hy
            exact .inr ⟨_, mem_insD.2 (.inl rfl), rfl⟩
        · have hne : s.L.length ≠ most := by have := room_for hK g hf hk; omega
          show ∃ x ∈ (addZ most s.L (hitK k d)).2, x.id = y
          rw [addW_new hnL, if_neg hne]
          rcases List.mem_append.1 hy with hy | hy
          · obtain ⟨z, hz, e⟩ := (h.full hfull).2 y hy
            exact ⟨z, insZ_mem.2 (.inr hz), e⟩
          · obtain rfl : y = k := by simpa using hy
            exact ⟨_, insZ_mem.2 (.inl rfl), rfl⟩
      · rw [if_neg hh]
        have hh1 : hopeB most s.L (hitK k d) = false := by
          cases h9 : hopeB most s.L (hitK k d)
          · rfl
          · rw [h9] at hh; simp at hh
        unfold hopeB at hh1
        simp only [Bool.or_eq_false_iff, Bool.not_eq_false', decide_eq_true_eq] at hh1
        obtain ⟨hl, hn⟩ := hh1
        refine ⟨h.once, fun v hv => List.mem_append.2 (.inl (h.sub v hv)), h.apart, h.farl, h.fart, hway, h.told, fun k' hk' d' hf' => ?_, fun hfull => ?_⟩
        · rcases List.mem_append.1 hk' with hk' | hk'
          · exact h.first k' hk' d' hf'
          · obtain rfl : k' = k := by simpa using hk'
            rw [hf] at hf'
            obtain rfl := Option.some.inj hf'
            have hlt : 0 < s.L.length := by omega
            obtain ⟨x, hx⟩ := head_of_mem (List.getElem_mem hlt)
            cases hy : s.L.getLast? with
            | none => rw [List.getLast?_eq_none_iff] at hy; rw [hy] at hlt; simp at hlt
            | some y =>
              rw [hy] at hn
              exact ⟨x, hx, last_head g.best.sorted hx hy hn⟩
        · have := room_for hK g hf hk
          omega

theorem SeenW.look (hK : ∀ k d, far k = some d → k ∈ K) (hm : 1 ≤ most) (all : Bool) {V : List Int} (ks : List Int) : ∀ {s : Ws}, GoodW K far most s → SeenW K far nr most start s V →
    (∀ k ∈ ks, (far k).isSome = true → ∃ a ∈ start, (far a).isSome = true ∧ Way (fun a b => b ∈ nr a) a k) → SeenW K far nr most start (lookW far most all s ks) V := by
  induction ks with
  | nil => intro s g h _; exact h
  | cons k ks ih =>
    intro s g h hw
    exact ih (g.see hK hm all k) (h.see hK hm g all (hw k (by simp))) fun k hk => hw k (by simp [hk])

/-- from what was gone to all that are near are seen -/
def ShutV (far : Int → Option Int) (nr : Int → List Int) (s : Ws) (V : List Int) : Prop := ∀ v ∈ V, ∀ k ∈ nr v, (far k).isSome = true → k ∈ s.S

inductive RunsW (far : Int → Option Int) (nr : Int → List Int) (most : Nat) : Ws → List Int → Ws → List Int → Prop
  | done {s : Ws} {V : List Int} (h : ∀ x, s.T.getLast? = some x → overB most s.L x = true) : RunsW far nr most s V s V
  | step {s s' : Ws} {V V' : List Int} {x : Hz} (h : s.T.getLast? = some x) (ho : overB most s.L x = false) (hr : RunsW far nr most (lookW far most false ⟨s.L, s.S, s.T.dropLast⟩ (nr x.id)) (V ++ [x.id]) s' V') : RunsW far nr most s V s' V'

theorem goW_runs (hK : ∀ k d, far k = some d → k ∈ K) : ∀ (f : Nat) (s : Ws) (V : List Int), lessW K s ≤ f → ∃ s' V', RunsW far nr most s V s' V' ∧ (goW far nr most f s).1 = s'.L ∧ V'.length = V.length + (goW far nr most f s).2 := by
  intro f
  induction f with
  | zero =>
    intro s V h
    have hT : s.T = [] := List.eq_nil_of_length_eq_zero (by unfold lessW at h; omega)
    exact ⟨s, V, .done (by simp [hT]), rfl, rfl⟩
  | succ f ih =>
    intro s V h
    unfold goW
    cases hl : s.T.getLast? with
    | none => exact ⟨s, V, .done (by simp [hl]), rfl, rfl⟩
    | some x =>
      simp only
      cases ho : overB most s.L x with
      | true => exact ⟨s, V, .done (fun y hy => by rw [hl] at hy; obtain rfl := Option.some.inj hy; exact ho), rfl, rfl⟩
      | false =>
        rw [if_neg (by simp)]
        have hT : s.T ≠ [] := by rintro e; rw [e] at hl; cases hl
        have h1 := pop_less (K := K) hT
        have h2 := look_less (most := most) hK false (nr x.id) ⟨s.L, s.S, s.T.dropLast⟩
        obtain ⟨s', V', h3, h4, h5⟩ := ih (lookW far most false ⟨s.L, s.S, s.T.dropLast⟩ (nr x.id)) (V ++ [x.id]) (by omega)
        refine ⟨s', V', .step hl ho h3, h4, ?_⟩
        rw [h5]
        simp
        omega

theorem RunsW.over {s s' : Ws} {V V' : List Int} (h : RunsW far nr most s V s' V') : ∀ x, s'.T.getLast? = some x → overB most s'.L x = true := by
  induction h with
  | done h => exact h
  | step _ _ _ ih => exact ih

theorem RunsW.keeps (hK : ∀ k d, far k = some d → k ∈ K) (hm : 1 ≤ most) {s s' : Ws} {V V' : List Int} (h : RunsW far nr most s V s' V') : GoodW K far most s → SeenW K far nr most start s V → ShutV far nr s V →
    GoodW K far most s' ∧ SeenW K far nr most start s' V' ∧ ShutV far nr s' V' := by
  induction h with
  | done h => exact fun g k c => ⟨g, k, c⟩
  | @step s s' V V' x h ho _ ih =>
    intro g k c
    have hT : s.T = s.T.dropLast ++ [x] := by
      rw [List.getLast?_eq_some_iff] at h
      obtain ⟨ys, e⟩ := h
      rw [e]; simp
    have hx : x ∈ s.T := by rw [hT]; simp
    have hxS := g.ids x hx
    have hsplit : ∀ y ∈ s.T, y ∈ s.T.dropLast ∨ y = x := fun y hy => by
      rw [hT] at hy
      rcases List.mem_append.1 hy with h1 | h1
      · exact .inl h1
      · exact .inr (by simpa using h1)
    have hne : ∀ y ∈ s.T.dropLast, y.id ≠ x.id := fun y hy e => by
      have hd := g.desc
      rw [hT, List.pairwise_append] at hd
      have h1 := hd.2.2 y hy x (by simp)
      have h2 := k.fart y (List.dropLast_subset _ hy)
      have h3 := k.fart x hx
      rw [e, h3] at h2
      have h4 := Option.some.inj h2
      simp only [near, nearB, e, h4] at h1
      simp at h1
    have k1 : SeenW K far nr most start ⟨s.L, s.S, s.T.dropLast⟩ (V ++ [x.id]) := by
      refine ⟨?_, fun v hv => ?_, fun v hv y hy => ?_, k.farl, fun y hy => k.fart y (List.dropLast_subset _ hy), k.way, fun y hy => ?_, k.first, fun hf => ⟨fun y hy => ?_, (k.full hf).2⟩⟩
      · rw [List.nodup_append]
        exact ⟨k.once, by simp, fun a ha b hb e => k.apart a ha x hx (by simp at hb; rw [← hb, ← e])⟩
      · rcases List.mem_append.1 hv with hv | hv
        · exact k.sub v hv
        · obtain rfl : v = x.id := by simpa using hv
          exact hxS
      · rcases List.mem_append.1 hv with hv | hv
        · exact k.apart v hv y (List.dropLast_subset _ hy)
        · obtain rfl : v = x.id := by simpa using hv
          exact hne y hy
      · rcases k.told y hy with h1 | h1
        · exact .inl (List.mem_append.2 (.inl h1))
        · rcases hsplit y h1 with h2 | rfl
          · exact .inr h2
          · exact .inl (List.mem_append.2 (.inr (by simp)))
      · rcases (k.full hf).1 y hy with h1 | ⟨z, hz, rfl⟩
        · exact .inl (List.mem_append.2 (.inl h1))
        · rcases hsplit z hz with h2 | rfl
          · exact .inr ⟨z, h2, rfl⟩
          · exact .inl (List.mem_append.2 (.inr (by simp)))
    have g1 := g.pop
    obtain ⟨a, ha, hfa, -, hwa⟩ := k.way x.id hxS
    have k2 := k1.look hK hm false (nr x.id) g1 fun y hy hf => ⟨a, ha, hfa, .step hwa hy⟩
    have hg := look_grow far most false (nr x.id) ⟨s.L, s.S, s.T.dropLast⟩
    refine ih (g1.look hK hm false (nr x.id)) k2 fun v hv y hy hf => ?_
    rcases List.mem_append.1 hv with hv | hv
    · exact hg.1 y (c v hv y hy hf)
    · obtain rfl : v = x.id := by simpa using hv
      exact hg.2 y hy hf

/-- a whole walk: what it keeps at its end -/
structure EndW (K : List Int) (far : Int → Option Int) (nr : Int → List Int) (most : Nat) (start : List Int) (L : List Hz) (n : Nat) (s : Ws) (V : List Int) : Prop where
  list : s.L = L
  count : V.length = n
  good : GoodW K far most s
  seen : SeenW K far nr most start s V
  shut : ShutV far nr s V
  over : ∀ x, s.T.getLast? = some x → overB most s.L x = true
  begun : ∀ k ∈ start, (far k).isSome = true → k ∈ s.S

theorem RunsW.grow {s s' : Ws} {V V' : List Int} (h : RunsW far nr most s V s' V') : ∀ k ∈ s.S, k ∈ s'.S := by
  induction h with
  | done h => exact fun k hk => hk
  | @step s s' V V' x h ho _ ih => exact fun k hk => ih k ((look_grow far most false (nr x.id) ⟨s.L, s.S, s.T.dropLast⟩).1 k hk)

theorem less_start (hK : ∀ k d, far k = some d → k ∈ K) (ks : List Int) : lessW K (lookW far most true ⟨[], [], []⟩ ks) ≤ 2 * K.length := by
  have h1 := look_less (most := most) hK true ks ⟨[], [], []⟩
  have h2 : lessW K ⟨[], [], []⟩ ≤ K.length := by unfold lessW; simp; exact List.length_filter_le _ _
  omega

theorem endW (hK : ∀ k d, far k = some d → k ∈ K) (hm : 1 ≤ most) (ks : List Int) : ∃ s V, EndW K far nr most ks (goW far nr most (2 * K.length) (lookW far most true ⟨[], [], []⟩ ks)).1 (goW far nr most (2 * K.length) (lookW far most true ⟨[], [], []⟩ ks)).2 s V := by
  obtain ⟨s, V, h1, h2, h3⟩ := goW_runs (nr := nr) (most := most) hK (2 * K.length) (lookW far most true ⟨[], [], []⟩ ks) [] (less_start hK ks)
  have g0 := (GoodW.start (K := K) (far := far) hm).look hK hm true ks
  have k0 := (SeenW.begin0 (K := K) (far := far) (nr := nr) (most := most) (start := ks)).look hK hm true ks (GoodW.start hm) fun k hk hf => ⟨k, hk, hf, .here⟩
  obtain ⟨g, k, c⟩ := h1.keeps hK hm g0 k0 fun v hv => by simp at hv
  exact ⟨s, V, h2.symm, by simpa using h3, g, k, c, h1.over, fun k hk hf => h1.grow k ((look_grow far most true ks ⟨[], [], []⟩).2 k hk hf)⟩

/-- with room for all all are gone to, and told -/
theorem EndW.whole {ks : List Int} {L : List Hz} {n : Nat} {s : Ws} {V : List Int} (h : EndW K far nr most ks L n s V) (hf : K.length ≤ most) : (∀ k, k ∈ s.S ↔ k ∈ V) ∧ (L.map (·.id)).Perm V ∧ (∀ k ∈ V, ∀ x ∈ nr k, (far x).isSome = true → x ∈ V) := by
  have hT : s.T = [] := by
    cases hl : s.T.getLast? with
    | none => rwa [List.getLast?_eq_none_iff] at hl
    | some x =>
      have h1 := h.over x hl
      unfold overB at h1
      have hx : x ∈ s.T := List.mem_of_getLast? hl
      obtain ⟨z, hz, e⟩ := (h.seen.full hf).2 x.id (h.good.ids x hx)
      obtain rfl : z = x := by
        have h2 := h.seen.farl z hz
        have h3 := h.seen.fart x hx
        rw [e, h3] at h2
        have h4 := h.good.plain z hz
        have h5 := h.good.bare x hx
        have h6 := Option.some.inj h2
        cases z; cases x
        simp_all
      exfalso
      cases hy : s.L.getLast? with
      | none => rw [List.getLast?_eq_none_iff] at hy; rw [hy] at hz; cases hz
      | some y =>
        rw [hy] at h1
        simp only [Bool.and_eq_true, decide_eq_true_eq] at h1
        have h7 := h1.2
        rw [List.getLast?_eq_some_iff] at hy
        obtain ⟨ys, e2⟩ := hy
        have hs := h.good.best.sorted
        rw [e2] at hs hz
        rcases List.mem_append.1 hz with h8 | h8
        · rw [near_asymm ((List.pairwise_append.1 hs).2.2 z h8 y (by simp))] at h7
          cases h7
        · obtain rfl : z = y := by simpa using h8
          rw [near_irrefl] at h7; cases h7
  have hS : ∀ k, k ∈ s.S ↔ k ∈ V := fun k => by
    refine ⟨fun hk => ?_, h.seen.sub k⟩
    rcases (h.seen.full hf).1 k hk with h1 | ⟨x, hx, -⟩
    · exact h1
    · rw [hT] at hx; cases hx
  refine ⟨hS, ?_, fun k hk x hx hfx => (hS x).1 (h.shut k hk x hx hfx)⟩
  rw [← h.list]
  have h1 : (s.L.map (·.id)).Nodup := by
    have := h.good.best.ids
    unfold Ids at this
    unfold List.Nodup
    rw [List.pairwise_map]
    exact this
  rw [List.perm_ext_iff_of_nodup h1 h.seen.once]
  intro a
  rw [← hS a]
  constructor
  · intro ha
    obtain ⟨x, hx, rfl⟩ := List.mem_map.1 ha
    exact h.good.idl x hx
  · intro ha
    obtain ⟨x, hx, rfl⟩ := (h.seen.full hf).2 a ha
    exact List.mem_map_of_mem (f := fun y : Hz => y.id) hx

/-- a walk for one ends where none near is nearer -/
theorem EndW.ends {ks : List Int} {L : List Hz} {n : Nat} {s : Ws} {V : List Int} (h : EndW K far nr 1 ks L n s V) {x : Hz} (hx : L = [x]) : ∀ k ∈ nr x.id, ∀ d, far k = some d → near (hitK k d) x = false := by
  have hl := h.list
  rw [hx] at hl
  have hV : x.id ∈ V := by
    rcases h.seen.told x (by rw [hl]; simp) with h1 | h1
    · exact h1
    · exfalso
      cases hy : s.T.getLast? with
      | none => rw [List.getLast?_eq_none_iff] at hy; rw [hy] at h1; cases h1
      | some y =>
        have ho := h.over y hy
        unfold overB at ho
        rw [hl] at ho
        simp only [List.getLast?_singleton, List.length_singleton, decide_true, Bool.true_and] at ho
        rw [List.getLast?_eq_some_iff] at hy
        obtain ⟨ys, e⟩ := hy
        rw [e] at h1
        rcases List.mem_append.1 h1 with h2 | h2
        · have hd := h.good.desc
          rw [e, List.pairwise_append] at hd
          have := near_asymm (hd.2.2 x h2 y (by simp))
          rw [this] at ho; cases ho
        · obtain rfl : x = y := by simpa using h2
          rw [near_irrefl] at ho; cases ho
  intro k hk d hd
  obtain ⟨y, hy, hn⟩ := h.seen.first k (h.shut _ hV k hk (by rw [hd]; rfl)) d hd
  rw [hl] at hy
  obtain rfl : x = y := by simpa using hy
  exact hn
end

end Go.Proofs.Ytjnkiloomdeljaa

namespace Go.Proofs.Ytjnkiloomdeljaa
open Go.RowKit

/-- of one ID and one distance there is one vector -/
def detZ (h : Hz) : Hz := ⟨h.id, h.dist, [h.id % 7, h.dist % 7]⟩

theorem det_vec {l : List Hz} : ∀ h ∈ l.map detZ, h.vec.length ≤ 1000000 := by
  intro h hh
  obtain ⟨x, -, rfl⟩ := List.mem_map.1 hh
  simp [detZ]

theorem det_det {l : List Hz} : ∀ a ∈ l.map detZ, ∀ b ∈ l.map detZ, a.id = b.id → a.dist = b.dist → a = b := by
  intro a ha b hb h1 h2
  obtain ⟨x, -, rfl⟩ := List.mem_map.1 ha
  obtain ⟨y, -, rfl⟩ := List.mem_map.1 hb
  have h1' : x.id = y.id := h1
  have h2' : x.dist = y.dist := h2
  simp [detZ, h1', h2']

/-- the first j are so already -/
def mixZ (l : List Hz) (j : Nat) : List Hz := l.mapIdx fun i h => if i < j then detZ h else h

theorem mixZ_length (l : List Hz) (j : Nat) : (mixZ l j).length = l.length := by simp [mixZ]
theorem mixZ_zero (l : List Hz) : mixZ l 0 = l := by
  apply List.ext_getElem
  · simp [mixZ]
  · intro i h1 h2; simp [mixZ]
theorem mixZ_all (l : List Hz) : mixZ l l.length = l.map detZ := by
  apply List.ext_getElem
  · simp [mixZ]
  · intro i h1 h2
    rw [mixZ_length] at h1
    simp [mixZ, h1]
theorem mixZ_set (l : List Hz) (k : Nat) (hk : k < l.length) : mixZ l (k + 1) = (mixZ l k).set k (detZ l[k]) := by
  apply List.ext_getElem
  · simp [mixZ]
  · intro i h1 h2
    rw [List.getElem_set]
    simp only [mixZ, List.getElem_mapIdx]
    by_cases e : k = i
    · subst e; simp
    · rw [if_neg e]
      by_cases h : i < k
      · rw [if_pos (by omega), if_pos h]
      · rw [if_neg (by omega), if_neg h]
theorem mixZ_at (l : List Hz) (k : Nat) (hk : k < l.length) : (mixZ l k)[k]'(by rw [mixZ_length]; exact hk) = l[k] := by simp [mixZ]

theorem flat3_setv (rs : List Hv) (i : Nat) (hi : i < rs.length) (u : Value) : (flat3 rs).set (i * 3 + 1 + 1) u = flat3 (rs.set i ⟨rs[i].id, rs[i].dist, u⟩) := by
  induction rs generalizing i with
  | nil => simp at hi
  | cons r rs ih =>
    cases i with
    | zero => simp [flat3]
    | succ i =>
      have := ih i (by simpa using hi)
      rw [show (i + 1) * 3 + 1 + 1 = i * 3 + 1 + 1 + 1 + 1 + 1 by omega]
      simpa [flat3] using this

/-- a row with one vector of two new numbers -/
theorem rows_set {w w5 : World} {G G5 : Nat → Prop} {rs : List Hv} {l : List Hz} {k g : Nat} {x y : Int} (hr : Rows3 w G rs l) (hk : k < l.length) (hk' : k < rs.length) (hGG : ∀ j, G j → G5 j) (hkeep : ∀ j, G j → w5.heap[j]? = w.heap[j]?)
    (hg : w5.heap[g]? = some (.cells #[.int .i32 x, .int .i32 y] 21 (0, 0))) (hG5 : G5 g) : Rows3 w5 G5 (rs.set k ⟨rs[k].id, rs[k].dist, .slice (some ⟨g, 0, none⟩) 2 2⟩) (l.set k ⟨l[k].id, l[k].dist, [x, y]⟩) := by
  refine ⟨by simp [hr.len], fun i h1 h2 => ?_⟩
  rw [List.length_set] at h1 h2
  rw [List.getElem_set, List.getElem_set]
  by_cases e : k = i
  · subst e
    obtain ⟨a, b, -⟩ := hr.each k hk' hk
    simp only [if_pos rfl, if_true]
    refine ⟨a, b, Nums.mk (by simp) (by simp) (by simp) fun i hi => ⟨g, 0, rfl, ?_⟩, fun _ b hb => by cases hb; exact hG5⟩
    have : i = 0 ∨ i = 1 := by simp at hi; omega
    rcases this with rfl | rfl <;> simp [World.cell?, hg]
  · rw [if_neg e, if_neg e]
    obtain ⟨a, b, c, d⟩ := hr.each i h1 h2
    exact ⟨a, b, c.agree d hkeep, d.mono hGG⟩

theorem own_fresh (w : World) (base e : Nat) (u : Value) (hb : base ≤ w.heap.size) : (w.alloc (.cells #[u] e)).ownsRow base e 1 (.slice (some ⟨w.heap.size, 0, none⟩) 1 1) 1 [u] :=
  ⟨by simp, .inr ⟨_, _, #[u], rfl, hb, heap_alloc_new _ _, Nat.le_refl _, by simp [maxLen], by simp, by simp⟩⟩

/-- what the script has laid so far: the lists, both ways round; the document's list of all -/
structure MState (w : World) (B c : Nat) (vl vb : Value) (ps : List Value) (E FX : Nat → Prop) (ls : List (List Hz)) : Prop where
  ol : w.ownsRow B 22 1 vl ls.length ps
  ob : w.ownsRow B 22 1 vb ls.length ps.reverse
  ap : ∀ b, vl.ownBlock = some b → vb.ownBlock ≠ some b
  dat : ∀ i (h : i < ls.length), ∃ q qc, ps[i]? = some (.slice q ls[i].length qc) ∧ HitsF w E (.slice q ls[i].length qc) ls[i]
  elo : ∀ k, E k → B ≤ k
  ehi : ∀ k, E k → k < w.heap.size
  el : ∀ b, vl.ownBlock = some b → ¬ E b ∧ ¬ FX b
  eb : ∀ b, vb.ownBlock = some b → ¬ E b ∧ ¬ FX b
  rl : RefL w FX c 1048576 (addsZ 1048576 [] ls.flatten).2
  fhi : ∀ k, FX k → k < w.heap.size
  flo : ∀ k, FX k → c ≤ k
  cB : c < B
  ln : ls.length ≤ 6
  l12 : ∀ ms ∈ ls, ms.length ≤ 12
  vec : ∀ ms ∈ ls, ∀ h ∈ ms, h.vec.length ≤ 1000000

theorem flat_len {ls : List (List Hz)} {n : Nat} (h : ∀ ms ∈ ls, ms.length ≤ n) : ls.flatten.length ≤ n * ls.length := by
  induction ls with
  | nil => simp
  | cons a ls ih =>
    have h1 := h a (by simp)
    have h2 := ih fun ms hm => h ms (by simp [hm])
    simp only [List.flatten_cons, List.length_append, List.length_cons, Nat.mul_add, Nat.mul_one]
    omega

theorem MState.flat {w : World} {B c : Nat} {vl vb : Value} {ps : List Value} {E FX : Nat → Prop} {ls : List (List Hz)} (m : MState w B c vl vb ps E FX ls) : ls.flatten.length ≤ 72 := by
  have := flat_len m.l12
  have := m.ln
  omega

theorem MState.fvec {w : World} {B c : Nat} {vl vb : Value} {ps : List Value} {E FX : Nat → Prop} {ls : List (List Hz)} (m : MState w B c vl vb ps E FX ls) : ∀ h ∈ ls.flatten, h.vec.length ≤ 1000000 := by
  intro h hh
  obtain ⟨ms, hm, hh⟩ := List.mem_flatten.1 hh
  exact m.vec ms hm h hh

/-- nothing of it has turned but the document's list -/
theorem MState.next {wo w : World} {B c : Nat} {vl vb : Value} {ps : List Value} {E FX : Nat → Prop} {ls : List (List Hz)} (m : MState wo B c vl vb ps E FX ls) (hm : Mod (fun k => k = c) wo w) :
    w.ownsRow B 22 1 vl ls.length ps ∧ w.ownsRow B 22 1 vb ls.length ps.reverse ∧ ∀ i (h : i < ls.length), ∃ q qc, ps[i]? = some (.slice q ls[i].length qc) ∧ HitsF w E (.slice q ls[i].length qc) ls[i] := by
  have hc := m.cB
  have own : ∀ (v : Value) (xs : List Value), wo.ownsRow B 22 1 v ls.length xs → w.ownsRow B 22 1 v ls.length xs := by
    intro v xs h
    obtain ⟨h0, h1 | ⟨g, cap, cur, rfl, hb, hh, r⟩⟩ := h
    · exact ⟨h0, .inl h1⟩
    · exact ⟨h0, .inr ⟨g, cap, cur, rfl, hb, by rw [hm.block g (lt_block hh) (by omega)]; exact hh, r⟩⟩
  refine ⟨own _ _ m.ol, own _ _ m.ob, fun i h => ?_⟩
  obtain ⟨q, qc, h1, h2⟩ := m.dat i h
  exact ⟨q, qc, h1, h2.agree fun k hk => hm.block k (m.ehi k hk) (by have := m.elo k hk; omega)⟩

end Go.Proofs.Ytjnkiloomdeljaa

namespace Go.Proofs.Ytjnkiloomdeljaa
open Go.RowKit

theorem MState.put {wo w3 w5 w7 : World} {B c : Nat} {vl vb vl5 v7 : Value} {ps : List Value} {E FX FX' Ep : Nat → Prop} {ls : List (List Hz)} {l : List Hz} {q : Option Addr} {qc g5 n : Nat} (m : MState wo B c vl vb ps E FX ls) (hm : Mod (fun k => k = c) wo w3)
    (hp : HitsF w3 Ep (.slice q n qc) l) (hEp : ∀ k, Ep k → wo.heap.size ≤ k ∧ k < w3.heap.size) (hr : RefL w3 FX' c 1048576 (addsZ 1048576 [] (ls.flatten ++ l)).2) (hF : ∀ k, FX' k → (FX k ∨ wo.heap.size ≤ k) ∧ k < w3.heap.size)
    (h12 : l.length ≤ 12) (hlen : ls.length < 6) (hv : ∀ h ∈ l, h.vec.length ≤ 1000000) (hB : B ≤ wo.heap.size)
    (ho5 : w5.ownsRow B 22 1 vl5 (ls.length + 1) (ps ++ [.slice q n qc])) (hv5 : vl5.ownBlock = some g5) (hg5 : (w3.alloc (.cells #[.slice q n qc] 22)).grownBy w5 vl.ownBlock) (hat : vl.ownBlock = some g5 ∨ g5 = w3.heap.size + 1)
    (ho7 : w7.ownsRow w5.heap.size 22 1 v7 (1 + ls.length) ([.slice q n qc] ++ ps.reverse)) (hg7 : (w5.alloc (.cells #[.slice q n qc] 22)).grownBy w7 (some w5.heap.size)) :
    MState w7 B c vl5 v7 (ps ++ [.slice q n qc]) (fun k => E k ∨ Ep k) FX' (ls ++ [l]) := by
  obtain rfl : n = l.length := by
    obtain ⟨_, _, e, -⟩ := hp
    exact (Value.slice.inj e).2.1
  have hs3 := hm.size
  have hs5 := hg5.size
  have hs7 := hg7.size
  simp at hs5 hs7
  have hcB := m.cB
  obtain ⟨nl, -, nd⟩ := m.next hm
  have h35 : Mod (fun k => vl.ownBlock = some k) w3 w5 := (Mod.of_below ((Below.refl w3.heap.size w3).alloc (Nat.le_refl _) _)).grown hg5 fun k hk => .inl hk
  have h57 : Below w5.heap.size w5 w7 := ((Below.refl w5.heap.size w5).alloc (Nat.le_refl _) _).grown hg7 (by simp) fun b hb => by cases hb; exact Nat.le_refl _
  have h37 := h35.andBelow h57
  have hlt5 : g5 < w5.heap.size := (ho5.lt g5 hv5).2
  have hvl : ∀ b, vl.ownBlock = some b → b < wo.heap.size := fun b hb => (m.ol.lt b hb).2
  refine ⟨by simpa using own_below ho5 h57, ?_, ?_, ?_, ?_, ?_, ?_, ?_, ?_, ?_, ?_, hcB, by simp; omega, ?_, ?_⟩
  · rw [List.reverse_append, List.length_append]
    have := own_mono ho7 (show B ≤ w5.heap.size by omega)
    simpa [Nat.add_comm] using this
  · intro b hb
    rw [hv5] at hb
    obtain rfl := Option.some.inj hb
    intro h
    have := (ho7.lt g5 h).1
    omega
  · intro i hi
    rw [List.length_append, List.length_singleton] at hi
    have hpl : ps.length = ls.length := by have := m.ol.1; omega
    by_cases e : i = ls.length
    · subst e
      have el : (ls ++ [l])[ls.length] = l := by simp
      refine ⟨q, qc, by rw [el, List.getElem?_append_right (by omega), hpl]; simp, ?_⟩
      rw [el]
      refine (hp.agree (Agree.of_mod h37 (fun k hk => (hEp k hk).2) fun k hk hk' => ?_)).mono fun _ => .inr
      have := hvl k hk'
      have := (hEp k hk).1
      omega
    · have hi' : i < ls.length := by omega
      obtain ⟨q', qc', h1, h2⟩ := nd i hi'
      refine ⟨q', qc', ?_, ?_⟩
      · rw [List.getElem_append_left hi', List.getElem?_append_left (by omega)]; exact h1
      · simp only [List.getElem_append_left hi']
        refine (h2.agree (Agree.of_mod h37 (fun k hk => by have := m.ehi k hk; omega) fun k hk hk' => (m.el k hk').1 hk)).mono fun _ => .inl
  · intro k hk
    rcases hk with hk | hk
    · exact m.elo k hk
    · have := (hEp k hk).1; omega
  · intro k hk
    rcases hk with hk | hk
    · have := m.ehi k hk; omega
    · have := (hEp k hk).2; omega
  · intro b hb
    rw [hv5] at hb
    obtain rfl := Option.some.inj hb
    rcases hat with h | h
    · obtain ⟨h1, h2⟩ := m.el g5 h
      have := hvl g5 h
      refine ⟨fun hk => ?_, fun hk => ?_⟩
      · rcases hk with hk | hk
        · exact h1 hk
        · have := (hEp _ hk).1; omega
      · rcases (hF _ hk).1 with hk | hk
        · exact h2 hk
        · omega
    · refine ⟨fun hk => ?_, fun hk => by have := (hF _ hk).2; omega⟩
      rcases hk with hk | hk
      · have := m.ehi _ hk; omega
      · have := (hEp _ hk).2; omega
  · intro b hb
    have := (ho7.lt b hb).1
    refine ⟨fun hk => ?_, fun hk => by have := (hF _ hk).2; omega⟩
    rcases hk with hk | hk
    · have := m.ehi _ hk; omega
    · have := (hEp _ hk).2; omega
  · rw [List.flatten_append]
    simp only [List.flatten_cons, List.flatten_nil, List.append_nil]
    refine hr.agree (Agree.of_mod h37 (fun k hk => (hF k hk).2) fun k hk hk' => ?_) h37.size
    rcases (hF k hk).1 with h | h
    · exact (m.el k hk').2 h
    · have := hvl k hk'; omega
  · intro k hk
    have := (hF k hk).2
    omega
  · intro k hk
    rcases (hF k hk).1 with h | h
    · exact m.flo k h
    · omega
  · intro ms hms
    rcases List.mem_append.1 hms with h | h
    · exact m.l12 ms h
    · rw [List.mem_singleton.1 h]; exact h12
  · intro ms hms
    rcases List.mem_append.1 hms with h | h
    · exact m.vec ms h
    · rw [List.mem_singleton.1 h]; exact hv

theorem MState.ones {w : World} {B c : Nat} {vl vb : Value} {ps : List Value} {E FX : Nat → Prop} {ls : List (List Hz)} (m : MState w B c vl vb ps E FX ls) : ∀ u ∈ ps, u.oneCell' = true := by
  intro u hu
  have hpl : ps.length = ls.length := by have := m.ol.1; omega
  obtain ⟨i, hi, rfl⟩ := List.mem_iff_getElem.1 hu
  obtain ⟨q, qc, h1, -⟩ := m.dat i (by omega)
  rw [List.getElem?_eq_getElem hi] at h1
  rw [Option.some.inj h1]
  rfl

/-- the lists, as merge reads them -/
theorem MState.lists {w : World} {B c : Nat} {vl vb : Value} {ps : List Value} {E FX : Nat → Prop} {ls : List (List Hz)} (m : MState w B c vl vb ps E FX ls) :
    ListsF w (fun k => B ≤ k ∧ k < w.heap.size) vl ls ∧ ListsF w (fun k => B ≤ k ∧ k < w.heap.size) vb ls.reverse := by
  have hpl : ps.length = ls.length := by have := m.ol.1; omega
  have one : ∀ (v : Value) (qs : List Value) (ms : List (List Hz)), qs.length = ms.length → w.ownsRow B 22 1 v ms.length qs → (∀ i (h : i < ms.length), ∃ q qc, qs[i]? = some (.slice q ms[i].length qc) ∧ HitsF w E (.slice q ms[i].length qc) ms[i]) → ListsF w (fun k => B ≤ k ∧ k < w.heap.size) v ms := by
    intro v qs ms hq h hd
    obtain ⟨h1, ⟨h2, h3⟩ | ⟨g, cap, cur, hvv, hb, hg, hn, hcm, hs, ht⟩⟩ := h
    · have : ms = [] := List.eq_nil_of_length_eq_zero h3
      subst this
      rw [h2]; exact ⟨none, 0, rfl, by simp, by simp, by simp, fun i hi => absurd hi (by simp)⟩
    · refine ⟨_, cap, hvv, hn, by simpa [maxLen] using hcm, by simp, fun i hi => ?_⟩
      obtain ⟨q, qc, e, hh⟩ := hd i hi
      refine ⟨g, 0, _, rfl, ⟨hb, lt_block hg⟩, ?_, hh.mono fun k hk => ⟨m.elo k hk, m.ehi k hk⟩⟩
      rw [← ht, List.getElem?_take] at e
      split at e
      · simp only [World.cell?, hg]; simpa using e
      · cases e
  refine ⟨one vl ps ls hpl m.ol m.dat, one vb ps.reverse ls.reverse (by simp [hpl]) (by simpa using m.ob) fun i hi => ?_⟩
  rw [List.length_reverse] at hi
  obtain ⟨q, qc, h1, h2⟩ := m.dat (ls.length - 1 - i) (by omega)
  refine ⟨q, qc, ?_, ?_⟩
  · rw [List.getElem?_reverse (by omega), hpl, List.getElem_reverse]; exact h1
  · rw [List.getElem_reverse]; exact h2

end Go.Proofs.Ytjnkiloomdeljaa

namespace Go.Proofs.Ytjnkiloomdeljaa
open Go.RowKit

def Inn (wo w : World) (v : Value) (k : Nat) : Prop := (wo.heap.size ≤ k ∧ k < w.heap.size) ∧ v.ownBlock ≠ some k

structure InnerS (wo w : World) (c : Nat) (v : Value) (rs : List Hv) (FX : Nat → Prop) (prev l : List Hz) (i j : Nat) : Prop where
  ow : w.ownsRow wo.heap.size 43 3 v l.length (flat3 rs)
  rw : Rows3 w (Inn wo w v) rs (mixZ l i)
  rl : RefL w (fun k => FX k ∨ Inn wo w v k) c 1048576 (addsZ 1048576 [] (prev ++ (l.take j).map detZ)).2
  md : Mod (fun k => k = c) wo w
  fx : ∀ k, FX k → k < wo.heap.size
  fc : c < wo.heap.size

theorem InnerS.start {wo w : World} {c : Nat} {v : Value} {rs : List Hv} {FX : Nat → Prop} {prev l : List Hz} (ho : w.ownsRow wo.heap.size 43 3 v rs.length (flat3 rs)) (hh : Held3 w wo.heap.size 21 rs l) (hb : Below wo.heap.size wo w)
    (hr : RefL wo FX c 1048576 (addsZ 1048576 [] prev).2) (hF : ∀ k, FX k → k < wo.heap.size) (hc : c < wo.heap.size) : InnerS wo w c v rs FX prev l 0 0 := by
  refine ⟨by rw [← hh.len]; exact ho, ?_, ?_, Mod.of_below hb, hF, hc⟩
  · rw [mixZ_zero]
    refine ⟨hh.len, fun i h1 h2 => ?_⟩
    obtain ⟨⟨a, b⟩, c⟩ := hh.own i h1 h2
    refine ⟨a, b, Nums.of_own c, fun _ k hk => ⟨c.lt k hk, fun e => ?_⟩⟩
    rcases own_apart c ho (by decide) with h | h
    · rw [h] at hk; cases hk
    · exact h (by rw [hk, e])
  · simp only [List.take_zero, List.map_nil, List.append_nil]
    exact (hr.below hb).mono fun _ => .inl

theorem InnerS.below {wo w w' : World} {c : Nat} {v : Value} {rs : List Hv} {FX : Nat → Prop} {prev l : List Hz} {i j : Nat} (m : InnerS wo w c v rs FX prev l i j) (hb : Below w.heap.size w w') : InnerS wo w' c v rs FX prev l i j := by
  have hs := hb.size
  have inn : ∀ k, Inn wo w v k → Inn wo w' v k := fun k hk => ⟨⟨hk.1.1, by have := hk.1.2; omega⟩, hk.2⟩
  exact ⟨own_below m.ow hb, (m.rw.below hb).mono inn, (m.rl.below hb).mono fun k hk => hk.imp_right (inn k), m.md.andBelow hb, m.fx, m.fc⟩

theorem InnerS.write {wo w : World} {c g cap : Nat} {rs : List Hv} {FX : Nat → Prop} {prev l : List Hz} {j : Nat} (m : InnerS wo w c (.slice (some ⟨g, 0, none⟩) l.length cap) rs FX prev l j j) (hj : j < l.length) :
    InnerS wo ((w.alloc (.cells #[.int .i32 (l[j].id % 7), .int .i32 (l[j].dist % 7)] 21)).setCell ⟨g, j * 3 + 1 + 1, none⟩ (.slice (some ⟨w.heap.size, 0, none⟩) 2 2)) c (.slice (some ⟨g, 0, none⟩) l.length cap) (rs.set j ⟨l[j].id, l[j].dist, .slice (some ⟨w.heap.size, 0, none⟩) 2 2⟩) FX prev l (j + 1) j := by
  have hml := mixZ_length l j
  have hlen := m.rw.len
  have hjr : j < rs.length := by omega
  obtain ⟨e1, e2, -⟩ := m.rw.each j hjr (by omega)
  rw [mixZ_at l j hj] at e1 e2
  have hgw := m.ow.lt g rfl
  have M := m.below ((Below.refl w.heap.size w).alloc (Nat.le_refl _) (.cells #[.int .i32 (l[j].id % 7), .int .i32 (l[j].dist % 7)] 21))
  have hsz : ((w.alloc (.cells #[.int .i32 (l[j].id % 7), .int .i32 (l[j].dist % 7)] 21)).setCell ⟨g, j * 3 + 1 + 1, none⟩ (.slice (some ⟨w.heap.size, 0, none⟩) 2 2)).heap.size = w.heap.size + 1 := by simp [World.setCell]
  have hsz1 : (w.alloc (.cells #[.int .i32 (l[j].id % 7), .int .i32 (l[j].dist % 7)] 21)).heap.size = w.heap.size + 1 := by simp
  have keep : ∀ k, k ≠ g → ((w.alloc (.cells #[.int .i32 (l[j].id % 7), .int .i32 (l[j].dist % 7)] 21)).setCell ⟨g, j * 3 + 1 + 1, none⟩ (.slice (some ⟨w.heap.size, 0, none⟩) 2 2)).heap[k]? = (w.alloc (.cells #[.int .i32 (l[j].id % 7), .int .i32 (l[j].dist % 7)] 21)).heap[k]? := fun k hk => Below.heap_setCell _ _ _ _ (fun e => hk (by rw [e]))
  have innE : ∀ k, Inn wo (w.alloc (.cells #[.int .i32 (l[j].id % 7), .int .i32 (l[j].dist % 7)] 21)) (.slice (some ⟨g, 0, none⟩) l.length cap) k → k ≠ g := fun k hk e => hk.2 (by rw [e]; rfl)
  refine ⟨?_, ?_, ?_, ?_, m.fx, m.fc⟩
  · have := own_setCell M.ow rfl (o := j * 3 + 1 + 1) (by omega) (.slice (some ⟨w.heap.size, 0, none⟩) 2 2)
    rw [flat3_setv rs j hjr, e1, e2] at this
    exact this
  · rw [mixZ_set l j hj]
    have := rows_set (w := w.alloc (.cells #[.int .i32 (l[j].id % 7), .int .i32 (l[j].dist % 7)] 21)) (w5 := (w.alloc (.cells #[.int .i32 (l[j].id % 7), .int .i32 (l[j].dist % 7)] 21)).setCell ⟨g, j * 3 + 1 + 1, none⟩ (.slice (some ⟨w.heap.size, 0, none⟩) 2 2)) (G5 := Inn wo ((w.alloc (.cells #[.int .i32 (l[j].id % 7), .int .i32 (l[j].dist % 7)] 21)).setCell ⟨g, j * 3 + 1 + 1, none⟩ (.slice (some ⟨w.heap.size, 0, none⟩) 2 2)) (.slice (some ⟨g, 0, none⟩) l.length cap)) (k := j) (g := w.heap.size) (x := l[j].id % 7) (y := l[j].dist % 7) M.rw (by omega) hjr (fun k hk => ⟨⟨hk.1.1, by rw [hsz]; have := hk.1.2; omega⟩, hk.2⟩) (fun k hk => keep k (innE k hk)) (by rw [keep _ (by omega)]; exact heap_alloc_new _ _) ⟨⟨by omega, by rw [hsz]; omega⟩, by simp only [Value.ownBlock, ne_eq, Option.some.injEq]; omega⟩
    rw [e1, e2, mixZ_at l j hj] at this
    exact this
  · refine (M.rl.agree (fun k hk => keep k ?_) (by rw [hsz, hsz1]; exact Nat.le_refl _)).mono fun k hk => hk.imp_right fun hk => ⟨⟨hk.1.1, by rw [hsz]; have := hk.1.2; omega⟩, hk.2⟩
    rcases hk with hk | hk
    · have := m.fx k hk; omega
    · exact innE k hk
  · exact M.md.setCell (.inr hgw.1) _

theorem InnerS.added {wo w w' : World} {c : Nat} {v : Value} {rs : List Hv} {FX : Nat → Prop} {prev l : List Hz} {i j : Nat} (m : InnerS wo w c v rs FX prev l i j) (hj : j < l.length) {b : Bool} {e : Ending}
    (h : RefAdd w (fun k => FX k ∨ Inn wo w v k) c 1048576 (b, (addsZ 1048576 [] (prev ++ (l.take (j + 1)).map detZ)).2) e w') : InnerS wo w' c v rs FX prev l i (j + 1) := by
  obtain ⟨-, h2, h3⟩ := h
  have hs := h3.size
  have hc := m.fc
  have inn : ∀ k, Inn wo w v k → Inn wo w' v k := fun k hk => ⟨⟨hk.1.1, by have := hk.1.2; omega⟩, hk.2⟩
  refine ⟨?_, ?_, h2.mono fun k hk => ?_, m.md.trans h3 fun k _ hk => hk, m.fx, hc⟩
  · obtain ⟨h0, h1 | ⟨g, cap, cur, rfl, hb, hh, r⟩⟩ := m.ow
    · exact ⟨h0, .inl h1⟩
    · exact ⟨h0, .inr ⟨g, cap, cur, rfl, hb, by rw [h3.block g (lt_block hh) (by omega)]; exact hh, r⟩⟩
  · exact (m.rw.agree fun k hk => h3.block k hk.1.2 (by have := hk.1.1; omega)).mono inn
  · rcases hk with (hk | hk) | hk
    · exact .inl hk
    · exact .inr (inn k hk)
    · refine .inr ⟨⟨by have := m.md.size; omega, hk.2⟩, fun e => ?_⟩
      have := (m.ow.lt k e).2
      omega

theorem InnerS.fhi {wo w : World} {c : Nat} {v : Value} {rs : List Hv} {FX : Nat → Prop} {prev l : List Hz} {i j : Nat} (m : InnerS wo w c v rs FX prev l i j) : ∀ k, (FX k ∨ Inn wo w v k) → k < w.heap.size := by
  rintro k (h | h)
  · exact Nat.lt_of_lt_of_le (m.fx k h) m.md.size
  · exact h.1.2

theorem InnerS.good {wo w : World} {c : Nat} {v : Value} {rs : List Hv} {FX : Nat → Prop} {prev l : List Hz} {i j : Nat} (_ : InnerS wo w c v rs FX prev l i j) (hv : ∀ h ∈ prev, h.vec.length ≤ 1000000) (hl : prev.length + l.length ≤ 1000000) :
    GoodL 1048576 (addsZ 1048576 [] (prev ++ (l.take j).map detZ)).2 ∧ (addsZ 1048576 [] (prev ++ (l.take j).map detZ)).2.length ≤ 1000000 := by
  refine ⟨addsZ_good (by omega) (GoodL.nil _) _ fun h hh => ?_, ?_⟩
  · rcases List.mem_append.1 hh with h1 | h1
    · exact hv h h1
    · exact det_vec h h1
  · have := adds_len 1048576 (prev ++ (l.take j).map detZ)
    rw [List.length_append, List.length_map, List.length_take] at this
    omega

theorem mixZ_done (l : List Hz) (j : Nat) (hj : j < l.length) : (mixZ l (j + 1))[j]'(by rw [mixZ_length]; exact hj) = detZ l[j] := by simp [mixZ]

theorem own_cell {w : World} {base e size n g i : Nat} {v u : Value} {xs : List Value} (h : w.ownsRow base e size v n xs) (hg : v.ownBlock = some g) (hx : xs[i]? = some u) : w.cell? ⟨g, i, none⟩ = some u := by
  have := own_rangeAt h hg i [u] (fun j z hj => by
    have : j = 0 := by
      have := (List.getElem?_eq_some_iff.1 hj).1
      simp at this; omega
    subst this
    simp at hj; subst hj; exact hx) 0 u rfl
  simpa using this

theorem own_slice {w : World} {base e size n : Nat} {v : Value} {xs : List Value} (h : w.ownsRow base e size v n xs) : ∃ q c, v = .slice q n c := by
  rcases h.2 with ⟨rfl, rfl⟩ | ⟨g, cap, cur, hv, _⟩
  · exact ⟨_, _, rfl⟩
  · exact ⟨_, _, hv⟩

theorem wrap7 {x : Int} (h : 0 ≤ x) : IntKind.i32.wrap (x.tmod 7) = x % 7 := by
  rw [Int.tmod_eq_emod_of_nonneg h]
  simp only [IntKind.wrap, IntKind.signed, IntKind.bits]
  simp
  omega

theorem det_snoc (prev l : List Hz) (j : Nat) (hj : j < l.length) : (addsZ 1048576 [] (prev ++ (l.take (j + 1)).map detZ)).2 = (addZ 1048576 (addsZ 1048576 [] (prev ++ (l.take j).map detZ)).2 (detZ l[j])).2 := by
  rw [take_snoc l j hj, List.map_append, ← List.append_assoc]
  simp only [List.map_cons, List.map_nil]
  rw [addsZ_snoc]

end Go.Proofs.Ytjnkiloomdeljaa

namespace Go.Proofs.Ytjnkiloomdeljaa
open Go.RowKit

/-- what the law lays of the first k parts -/
def partsZ (ls : List (List Hz)) (k : Nat) : List (List Hz) := (ls.take k).map fun ms => (hitsZ 12 ms).map detZ

theorem partsZ_snoc (ls : List (List Hz)) (k : Nat) (hk : k < ls.length) : partsZ ls (k + 1) = partsZ ls k ++ [(hitsZ 12 ls[k]).map detZ] := by
  unfold partsZ
  rw [take_snoc ls k hk, List.map_append]
  rfl

theorem HitsF.front {w : World} {F : Nat → Prop} {p : Option Addr} {n c : Nat} {l : List Hz} (h : HitsF w F (.slice p n c) l) {k : Nat} (hk : k ≤ l.length) : HitsF w F (.slice p k c) (l.take k) := by
  obtain ⟨p', cap, hv, h1, h2, h3, h4⟩ := h
  obtain ⟨rfl, rfl, rfl⟩ := Value.slice.inj hv
  have hl : (l.take k).length = k := by rw [List.length_take]; omega
  refine ⟨p, c, by rw [hl], by omega, h2, h3, fun i hi => ?_⟩
  obtain ⟨b, off, u, r⟩ := h4 i (by omega)
  exact ⟨b, off, u, by simpa [List.getElem_take] using r⟩

theorem ListsF.keep {w w' : World} {B : Nat} {v : Value} {ls : List (List Hz)} (h : ListsF w (fun k => B ≤ k ∧ k < w.heap.size) v ls) (hb : Below w.heap.size w w') : ListsF w' (fun k => B ≤ k ∧ k < w'.heap.size) v ls := by
  have hs := hb.size
  obtain ⟨p, cap, hv, h1, h2, h3, h4⟩ := h.agree (Agree.of_below hb fun k hk => hk.2)
  refine ⟨p, cap, hv, h1, h2, h3, fun i hi => ?_⟩
  obtain ⟨b, off, u, hp, hf, c0, hn⟩ := h4 i hi
  exact ⟨b, off, u, hp, ⟨hf.1, by omega⟩, c0, hn.mono fun k hk => ⟨hk.1, by omega⟩⟩

theorem sameHits_self (F G : Nat → Prop) (l : List Hz) (v u : Value) (w : World) (h : HitsF w F v l) (g : HitsF w G u l) :
    Calls Try.prog 12 #[v, u] w fun e w' => e = .returned (.bool true) ∧ Drawn w w' :=
  (sameHits F G l l v u w h g).mono fun e w' hh => ⟨hh.1.trans (by rw [decide_eq_true (Eq.refl l)]), hh.2⟩

/-- all that was laid, both ways round -/
theorem merged {w : World} {B c : Nat} {vl vb : Value} {ps : List Value} {E FX : Nat → Prop} {ls : List (List Hz)} (m : MState w B c vl vb ps E FX ls) {n : Nat} (hn : 1 ≤ n) (hdet : ∀ a ∈ ls.flatten, ∀ b ∈ ls.flatten, a.id = b.id → a.dist = b.dist → a = b) :
    mergeZ n ls = (addsZ 1048576 [] ls.flatten).2.take n ∧ mergeZ n ls.reverse = (addsZ 1048576 [] ls.flatten).2.take n := by
  have hv := m.fvec
  have hl := m.flat
  have hmem : ∀ x, x ∈ ls.flatten ↔ x ∈ ls.reverse.flatten := fun x => by simp [List.mem_flatten]
  have hl2 : ls.reverse.flatten.length ≤ 72 := by
    have := flat_len (ls := ls.reverse) (n := 12) fun ms hm => m.l12 ms (List.mem_reverse.1 hm)
    have h6 := m.ln
    rw [List.length_reverse] at this
    omega
  refine ⟨by rw [mergeZ_flat]; exact adds_take hn _ hv (by omega) (by omega), ?_⟩
  rw [mergeZ_flat, adds_take (N := 1048576) hn _ (fun h hh => hv h ((hmem h).2 hh)) (by omega) (by omega), adds_same (by omega) hv (by omega) (by omega) hdet hmem]

end Go.Proofs.Ytjnkiloomdeljaa

namespace Go.Proofs.Ytjnkiloomdeljaa
open Go.RowKit

theorem intu_one {k : IntKind} {xs : List Int} : ∀ u ∈ xs.map (Value.int k), u.oneCell' = true := by
  intro u hu; obtain ⟨x, _, rfl⟩ := List.mem_map.1 hu; rfl

theorem src_takeU {w : World} {k : IntKind} {p : Option Addr} {c : Nat} {xs : List Int} (h : Nums w k (.slice p xs.length c) xs) (m : Nat) (hm : m ≤ xs.length) (e : Nat) : SrcAt (w.alloc (.cells #[] e)) p m c 1 ((xs.take m).map (Value.int k)) := by
  have s0 := (SrcAt.of_nums h).below ((Below.refl _ w).alloc (Nat.le_refl _) (.cells #[] e))
  refine ⟨by simp; omega, fun hp => ?_, fun a ha j u hj => s0.cells a ha j u ?_⟩
  · obtain ⟨h1, h2⟩ := s0.nil hp
    exact ⟨by omega, h2⟩
  · rw [List.map_take, List.getElem?_take] at hj
    split at hj
    · exact hj
    · cases hj

end Go.Proofs.Ytjnkiloomdeljaa

namespace Go.Proofs.Ytjnkiloomdeljaa
open Go.RowKit Go.ChangeMaps

def resI (L : List Hz) (E : Eg) (most : Int) (ks : List Int) : List Hz × Nat := if 1 ≤ most ∧ most ≤ 256 then resW L E most.toNat ks else ([], 0)

section
variable {w0 w : World} {f x p m c : Nat} {Q : Gr} {N : List Int} {E : Eg} {lv : Value} {L : List Hz}

theorem Fld.walksI (h : Fld w0 w f x p m c Q N E lv L) (ok : LayOk N L) (most : Int) (kv : Value) (ks : List Int) (hk : Nums w .u64 kv ks) (hk0 : ∀ k, kv.ownBlock = some k → 0 < ks.length → k < w.heap.size) :
    Calls Try.prog 10 #[.iface 26 (.pointer (some ⟨f, 0, none⟩)), .int .i64 most, kv] w (RunTells w (resI L E most ks).1 (resI L E most ks).2) := by
  unfold resI
  by_cases hm : 1 ≤ most ∧ most ≤ 256
  · rw [if_pos hm]
    have := h.walks ok most.toNat (by omega) kv ks hk hk0
    rwa [show ((most.toNat : Nat) : Int) = most by omega] at this
  · rw [if_neg hm]
    exact (walkNone w _ kv most hm).mono fun e w' hh => ⟨_, [], hh.1, World.ownsRow_nil _ _ _ _, Held3.nil _ _ _, hh.2⟩

theorem Fld.refsI (h : Fld w0 w f x p m c Q N E lv L) (ok : LayOk N L) (hE : E.length ≤ 400000) (most : Int) (kv : Value) (ks : List Int) (hk : Nums w .u64 kv ks) :
    Calls Try.prog 11 #[.pointer (some ⟨x, 0, none⟩), .int .i64 most, kv] w (RefTells w (resI L E most ks).1 (resI L E most ks).2) := by
  unfold resI
  by_cases hm : 1 ≤ most ∧ most ≤ 256
  · rw [if_pos hm]
    have := h.refs ok hE most.toNat (by omega) kv ks hk
    rwa [show ((most.toNat : Nat) : Int) = most by omega] at this
  · rw [if_neg hm]
    exact (refNone w _ kv most hm).mono fun e w' hh => ⟨_, fun _ => False, hh.1, HitsF.nil _ _, hh.2 ▸ Below.refl _ _⟩
end

set_option maxRecDepth 100000 in
set_option maxHeartbeats 8000000 in
theorem walkRuns (w : World) (F : Nat → Prop) (l : List Hz) (v : Value) (h : HitsF w F v l) (es : List (Int × Int)) (ev : Value) (he : PairsA w ev es) (most : Int) (fr : List Int) (fv : Value) (hf : Nums w .u64 fv fr) :
    Law 3 #[v, ev, .int .i64 most, fv] w := by
  have cA := Lib.hid (awake10 w)
  have HLL := Lib.hid h
  have HEE := Lib.hid he
  clear h he
  go_enter Try.func3, Try.ntmps3
  go_wp2_with fail
  (with_reducible refine cA.out.mono ?_)
  rintro e w1 ⟨rfl, hb1⟩
  have cL := Lib.hid (lawLay w1 F l v (HLL.out.below hb1) es ev (HEE.out.below hb1))
  have B1 := Lib.hid hb1
  clear hb1
  go_wp2_with fail
  (with_reducible refine cL.out.mono ?_)
  rintro e w2 ⟨f, x, p, m, c, Q, lv, rfl, hF⟩
  have OK := Lib.hid (layN_ok l)
  have LE := Lib.hid (layE_len (layN l).1 es)
  obtain ⟨NN, hNN⟩ : ∃ N, N = (layN l).1 := ⟨_, rfl⟩
  obtain ⟨LL, hLL⟩ : ∃ L, L = (layN l).2 := ⟨_, rfl⟩
  obtain ⟨EE, hEE⟩ : ∃ E, E = layE (layN l).1 es := ⟨_, rfl⟩
  rw [← hEE] at hF LE
  rw [← hNN, ← hLL] at hF OK
  have F2 := Lib.hid hF
  have hs12 := B1.out.size
  clear hNN hLL hEE hF
  have NF2 := Lib.hid (hf.below (B1.out.trans (F2.out.old.mono hs12)))
  obtain ⟨fp, fc, hfv, hcap, hbig, -, -⟩ := id NF2.out.slice
  replace hfv : fv = .slice fp fr.length fc := hfv
  subst hfv
  obtain ⟨mm, hmm⟩ : ∃ mm : Nat, (mm : Int) = min (fr.length : Int) 5 := ⟨(min (fr.length : Int) 5).toNat, by omega⟩
  have hmx : mm ≤ fr.length := by omega
  have hm5 : mm ≤ 5 := by omega
  have SRC := src_takeU NF2.out mm hmx 37
  obtain ⟨q, k, c3, w3, hrun, hown, hg, -⟩ := run_app rowU64R (own_empty w2 w2.heap.size 37 1 (Nat.le_refl _)) (by simp) SRC intu_one (by simp [maxLen]; omega) (by omega)
  obtain rfl : mm = k := ((own_len hown).trans (Nat.zero_add mm)).symm
  have hb3 : Below w2.heap.size w2 w3 := ((Below.refl _ w2).alloc (Nat.le_refl _) _).grown hg (by simp) (by simp [Value.ownBlock])
  have e5 : fr.take mm = fr.take 5 := by
    by_cases h : fr.length ≤ 5
    · rw [List.take_of_length_le (by omega), List.take_of_length_le (by omega)]
    · congr 1; omega
  have hlen : (fr.take mm).length = mm := by simp; omega
  have K3 : Nums w3 .u64 (.slice q mm c3) (fr.take 5) ∧ ∀ b, (Value.slice q mm c3).ownBlock = some b → w2.heap.size ≤ b ∧ b < w3.heap.size := by
    refine ⟨?_, fun b hb => hown.lt b hb⟩
    rw [← e5]
    exact Nums.of_own (by simpa using hown)
  have hmn : ∀ w : World, (Builtin.min_ #[3, 3] 3 #[.int .i64 fr.length, .int .i64 5]).run Try.prog w = .ok (.int .i64 mm) w := by
    intro w
    simp [Builtin.min_, Builtin.min2, hmm]
    split <;> omega
  have hm0 : (0 : Int) ≤ mm ∧ (mm : Int) ≤ fc := by omega
  have htn : ((mm : Nat) : Int).toNat = mm := Int.toNat_natCast _
  have KK := Lib.hid K3
  have F3 := Lib.hid (F2.out.below hb3)
  have B3 := Lib.hid hb3
  clear hown hg SRC e5 hlen hmm K3 hb3
  go_wp2_with (with_reducible refine wpList_append_eq hrun rfl _ _ rfl rfl rfl ?_)
  have cW := Lib.hid (F3.out.walksI OK.out most _ _ KK.out.1 fun b hb _ => (KK.out.2 b hb).2)
  obtain ⟨LR, hLR⟩ : ∃ L, L = (resI LL EE most (fr.take 5)).1 := ⟨_, rfl⟩
  obtain ⟨nR, hnR⟩ : ∃ n, n = (resI LL EE most (fr.take 5)).2 := ⟨_, rfl⟩
  have HR := Lib.hid (And.intro hLR hnR)
  rw [← hLR, ← hnR] at cW
  clear hLR hnR
  (with_reducible refine cW.out.mono ?_)
  intro e w4 hT
  obtain ⟨v4, rfl, hG, hb4⟩ := hT.got
  have F4 := Lib.hid (F3.out.below hb4)
  have cR := Lib.hid (F4.out.refsI OK.out (by have := LE.out; omega) most _ _ (KK.out.1.below hb4))
  have x4 := cellsB F4.out.fcell 1
  rw [← HR.out.1, ← HR.out.2] at cR
  have G4 := Lib.hid hG
  have B4 := Lib.hid hb4
  clear hT hG hb4
  go_wp2_with fail
  (with_reducible refine cR.out.mono ?_)
  rintro e w5 ⟨v5, FF, rfl, hG5, hb5⟩
  have G5 := Lib.hid hG5
  have B5 := Lib.hid hb5
  have cN := Lib.hid (walkNil w5 (.slice q mm c3) most)
  clear hG5 hb5
  go_wp2_with fail
  (with_reducible refine cN.out.mono ?_)
  rintro e w6 ⟨rfl, hb6⟩
  have cS := Lib.hid (sameHits_self _ _ LR _ _ w6 ((G4.out.below B5.out).below hb6) (G5.out.below hb6))
  have B6 := Lib.hid hb6
  clear hb6
  go_wp2_with fail
  (with_reducible refine cS.out.mono ?_)
  rintro e w7 ⟨rfl, hd7⟩
  have B7 : Hid (Below w.heap.size w w7) := by
    have b2 := F2.out.old
    have h1 := B1.out.size
    have h2 := b2.size
    have h3 := B3.out.size
    have h4 := B4.out.size
    have h5 := B5.out.size
    have h6 := B6.out.size
    exact B1.out.trans ((b2.mono h1).trans ((B3.out.mono (by omega)).trans ((B4.out.mono (by omega)).trans ((B5.out.mono (by omega)).trans ((B6.out.mono (by omega)).trans (hd7.below.mono (by omega)))))))
  clear hd7
  go_wp2_with fail
  go_ret
  exact ⟨rfl, B7.out⟩

end Go.Proofs.Ytjnkiloomdeljaa

namespace Go.Proofs.Ytjnkiloomdeljaa
open Go.ChangeShapes Go.WideShapes Go.ChangeAt Go.RowKit Go.Deep

section
variable {H : Type} {enc : TypeId × Value → H} {W : World}

theorem cells_twoP {a : Addr} {cs : List Value} (h : W.cells? 0 a 2 = some cs) : ∃ c0 c1, cs = [c0, c1] ∧ W.cell? (a.add 0) = some c0 ∧ W.cell? (a.add 1) = some c1 := by
  unfold World.cells? at h
  simp only [Nat.zero_le, if_true, List.range_succ, List.range_zero, List.nil_append, List.cons_append, List.mapM_cons, List.mapM_nil] at h
  cases h0 : W.cell? (a.add 0) with
  | none => rw [h0] at h; simp at h
  | some c0 =>
    cases h1 : W.cell? (a.add 1) with
    | none => rw [h0, h1] at h; simp at h
    | some c1 =>
      rw [h0, h1] at h
      simp at h
      exact ⟨c0, c1, h.symm, rfl, rfl⟩

set_option maxRecDepth 100000 in
/-- an argument that is a slice of pairs -/
theorem open_pairs {base : Nat} {v : Value} {d : DataW H} {ps : List MemPlace}
    (hok : Value.okWide Try.prog W .any base 23 v) (h : DataW.Trod enc Try.prog W 0 (fun _ => true) true 23 v d ps) :
    ∃ l, PairsA W v l := by
  obtain ⟨a0, len0, cap0, rfl⟩ := okWide_slice Try.underlying23 hok
  obtain ⟨fuel, hf⟩ := h
  have hce : Try.prog.cellsOf 56 = 2 := by kernel_rfl
  have hcu : Try.prog.cellsOf 37 = 1 := by kernel_rfl
  rcases open_slice Try.underlying23 hf with ⟨hcs, _⟩ | ⟨a, len, cap, m, n, D, Pl, hcs, _, hl, hm, hmm, _, hel⟩
  · simp [Value.cells] at hcs
    obtain ⟨rfl, rfl, rfl⟩ := hcs
    exact ⟨[], none, 0, rfl, by simp, fun i hi => absurd hi (by simp)⟩
  · simp only [if_true] at hmm
    subst hmm
    rw [hce] at hel
    have each : ∀ i, i < len → ∃ r : Int × Int, W.cell? (a.add (i * 2)) = some (.int .u64 r.1) ∧ W.cell? (a.add (i * 2 + 1)) = some (.int .u64 r.2) := by
      intro i hi
      obtain ⟨cs', hcs', htr⟩ := hel i (by omega)
      obtain ⟨c0, c1, rfl, g0, g1⟩ := cells_twoP hcs'
      obtain ⟨xs, m', _, _, _, hxl, hx⟩ := DataW.trod_array Try.underlying56 htr
      have t0 := hx 0 (by omega)
      have t1 := hx 1 (by omega)
      rw [hcu, List.getElem?_eq_getElem (by omega)] at t0 t1
      obtain ⟨z0, q0, _, w0⟩ := DataW.trod_int Try.underlying37 t0
      obtain ⟨z1, q1, _, w1⟩ := DataW.trod_int Try.underlying37 t1
      simp at q0 q1
      subst q0 q1
      rw [add_add] at g0 g1
      exact ⟨(z0, z1), by simpa using g0, g1⟩
    obtain ⟨l, hll, hp⟩ := exists_list len each
    simp [Value.cells] at hcs
    obtain ⟨rfl, rfl, rfl⟩ := hcs
    refine ⟨l, some a, cap0, by rw [hll], by simp [maxLen] at hm; omega, fun i hi => ?_⟩
    obtain ⟨g0, g1⟩ := hp i hi
    have h00 := (hp 0 (by omega)).1
    obtain ⟨b, off, spot⟩ := a
    obtain rfl : spot = none := by
      simpa [Addr.add] using World.cell?_spot h00
    rw [Addr.add_lit] at g0 g1
    exact ⟨b, off, rfl, g0, by rw [Nat.add_assoc]; exact g1⟩
end

end Go.Proofs.Ytjnkiloomdeljaa
