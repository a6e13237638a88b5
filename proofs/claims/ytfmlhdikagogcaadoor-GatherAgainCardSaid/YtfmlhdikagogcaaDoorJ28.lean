/-
  best's law: BestTwice.
  best, the plain law: with a bound is the first of without; the order in which hits come does not matter.
  The document's Sort: hits in order.
  The document's Sort, walked.
-/
import Derived.Test.YtfmlhdikagogcaaDoorJ27
import Derived.Test.YtfmlhdikagogcaaDoorJ02
namespace Go.Proofs.YtfmlhdikagogcaaDoor
open Go.RowKit
set_option maxRecDepth 20000

theorem addZ_mem {n : Nat} (hn : 1 ≤ n) {l : List Hz} (g : GoodL n l) {h x : Hz} (hx : x ∈ (addZ n l h).2) : x ∈ l ∨ x = h := by
  rcases add_cases n l h hn g.len with ⟨k, hk, hp, ⟨-, ha⟩ | ⟨-, ha⟩⟩ | ⟨hp, ⟨hne, ha⟩ | ⟨heq, hk, ⟨-, ha⟩ | ⟨-, ha⟩⟩⟩
  · rw [ha] at hx; exact .inl hx
  · rw [ha] at hx
    rcases insZ_mem.1 hx with h1 | h1
    · exact .inr h1
    · exact .inl (List.mem_of_mem_eraseIdx h1)
  · rw [ha] at hx
    rcases insZ_mem.1 hx with h1 | h1
    · exact .inr h1
    · exact .inl h1
  · rw [ha] at hx; exact .inl hx
  · rw [ha] at hx
    rcases insZ_mem.1 hx with h1 | h1
    · exact .inr h1
    · exact .inl (List.mem_of_mem_take h1)

theorem addsZ_mem {n : Nat} (hn : 1 ≤ n) {l ms : List Hz} (g : GoodL n l) (hv : ∀ h ∈ ms, h.vec.length ≤ 1000000) {x : Hz} (hx : x ∈ (addsZ n l ms).2) : x ∈ l ∨ x ∈ ms := by
  unfold addsZ at hx
  revert hx
  generalize (0 : Nat) = z
  intro hx
  induction ms generalizing z l with
  | nil => exact .inl hx
  | cons h ms ih =>
    rw [List.foldl_cons] at hx
    rcases ih (addZ_good hn g (hv h (by simp))) (fun y hy => hv y (by simp [hy])) _ hx with h1 | h1
    · rcases addZ_mem hn g h1 with h2 | rfl
      · exact .inl h2
      · exact .inr (by simp)
    · exact .inr (by simp [h1])

/-- what is there and comes again, or farther -/
def There (m : List Hz) (h : Hz) : Prop := ∃ x ∈ m, x.id = h.id ∧ x.dist ≤ h.dist

theorem ids_same {l : List Hz} (hd : Ids l) {x y : Hz} (hx : x ∈ l) (hy : y ∈ l) (h : x.id = y.id) : x = y := by
  obtain ⟨i, hi, rfl⟩ := List.mem_iff_getElem.1 hx
  obtain ⟨j, hj, rfl⟩ := List.mem_iff_getElem.1 hy
  rcases Nat.lt_trichotomy i j with h1 | rfl | h1
  · exact absurd h (List.pairwise_iff_getElem.1 hd i j hi hj h1)
  · rfl
  · exact absurd h.symm (List.pairwise_iff_getElem.1 hd j i hj hi h1)

theorem addZ_there {n : Nat} (hn : 1 ≤ n) {m : List Hz} (g : GoodL n m) {h : Hz} (ht : There m h) : addZ n m h = (false, m) := by
  obtain ⟨x, hx, hi, hd⟩ := ht
  rcases add_cases n m h hn g.len with ⟨k, hk, hp, ⟨-, ha⟩ | ⟨h1, -⟩⟩ | ⟨hp, -⟩
  · exact ha
  · have := ids_same g.ids hx (List.getElem_mem hk) (by rw [hi, posZ_in hk hp])
    subst this
    omega
  · exact absurd hi (posZ_out hp x hx)

theorem addsZ_there {n : Nat} (hn : 1 ≤ n) {m ms : List Hz} (g : GoodL n m) (ht : ∀ h ∈ ms, There m h) : addsZ n m ms = (0, m) := by
  unfold addsZ
  induction ms with
  | nil => rfl
  | cons h ms ih =>
    rw [List.foldl_cons, addZ_there hn g (ht h (by simp))]
    exact ih fun x hx => ht x (by simp [hx])

theorem there_self (m : List Hz) : ∀ h ∈ m, There m h := fun h hh => ⟨h, hh, rfl, Int.le_refl _⟩

theorem hitsZ_dist {n : Nat} {l : List Hz} (hf : ∀ r ∈ l, r.Fits) {h : Hz} (hh : h ∈ hitsZ n l) : 0 ≤ h.dist := by
  unfold hitsZ at hh
  obtain ⟨x, hx, rfl⟩ := List.mem_map.1 hh
  exact (hf x (List.mem_of_mem_take hx)).2.2.1

end Go.Proofs.YtfmlhdikagogcaaDoor

namespace Go.Proofs.YtfmlhdikagogcaaDoor
open Go.RowKit
set_option maxRecDepth 20000

theorem addZ_at {n : Nat} {l : List Hz} {h : Hz} {k : Nat} (hk : k < l.length) (hd : Ids l) (hi : l[k].id = h.id) : addZ n l h = if h.dist < l[k].dist then (true, insZ (l.eraseIdx k) h) else (false, l) := by
  unfold addZ
  rw [find_some hk (fun j hj hjk => by rw [← hi]; exact List.pairwise_iff_getElem.1 hd j k _ _ hjk) hi]
  simp only
  rw [show l.getD k h = l[k] from by simp [List.getD, List.getElem?_eq_getElem hk]]

theorem insZ_cut {L : List Hz} {h : Hz} {n : Nat} (hn : 1 ≤ n) (hr : rankZ L h ≤ n - 1) : insZ (L.take (n - 1)) h = (insZ L h).take n := by
  have hle := rankZ_le L h
  unfold insZ
  rw [rankZ_take hr, List.take_take, Nat.min_eq_left hr, List.take_append, List.take_of_length_le (l := L.take (rankZ L h)) (by rw [List.length_take]; omega), List.length_take, Nat.min_eq_left hle]
  congr 1
  obtain ⟨j, hj⟩ : ∃ j, n - rankZ L h = j + 1 := ⟨n - rankZ L h - 1, by omega⟩
  rw [hj, List.take_succ_cons, List.drop_take]
  congr 2
  omega

theorem find_id {l : List Hz} (h : Hz) : (∃ k, ∃ hk : k < l.length, l[k].id = h.id) ∨ ∀ x ∈ l, x.id ≠ h.id := by
  by_cases hx : ∃ x ∈ l, x.id = h.id
  · obtain ⟨x, hx, e⟩ := hx
    obtain ⟨k, hk, rfl⟩ := List.mem_iff_getElem.1 hx
    exact .inl ⟨k, hk, e⟩
  · exact .inr fun x hm e => hx ⟨x, hm, e⟩

theorem erase_rank {L : List Hz} (hs : Sorted L) {k : Nat} (hk : k < L.length) {h : Hz} (hn : near h L[k] = true) : rankZ (L.eraseIdx k) h ≤ k := by
  rcases Nat.lt_or_ge k (rankZ (L.eraseIdx k) h) with h1 | h1
  · have hle := rankZ_le (L.eraseIdx k) h
    have hlen := List.length_eraseIdx_of_lt hk
    have hk1 : k < (L.eraseIdx k).length := by omega
    have h2 := rankZ_below hk1 h1
    have e : (L.eraseIdx k)[k] = L[k + 1]'(by omega) := by rw [List.getElem_eraseIdx]; simp
    rw [e] at h2
    have h3 := List.pairwise_iff_getElem.1 hs k (k + 1) hk (by omega) (by omega)
    have h4 := near_trans hn h3
    rw [near_asymm h4] at h2; cases h2
  · exact h1

theorem erase_take {L : List Hz} {k n : Nat} (hk : k < L.length) (hn : k < n) : (L.take n).eraseIdx k = (L.eraseIdx k).take (n - 1) := by
  apply List.ext_getElem
  · rw [List.length_take, List.length_eraseIdx, List.length_eraseIdx, List.length_take]
    split <;> omega
  · intro i h1 h2
    rw [List.getElem_take, List.getElem_eraseIdx, List.getElem_eraseIdx]
    split <;> rw [List.getElem_take]

theorem take_erase {L : List Hz} {k n : Nat} (hk : k < L.length) (hn : n ≤ k) : (L.eraseIdx k).take n = L.take n := by
  apply List.ext_getElem
  · rw [List.length_take, List.length_eraseIdx_of_lt hk, List.length_take]; omega
  · intro i h1 h2
    rw [List.length_take] at h2
    rw [List.getElem_take, List.getElem_take, List.getElem_eraseIdx]
    simp [show i < k by omega]

theorem add_take {n N : Nat} (hn : 1 ≤ n) {L : List Hz} (hs : Sorted L) (hd : Ids L) (hN : L.length < N) (h : Hz) : (addZ n (L.take n) h).2 = (addZ N L h).2.take n := by
  rcases find_id (l := L) h with ⟨k, hk, hi⟩ | hi
  · rw [addZ_at hk hd hi]
    rcases Nat.lt_or_ge k n with hkn | hkn
    · have hk' : k < (L.take n).length := by rw [List.length_take]; omega
      rw [addZ_at hk' (hd.sublist (List.take_sublist _ _)) (by rw [List.getElem_take]; exact hi), List.getElem_take]
      split
      · rename_i hlt
        simp only
        have hr := erase_rank hs hk (h := h) (by simp [near, nearB, hlt])
        rw [erase_take hk hkn, insZ_cut hn (by omega)]
      · rfl
    · have hnl : n - 1 < L.length := by omega
      have hi' : ∀ x ∈ L.take n, x.id ≠ h.id := by
        intro x hx
        obtain ⟨j, hj, rfl⟩ := List.mem_iff_getElem.1 hx
        rw [List.length_take] at hj
        rw [List.getElem_take, ← hi]
        exact List.pairwise_iff_getElem.1 hd j k _ _ (by omega)
      split
      · simp only
        rw [← take_erase hk hkn]
        exact cut_add hn (hs.sublist (List.eraseIdx_sublist _ _)) fun x hx => by rw [← hi]; exact erase_ids hd hk x hx
      · rename_i hlt
        simp only
        rw [addZ_new hi', if_pos (by rw [List.length_take]; omega)]
        rw [show (L.take n).getD (n - 1) h = L[n - 1] from by simp [List.getD, List.getElem?_take, show n - 1 < n by omega, List.getElem?_eq_getElem hnl]]
        have h1 := List.pairwise_iff_getElem.1 hs (n - 1) k hnl hk (by omega)
        cases hc : near h L[n - 1]
        · simp
        · have h2 := near_trans hc h1
          simp only [near, nearB, Bool.or_eq_true, Bool.and_eq_true, decide_eq_true_eq] at h2
          omega
  · rw [cut_add hn hs hi, addZ_new hi, if_neg (by omega)]

theorem addZ_len (n : Nat) (l : List Hz) (h : Hz) : (addZ n l h).2.length ≤ l.length + 1 := by
  unfold addZ
  split
  · split
    · have := List.length_eraseIdx_le l (by assumption)
      simp only [insZ_length]; omega
    · simp
  · split
    · split
      · simp only [insZ_length, List.length_take]; omega
      · simp
    · simp only [insZ_length]; omega

theorem addsZ_two (n : Nat) (l ms : List Hz) : (addsZ n l ms).2 = ms.foldl (fun l h => (addZ n l h).2) l := by
  unfold addsZ
  generalize 0 = c
  induction ms generalizing c l with
  | nil => rfl
  | cons h ms ih => rw [List.foldl_cons, List.foldl_cons]; exact ih _ _

theorem mergeZ_flat (n : Nat) (ls : List (List Hz)) : mergeZ n ls = (addsZ n [] ls.flatten).2 := by
  rw [addsZ_two, List.foldl_flatten]
  unfold mergeZ
  simp only [addsZ_two]

theorem adds_len (N : Nat) (ms : List Hz) : (addsZ N [] ms).2.length ≤ ms.length := by
  rw [addsZ_two]
  have : ∀ l : List Hz, (ms.foldl (fun l h => (addZ N l h).2) l).length ≤ l.length + ms.length := by
    induction ms with
    | nil => simp
    | cons h ms ih =>
      intro l
      rw [List.foldl_cons, List.length_cons]
      have := ih (addZ N l h).2
      have := addZ_len N l h
      omega
  simpa using this []

theorem adds_take {n N : Nat} (hn : 1 ≤ n) (ms : List Hz) (hx : ∀ h ∈ ms, h.vec.length ≤ 1000000) (hN : ms.length ≤ N) (hN1 : 1 ≤ N) : (addsZ n [] ms).2 = (addsZ N [] ms).2.take n := by
  have : ∀ k, k ≤ ms.length → (addsZ n [] (ms.take k)).2 = (addsZ N [] (ms.take k)).2.take n := by
    intro k
    induction k with
    | zero => intro _; simp [addsZ_nil]
    | succ k ih =>
      intro hk
      have hk' : k < ms.length := by omega
      have g := addsZ_good (most := N) hN1 (GoodL.nil N) (ms.take k) fun h hh => hx h (List.mem_of_mem_take hh)
      have hl := adds_len N (ms.take k)
      rw [List.length_take] at hl
      rw [take_snoc ms k hk', addsZ_snoc, addsZ_snoc]
      simp only
      rw [ih (by omega)]
      exact add_take hn g.sorted g.ids (by omega) _
  have := this ms.length (Nat.le_refl _)
  rwa [List.take_length] at this

theorem There.add {N : Nat} {L : List Hz} (hd : Ids L) (hN : L.length < N) {g : Hz} (h : There L g) (x : Hz) : There (addZ N L x).2 g := by
  obtain ⟨y, hy, hyi, hyd⟩ := h
  rcases find_id (l := L) x with ⟨k, hk, hi⟩ | hi
  · rw [addZ_at hk hd hi]
    split
    · rename_i hlt
      by_cases hc : y.id = x.id
      · have : y = L[k] := ids_same hd hy (List.getElem_mem hk) (by rw [hc, hi])
        subst this
        exact ⟨x, insZ_mem.2 (.inl rfl), by rw [← hi]; exact hyi, by omega⟩
      · refine ⟨y, insZ_mem.2 (.inr ?_), hyi, hyd⟩
        obtain ⟨j, hj, rfl⟩ := List.mem_iff_getElem.1 hy
        exact List.mem_eraseIdx_iff_getElem.2 ⟨j, hj, fun e => by subst e; exact hc hi, rfl⟩
    · exact ⟨y, hy, hyi, hyd⟩
  · rw [addZ_new hi, if_neg (by omega)]
    exact ⟨y, insZ_mem.2 (.inr hy), hyi, hyd⟩

theorem There.self {N : Nat} {L : List Hz} (hd : Ids L) (hN : L.length < N) (x : Hz) : There (addZ N L x).2 x := by
  rcases find_id (l := L) x with ⟨k, hk, hi⟩ | hi
  · rw [addZ_at hk hd hi]
    split
    · exact ⟨x, insZ_mem.2 (.inl rfl), rfl, Int.le_refl _⟩
    · exact ⟨L[k], List.getElem_mem hk, hi, by omega⟩
  · rw [addZ_new hi, if_neg (by omega)]
    exact ⟨x, insZ_mem.2 (.inl rfl), rfl, Int.le_refl _⟩

theorem adds_there {N : Nat} (ms : List Hz) (hx : ∀ h ∈ ms, h.vec.length ≤ 1000000) (hN : ms.length ≤ N) (hN1 : 1 ≤ N) : ∀ g ∈ ms, There (addsZ N [] ms).2 g := by
  have : ∀ k, k ≤ ms.length → ∀ g ∈ ms.take k, There (addsZ N [] (ms.take k)).2 g := by
    intro k
    induction k with
    | zero => intro _ g hg; simp at hg
    | succ k ih =>
      intro hk g hg
      have hk' : k < ms.length := by omega
      have gd := addsZ_good (most := N) hN1 (GoodL.nil N) (ms.take k) fun h hh => hx h (List.mem_of_mem_take hh)
      have hl := adds_len N (ms.take k)
      rw [List.length_take] at hl
      rw [take_snoc ms k hk'] at hg ⊢
      rw [addsZ_snoc]
      simp only
      rcases List.mem_append.1 hg with hg | hg
      · exact (ih (by omega) g hg).add gd.ids (by omega) _
      · rw [List.mem_singleton.1 hg]
        exact There.self gd.ids (by omega) _
  have := this ms.length (Nat.le_refl _)
  rwa [List.take_length] at this

/-- two in order with the same hits are the same -/
theorem sorted_ext {l m : List Hz} (hl : Sorted l) (hm : Sorted m) (h : ∀ x, x ∈ l ↔ x ∈ m) : l = m := by
  induction l generalizing m with
  | nil =>
    cases m with
    | nil => rfl
    | cons b m => exact absurd ((h b).2 (by simp)) (by simp)
  | cons a l ih =>
    cases m with
    | nil => exact absurd ((h a).1 (by simp)) (by simp)
    | cons b m =>
      have h1 := List.pairwise_cons.1 hl
      have h2 := List.pairwise_cons.1 hm
      have hab : a = b := by
        rcases List.mem_cons.1 ((h a).1 (by simp)) with e | e
        · exact e
        · rcases List.mem_cons.1 ((h b).2 (by simp)) with e' | e'
          · exact e'.symm
          · have h3 := h1.1 b e'
            rw [near_asymm (h2.1 a e)] at h3; cases h3
      subst hab
      rw [ih h1.2 h2.2 fun x => ?_]
      constructor
      · intro hx
        rcases List.mem_cons.1 ((h x).1 (List.mem_cons_of_mem _ hx)) with e | e
        · subst e
          have := h1.1 x hx
          rw [near_irrefl] at this; cases this
        · exact e
      · intro hx
        rcases List.mem_cons.1 ((h x).2 (List.mem_cons_of_mem _ hx)) with e | e
        · subst e
          have := h2.1 x hx
          rw [near_irrefl] at this; cases this
        · exact e

theorem adds_same {N : Nat} (hN1 : 1 ≤ N) {ms ms' : List Hz} (hx : ∀ h ∈ ms, h.vec.length ≤ 1000000) (hN : ms.length ≤ N) (hN' : ms'.length ≤ N) (hdet : ∀ a ∈ ms, ∀ b ∈ ms, a.id = b.id → a.dist = b.dist → a = b) (hm : ∀ x, x ∈ ms ↔ x ∈ ms') :
    (addsZ N [] ms).2 = (addsZ N [] ms').2 := by
  have hx' : ∀ h ∈ ms', h.vec.length ≤ 1000000 := fun h hh => hx h ((hm h).2 hh)
  have g := addsZ_good (most := N) hN1 (GoodL.nil N) ms hx
  have g' := addsZ_good (most := N) hN1 (GoodL.nil N) ms' hx'
  have half : ∀ aa bs : List Hz, (∀ h ∈ aa, h.vec.length ≤ 1000000) → aa.length ≤ N → bs.length ≤ N → (∀ x, x ∈ aa ↔ x ∈ bs) → (∀ a ∈ aa, ∀ b ∈ aa, a.id = b.id → a.dist = b.dist → a = b) → ∀ x, x ∈ (addsZ N [] aa).2 → x ∈ (addsZ N [] bs).2 := by
    intro aa bs ha hn hn' he hdt x hxm
    have hb : ∀ h ∈ bs, h.vec.length ≤ 1000000 := fun h hh => ha h ((he h).2 hh)
    have ga := addsZ_good (most := N) hN1 (GoodL.nil N) aa ha
    have hxa : x ∈ aa := by
      rcases addsZ_mem hN1 (GoodL.nil N) ha hxm with h | h
      · simp at h
      · exact h
    obtain ⟨y, hy, hyi, hyd⟩ := adds_there bs hb hn' hN1 x ((he x).1 hxa)
    have hyb : y ∈ bs := by
      rcases addsZ_mem hN1 (GoodL.nil N) hb hy with h | h
      · simp at h
      · exact h
    have hya := (he y).2 hyb
    obtain ⟨z, hz, hzi, hzd⟩ := adds_there aa ha hn hN1 y hya
    have : z = x := ids_same ga.ids hz hxm (by rw [hzi, hyi])
    subst this
    have := hdt y hya z hxa hyi (by omega)
    subst this
    exact hy
  refine sorted_ext g.sorted g'.sorted fun x => ⟨half ms ms' hx hN hN' hm hdet x, half ms' ms hx' hN' hN (fun x => (hm x).symm) (fun a ha b hb => hdet a ((hm a).2 ha) b ((hm b).2 hb)) x⟩

end Go.Proofs.YtfmlhdikagogcaaDoor

namespace Go.Proofs.YtfmlhdikagogcaaDoor
open Go.RowKit
set_option maxRecDepth 20000

/-- how many are nearer -/
def aheadZ (l : List Hz) (h : Hz) : Nat := l.countP fun x => near x h

theorem ahead_at {m : List Hz} (hs : Sorted m) {i : Nat} (hi : i < m.length) : aheadZ m m[i] = i := by
  unfold aheadZ
  have e : m = m.take i ++ m.drop i := (List.take_append_drop i m).symm
  have h1 : (m.take i).countP (fun x => near x m[i]) = i := by
    rw [List.countP_eq_length.2 fun x hx => ?_, List.length_take]
    · omega
    · obtain ⟨j, hj, rfl⟩ := List.mem_iff_getElem.1 hx
      rw [List.length_take] at hj
      rw [List.getElem_take]
      exact List.pairwise_iff_getElem.1 hs j i _ hi (by omega)
  have h2 : (m.drop i).countP (fun x => near x m[i]) = 0 := by
    rw [List.countP_eq_zero]
    intro x hx
    obtain ⟨j, hj, rfl⟩ := List.mem_iff_getElem.1 hx
    rw [List.getElem_drop]
    rw [List.length_drop] at hj
    by_cases e : i = i + j
    · have e0 : j = 0 := by omega
      subst e0
      simp [near_irrefl]
    · have := List.pairwise_iff_getElem.1 hs i (i + j) hi (by omega) (by omega)
      simp [near_asymm this]
  calc m.countP (fun x => near x m[i]) = (m.take i ++ m.drop i).countP (fun x => near x m[i]) := by rw [← e]
    _ = i := by rw [List.countP_append, h1, h2]; rfl

theorem ahead_perm {l m : List Hz} (hp : m.Perm l) (h : Hz) : aheadZ l h = aheadZ m h := (hp.countP_eq _).symm

theorem ahead_of {l m : List Hz} (hs : Sorted m) (hp : m.Perm l) {j : Nat} (hj : j < l.length) : ∃ h : aheadZ l l[j] < m.length, m[aheadZ l l[j]] = l[j] := by
  obtain ⟨i, hi, e⟩ := List.mem_iff_getElem.1 (hp.mem_iff.2 (List.getElem_mem hj))
  have : aheadZ l l[j] = i := by rw [← e, ahead_perm hp, ahead_at hs hi]
  simp only [this]
  exact ⟨hi, e⟩

/-- what the document counts, up to k -/
theorem ahead_step {l : List Hz} (hd : Ids l) {i k : Nat} (hi : i < l.length) (hk : k < l.length) : ((l.take (k + 1)).countP fun x => near x l[i]) = ((l.take k).countP fun x => near x l[i]) + (if near l[k] l[i] = true then 1 else 0) := by
  rw [take_snoc l k hk, List.countP_append, List.countP_singleton]

theorem setAt_flat3 (rs : List Hv) (i : Nat) (hi : i < rs.length) (r : Hv) : setAt (flat3 rs) (i * 3) [.int .u64 r.id, .int .u64 r.dist, r.vec] = flat3 (rs.set i r) := by
  simp only [setAt]
  induction rs generalizing i with
  | nil => simp at hi
  | cons a rs ih =>
    cases i with
    | zero => simp [flat3]
    | succ i =>
      have := ih i (by simpa using hi)
      rw [show (i + 1) * 3 = i * 3 + 1 + 1 + 1 by omega]
      simpa [flat3] using this

theorem made_flat3 (n : Nat) : (madeCells (.agg #[.int .u64 0, .int .u64 0, .slice none 0 0] : Value).cells (n * 3)).toList = flat3 (List.replicate n ⟨0, 0, .slice none 0 0⟩) := by
  apply List.ext_getElem
  · simp [madeCells, flat3_length]
  · intro i h1 h2
    rw [flat3_length, List.length_replicate] at h2
    have hf := flat3_get (List.replicate n (⟨0, 0, .slice none 0 0⟩ : Hv)) (i / 3) (by simp; omega)
    simp only [List.getElem_replicate] at hf
    have hm : i % 3 = 0 ∨ i % 3 = 1 ∨ i % 3 = 2 := by omega
    have hc : ((.agg #[.int .u64 0, .int .u64 0, .slice none 0 0] : Value).cells).size = 3 := rfl
    have h2' : i < (flat3 (List.replicate n (⟨0, 0, .slice none 0 0⟩ : Hv))).length := by rw [flat3_length, List.length_replicate]; omega
    have hg : (flat3 (List.replicate n (⟨0, 0, .slice none 0 0⟩ : Hv)))[i]? = some (flat3 (List.replicate n (⟨0, 0, .slice none 0 0⟩ : Hv)))[i] := List.getElem?_eq_getElem h2'
    simp only [madeCells, Array.getElem_toList, Array.getElem_map, Array.getElem_range, hc]
    rcases hm with hm | hm | hm
    · have e : i / 3 * 3 = i := by omega
      rw [e, hg] at hf
      rw [Option.some.inj hf.1, hm]; rfl
    · have e : i / 3 * 3 + 1 = i := by omega
      rw [e, hg] at hf
      rw [Option.some.inj hf.2.1, hm]; rfl
    · have e : i / 3 * 3 + 1 + 1 = i := by omega
      rw [e, hg] at hf
      rw [Option.some.inj hf.2.2, hm]; rfl

/-- what was put so far stands where it belongs -/
def PutS (l : List Hz) (rl rs : List Hv) (k : Nat) : Prop := rs.length = l.length ∧ ∀ j (hj : j < l.length) (hj' : j < rl.length), j < k → rs[aheadZ l l[j]]? = some rl[j]

theorem PutS.next {l m : List Hz} {rl rs : List Hv} {k : Nat} (hs : Sorted m) (hp : m.Perm l) (hd : Ids l) (h : PutS l rl rs k) (hk : k < l.length) (hk' : k < rl.length) : PutS l rl (rs.set (aheadZ l l[k]) rl[k]) (k + 1) := by
  obtain ⟨h1, h2⟩ := h
  refine ⟨by simp [h1], fun j hj hj' hjk => ?_⟩
  obtain ⟨a1, a2⟩ := ahead_of hs hp hk
  by_cases e : j = k
  · subst e
    rw [List.getElem?_set_self (by rw [h1, ← hp.length_eq]; exact a1)]
  · have hne : aheadZ l l[k] ≠ aheadZ l l[j] := by
      intro e'
      obtain ⟨b1, b2⟩ := ahead_of hs hp hj
      have e3 : l[j] = l[k] := by rw [← b2, ← a2]; congr 1; exact e'.symm
      rcases Nat.lt_or_ge j k with h | h
      · exact List.pairwise_iff_getElem.1 hd j k hj hk h (by rw [e3])
      · exact List.pairwise_iff_getElem.1 hd k j hk hj (by omega) (by rw [e3])
    rw [List.getElem?_set_ne hne]
    exact h2 j hj hj' (by omega)

theorem PutS.rows {w : World} {F : Nat → Prop} {l m : List Hz} {rl rs : List Hv} (hs : Sorted m) (hp : m.Perm l) (h : PutS l rl rs l.length) (hr : Rows3 w F rl l) : Rows3 w F rs m := by
  obtain ⟨h1, h2⟩ := h
  refine ⟨by rw [h1, hp.length_eq], fun i i1 i2 => ?_⟩
  obtain ⟨j, hj, e⟩ := List.mem_iff_getElem.1 (hp.mem_iff.1 (List.getElem_mem i2))
  have hj' : j < rl.length := by rw [hr.len]; exact hj
  have h3 := h2 j hj hj' hj
  rw [e, ahead_perm hp, ahead_at hs i2, List.getElem?_eq_getElem i1] at h3
  rw [Option.some.inj h3, ← e]
  exact hr.each j hj' hj

end Go.Proofs.YtfmlhdikagogcaaDoor

namespace Go.Proofs.YtfmlhdikagogcaaDoor
open Go.RowKit
set_option maxRecDepth 20000

/-- hits in order: what is read is the call's own, and F -/
def SortTo (w : World) (F : Nat → Prop) (m : List Hz) (e : Ending) (w' : World) : Prop :=
  ∃ v, e = .returned v ∧ HitsF w' (Plus F w w') v m ∧ Below w.heap.size w w'

set_option maxHeartbeats 4000000 in
theorem sort (l m : List Hz) (hs : Sorted m) (hd : Ids l) (hp : m.Perm l) (hn : l.length ≤ 1000000) (v : Value) (F : Nat → Prop) (w : World) (h : HitsF w F v l) :
    Calls Tryd.prog 12 #[v] w (SortTo w F m) := by
  obtain ⟨p, cap, rfl, -, -, -, -⟩ := id h
  obtain ⟨rl, hrl, -, hel⟩ := h.rows
  have H := Lib.hid (And.intro h (And.intro hrl hel))
  have O := Lib.hid (And.intro hs (And.intro hp hd))
  have hlen := hrl.len
  obtain ⟨i0, hi0, hz0, hz1, hz2⟩ := info_parts rowHit.info
  obtain ⟨w1, hmk, hown1, hg1⟩ := run_make_full (P := Tryd.prog) w w.heap.size 35 40 i0 _ 3 rowHit.ty hi0 hz0 hz1 .i64 .i64 l.length (by rw [hz2]; omega) (by simp [maxLen]; omega) (Nat.le_refl _)
  rw [made_flat3] at hown1
  have M := Lib.hid (And.intro hown1 ((Below.refl w.heap.size w).grown hg1 (Nat.le_refl _) (by simp)))
  clear h hs hp hd hrl hel hi0 hz0 hz1 hz2 hown1 hg1
  go_enter Tryd.func12, Tryd.ntmps12
  go_wp2_with fail
  clear hmk
  go_loopg [14] l.length (fun q' i wr => ∃ (k : Nat) (rs : List Hv), q' = l.length - k ∧ k ≤ l.length ∧ i = .int .i64 k ∧ wr.ownsRow w.heap.size 40 3 (.slice (some ⟨w.heap.size, 0, none⟩) l.length l.length) l.length (flat3 rs) ∧ PutS l rl rs k ∧ Below w.heap.size w wr)
  case atStart => exact ⟨0, _, rfl, by omega, rfl, M.out.1, ⟨by simp, fun j hj hj' h => absurd h (by omega)⟩, M.out.2⟩
  case round =>
    obtain ⟨k, rs, rfl, hk, rfl, hown, hput, hb⟩ := hrel
    by_cases hlt : k < l.length
    · obtain ⟨b, off, up, uc, hkr, rfl, -, hrk, c0, c1, c2, -, -⟩ := H.out.2.2 k hlt
      replace c0 := below_cells hb c0
      replace c1 := below_cells hb c1
      replace c2 := below_cells hb c2
      have K := Lib.hid (And.intro hown (And.intro hput (And.intro hb hrk)))
      have hsz := hb.size
      clear hown hput hb hrk
      obtain ⟨wo, rfl⟩ : ∃ wo : World, wo = wr := ⟨_, rfl⟩
      go_wp2_with fail
      have BO := Lib.hid ((Below.refl wo.heap.size wo).alloc (Nat.le_refl _) (Obj.cells #[Value.int IntKind.u64 l[k].id, Value.int IntKind.u64 l[k].dist, Value.slice up l[k].vec.length uc] 40))
      go_loopg [6, 21] l.length (fun q' cnt i wr => ∃ j : Nat, q' = l.length - j ∧ j ≤ l.length ∧ i = .int .i64 j ∧ cnt = .int .i64 ((l.take j).countP fun x => near x l[k]) ∧ Below (wo.alloc (Obj.cells #[Value.int IntKind.u64 l[k].id, Value.int IntKind.u64 l[k].dist, Value.slice up l[k].vec.length uc] 40)).heap.size (wo.alloc (Obj.cells #[Value.int IntKind.u64 l[k].id, Value.int IntKind.u64 l[k].dist, Value.slice up l[k].vec.length uc] 40)) wr)
      case atStart => exact ⟨0, rfl, by omega, rfl, rfl, Below.refl _ _⟩
      case round =>
        obtain ⟨j, rfl, hj, rfl, rfl, hbi⟩ := hrel
        have y0 := below_cells hbi (a := ⟨wo.heap.size, 0, none⟩) (v := .int .u64 l[k].id) (by go_simp)
        have y1 := below_cells hbi (a := ⟨wo.heap.size, 1, none⟩) (v := .int .u64 l[k].dist) (by go_simp)
        have y2 := below_cells hbi (a := ⟨wo.heap.size, 2, none⟩) (v := .slice up l[k].vec.length uc) (by go_simp)
        have yb : wo.heap.size < wr.heap.size := lt_of_cell y0
        by_cases hlj : j < l.length
        · obtain ⟨b', off', up', uc', -, hp', -, -, d0, d1, d2, -, -⟩ := H.out.2.2 j hlj
          obtain ⟨rfl, rfl⟩ : b = b' ∧ off = off' := by simpa using hp'
          have hbw := K.out.2.2.1.trans ((BO.out.trans (hbi.mono BO.out.size)).mono hsz)
          replace d0 := below_cells hbw d0
          replace d1 := below_cells hbw d1
          replace d2 := below_cells hbw d2
          have BI := Lib.hid hbi
          have hst := ahead_step O.out.2.2 hlt hlj
          have hc1 : ((l.take j).countP fun x => near x l[k]) ≤ j := Nat.le_trans List.countP_le_length (by rw [List.length_take]; omega)
          have z0 : (wr.alloc (Obj.cells #[Value.int IntKind.u64 l[j].id, Value.int IntKind.u64 l[j].dist, Value.slice up' l[j].vec.length uc'] 40)).cell? ⟨wr.heap.size, 0, none⟩ = some (.int .u64 l[j].id) := by go_simp
          have z1 : (wr.alloc (Obj.cells #[Value.int IntKind.u64 l[j].id, Value.int IntKind.u64 l[j].dist, Value.slice up' l[j].vec.length uc'] 40)).cell? ⟨wr.heap.size, 1, none⟩ = some (.int .u64 l[j].dist) := by go_simp
          have z2 : (wr.alloc (Obj.cells #[Value.int IntKind.u64 l[j].id, Value.int IntKind.u64 l[j].dist, Value.slice up' l[j].vec.length uc'] 40)).cell? ⟨wr.heap.size, 2, none⟩ = some (.slice up' l[j].vec.length uc') := by go_simp
          have BJ := Lib.hid ((Below.refl wr.heap.size wr).alloc (Nat.le_refl _) (Obj.cells #[Value.int IntKind.u64 l[j].id, Value.int IntKind.u64 l[j].dist, Value.slice up' l[j].vec.length uc'] 40))
          have t0 := below_cells BJ.out y0
          have t1 := below_cells BJ.out y1
          have t2 := below_cells BJ.out y2
          have k0 : (0 : Int) ≤ (j : Int) := by omega
          have k1 : (j : Int) < (l.length : Int) := by omega
          clear hbi hp' hbw
          cases hq : near l[j] l[k]
          · have NB := Lib.hid (show nearB l[j].id l[j].dist l[k].id l[k].dist = false from hq)
            rw [hq, if_neg (by simp)] at hst
            have ST := Lib.hid hst
            by_cases hjk : j = k
            · have NB2 := Lib.hid (show nearB l[k].id l[k].dist l[j].id l[j].dist = false from by subst hjk; exact near_irrefl l[j])
              have hlk : decide (j < k) = false := decide_eq_false (by omega)
              clear hq hst hjk
              go_wp2_with fail
              refine (refNearer l[j].id l[j].dist l[k].id l[k].dist _ _ _).mono ?_
              rintro e w4 ⟨rfl, hb4⟩
              replace y0 := below_cells hb4 t0
              replace y1 := below_cells hb4 t1
              replace y2 := below_cells hb4 t2
              replace z0 := below_cells hb4 z0
              replace z1 := below_cells hb4 z1
              replace z2 := below_cells hb4 z2
              have B4 := Lib.hid (BJ.out.trans (hb4.mono BJ.out.size))
              clear t0 t1 t2 hb4 d0 d1 d2
              rw [NB.out]
              go_wp2_with fail
              refine (refNearer l[k].id l[k].dist l[j].id l[j].dist _ _ _).mono ?_
              rintro e w5 ⟨rfl, hb5⟩
              have B5 := Lib.hid (B4.out.trans (hb5.mono B4.out.size))
              clear hb5
              rw [NB2.out]
              go_wp2_with fail
              go_roundg (l.length - (j + 1))
              case measure => omega
              case rel => exact ⟨j + 1, rfl, by omega, by go_num, by rw [ST.out]; rfl, BI.out.trans (B5.out.mono BI.out.size)⟩
            · have NB2 := Lib.hid (show nearB l[k].id l[k].dist l[j].id l[j].dist = true from by
                rcases near_total (a := l[j]) (b := l[k]) (fun e => by
                  rcases Nat.lt_or_ge j k with h | h
                  · exact List.pairwise_iff_getElem.1 O.out.2.2 j k hlj hlt h e
                  · exact List.pairwise_iff_getElem.1 O.out.2.2 k j hlt hlj (by omega) e.symm) with h | h
                · rw [hq] at h; cases h
                · exact h)
              clear hq hst hjk
              go_wp2_with fail
              refine (refNearer l[j].id l[j].dist l[k].id l[k].dist _ _ _).mono ?_
              rintro e w4 ⟨rfl, hb4⟩
              replace y0 := below_cells hb4 t0
              replace y1 := below_cells hb4 t1
              replace y2 := below_cells hb4 t2
              replace z0 := below_cells hb4 z0
              replace z1 := below_cells hb4 z1
              replace z2 := below_cells hb4 z2
              have B4 := Lib.hid (BJ.out.trans (hb4.mono BJ.out.size))
              clear t0 t1 t2 hb4 d0 d1 d2
              rw [NB.out]
              go_wp2_with fail
              refine (refNearer l[k].id l[k].dist l[j].id l[j].dist _ _ _).mono ?_
              rintro e w5 ⟨rfl, hb5⟩
              have B5 := Lib.hid (B4.out.trans (hb5.mono B4.out.size))
              clear hb5
              rw [NB2.out]
              go_wp2_with fail
              go_roundg (l.length - (j + 1))
              case measure => omega
              case rel => exact ⟨j + 1, rfl, by omega, by go_num, by rw [ST.out]; rfl, BI.out.trans (B5.out.mono BI.out.size)⟩
          · have NB := Lib.hid (show nearB l[j].id l[j].dist l[k].id l[k].dist = true from hq)
            rw [hq, if_pos rfl] at hst
            have ST := Lib.hid hst
            clear hq hst
            go_wp2_with fail
            refine (refNearer l[j].id l[j].dist l[k].id l[k].dist _ _ _).mono ?_
            rintro e w4 ⟨rfl, hb4⟩
            replace y0 := below_cells hb4 t0
            replace y1 := below_cells hb4 t1
            replace y2 := below_cells hb4 t2
            replace z0 := below_cells hb4 z0
            replace z1 := below_cells hb4 z1
            replace z2 := below_cells hb4 z2
            have B4 := Lib.hid (BJ.out.trans (hb4.mono BJ.out.size))
            clear t0 t1 t2 hb4 d0 d1 d2
            rw [NB.out]
            go_wp2_with fail
            go_wp2_with fail
            go_roundg (l.length - (j + 1))
            case measure => omega
            case rel => exact ⟨j + 1, rfl, by omega, by go_num, by rw [ST.out]; rfl, BI.out.trans (B4.out.mono BI.out.size)⟩
        · obtain rfl : j = l.length := by omega
          rw [List.take_length]
          obtain ⟨r1, -⟩ := ahead_of O.out.1 O.out.2.1 hlt
          rw [O.out.2.1.length_eq] at r1
          rw [show (l.countP fun x => near x l[k]) = aheadZ l l[k] from rfl]
          have PN := Lib.hid (K.out.2.1.next O.out.1 O.out.2.1 O.out.2.2 hlt hkr)
          rw [K.out.2.2.2] at PN
          have BF := Lib.hid ((BO.out.trans (hbi.mono BO.out.size)))
          have hrs := K.out.2.1.1
          generalize aheadZ l l[k] = r at *
          have hth := own_there (own_below K.out.1 BF.out) rfl (r * 3) 3 (by omega)
          have hone : (#[.int .u64 l[k].id, .int .u64 l[k].dist, .slice up l[k].vec.length uc] : Array Value).all (·.oneCell') = true := by simp [Value.oneCell']
          have r0 : (0 : Int) ≤ (r : Int) := by omega
          have r2 : (r : Int) < (l.length : Int) := by omega
          clear hbi r1
          go_wp2_with (refine wpList_store_mid rfl 40 _ _ rfl w.heap.size (r * 3) #[.int .u64 l[k].id, .int .u64 l[k].dist, .slice up l[k].vec.length uc] (by rfl) (by rfl) (by exact hth) (by kernel_rfl) (by exact hone) ?_)
          go_roundg (l.length - (k + 1))
          case measure => omega
          case rel =>
            have hsc := own_setCells (g := w.heap.size) rfl [.int .u64 l[k].id, .int .u64 l[k].dist, .slice up l[k].vec.length uc] (r * 3) _ _ (own_below K.out.1 BF.out) (by simp; omega)
            have e := setAt_flat3 rs r (by omega) ⟨l[k].id, l[k].dist, .slice up l[k].vec.length uc⟩
            simp only at e
            rw [e] at hsc
            refine ⟨k + 1, _, rfl, by omega, by go_num, hsc, PN.out, ?_⟩
            exact (K.out.2.2.1.trans (BF.out.mono hsz)).grown (grownBy_setCells _ _ _ _) (by have := BF.out.size; omega) (fun b hb => by cases hb; exact Nat.le_refl _)
    · obtain rfl : k = l.length := by omega
      have hr := (H.out.2.1.below hb).mono (fun k hk => show Plus F w wr k from .inl hk)
      have hfin := HitsF.of_own (F := Plus F w wr) (n := l.length) hown (fun b hb => .inr (hown.lt b hb)) (hput.rows O.out.1 O.out.2.1 hr)
      have FI := Lib.hid (And.intro hfin hb)
      clear hown hput hb hr hfin
      go_wp2_with fail
      go_ret
      exact ⟨_, rfl, FI.out.1, FI.out.2⟩

end Go.Proofs.YtfmlhdikagogcaaDoor
