/-
  best, the plain law: with a bound is the first of without; the order in which hits come does not matter.
  The document's Sort: hits in order.
  The document's Sort, walked.
  best's document: all but one; the worst.
  best's document: a list in memory; its worst.
  A region that draws its order and ends with a store: what is held through the region need not hold behind the last operation.
  best's document: one is added.
-/
import Derived.Test.YtfmlhdikagogcaaDoorJ19
import Derived.Test.YtfmlhdikagogcaaDoorJ02
namespace Go.Proofs.YtfmlhdikagogcaaDoor
open Go.RowKit
set_option maxRecDepth 20000

theorem addZ_at {n : Nat} {l : List Hz} {h : Hz} {k : Nat} (hk : k < l.length) (hd : Ids l) (hi : l[k].id = h.id) : addZ n l h = if h.dist < l[k].dist then (true, insZ (l.eraseIdx k) h) else (false, l) := by
  unfold addZ
  rw [find_some hk (fun j hj hjk => by rw [← hi]; exact List.pairwise_iff_getElem.1 hd j k _ _ hjk) hi]
  simp only
  rw [show l.getD k h = l[k] from by simp [List.getD, List.getElem?_eq_getElem hk]]

theorem insZ_cut {L : List Hz} {h : Hz} {n : Nat} (hn : 1 ≤ n) (hr : rankZ L h ≤ n - 1) : insZ (L.take (n - 1)) h = (insZ L h).take n := by
  have hle := rankZ_le L h
  unfold insZ
  rw [rankZ_take hr, List.take_take, Nat.min_eq_left hr, List.take_append, List.take_of_length_le (l := L.take (rankZ L h)) (by rw [List.length_take]; omega), List.length_take, Nat.min_eq_left hle]
  congr 1
  obtain ⟨j, hj⟩ : ∃ j, n - rankZ L h = j + 1 := ⟨n - rankZ L h - 1, by omega⟩
  rw [hj, List.take_succ_cons, List.drop_take]
  congr 2
  omega

theorem find_id {l : List Hz} (h : Hz) : (∃ k, ∃ hk : k < l.length, l[k].id = h.id) ∨ ∀ x ∈ l, x.id ≠ h.id := by
  by_cases hx : ∃ x ∈ l, x.id = h.id
  · obtain ⟨x, hx, e⟩ := hx
    obtain ⟨k, hk, rfl⟩ := List.mem_iff_getElem.1 hx
    exact .inl ⟨k, hk, e⟩
  · exact .inr fun x hm e => hx ⟨x, hm, e⟩

theorem erase_rank {L : List Hz} (hs : Sorted L) {k : Nat} (hk : k < L.length) {h : Hz} (hn : near h L[k] = true) : rankZ (L.eraseIdx k) h ≤ k := by
  rcases Nat.lt_or_ge k (rankZ (L.eraseIdx k) h) with h1 | h1
  · have hle := rankZ_le (L.eraseIdx k) h
    have hlen := List.length_eraseIdx_of_lt hk
    have hk1 : k < (L.eraseIdx k).length := by omega
    have h2 := rankZ_below hk1 h1
    have e : (L.eraseIdx k)[k] = L[k + 1]'(by omega) := by rw [List.getElem_eraseIdx]; simp
    rw [e] at h2
    have h3 := List.pairwise_iff_getElem.1 hs k (k + 1) hk (by omega) (by omega)
    have h4 := near_trans hn h3
    rw [near_asymm h4] at h2; cases h2
  · exact h1

theorem erase_take {L : List Hz} {k n : Nat} (hk : k < L.length) (hn : k < n) : (L.take n).eraseIdx k = (L.eraseIdx k).take (n - 1) := by
  apply List.ext_getElem
  · rw [List.length_take, List.length_eraseIdx, List.length_eraseIdx, List.length_take]
    split <;> omega
  · intro i h1 h2
    rw [List.getElem_take, List.getElem_eraseIdx, List.getElem_eraseIdx]
    split <;> rw [List.getElem_take]

theorem take_erase {L : List Hz} {k n : Nat} (hk : k < L.length) (hn : n ≤ k) : (L.eraseIdx k).take n = L.take n := by
  apply List.ext_getElem
  · rw [List.length_take, List.length_eraseIdx_of_lt hk, List.length_take]; omega
  · intro i h1 h2
    rw [List.length_take] at h2
    rw [List.getElem_take, List.getElem_take, List.getElem_eraseIdx]
    simp [show i < k by omega]

theorem add_take {n N : Nat} (hn : 1 ≤ n) {L : List Hz} (hs : Sorted L) (hd : Ids L) (hN : L.length < N) (h : Hz) : (addZ n (L.take n) h).2 = (addZ N L h).2.take n := by
  rcases find_id (l := L) h with ⟨k, hk, hi⟩ | hi
  · rw [addZ_at hk hd hi]
    rcases Nat.lt_or_ge k n with hkn | hkn
    · have hk' : k < (L.take n).length := by rw [List.length_take]; omega
      rw [addZ_at hk' (hd.sublist (List.take_sublist _ _)) (by rw [List.getElem_take]; exact hi), List.getElem_take]
      split
      · rename_i hlt
        simp only
        have hr := erase_rank hs hk (h := h) (by simp [near, nearB, hlt])
        rw [erase_take hk hkn, insZ_cut hn (by omega)]
      · rfl
    · have hnl : n - 1 < L.length := by omega
      have hi' : ∀ x ∈ L.take n, x.id ≠ h.id := by
        intro x hx
        obtain ⟨j, hj, rfl⟩ := List.mem_iff_getElem.1 hx
        rw [List.length_take] at hj
        rw [List.getElem_take, ← hi]
        exact List.pairwise_iff_getElem.1 hd j k _ _ (by omega)
      split
      · simp only
        rw [← take_erase hk hkn]
        exact cut_add hn (hs.sublist (List.eraseIdx_sublist _ _)) fun x hx => by rw [← hi]; exact erase_ids hd hk x hx
      · rename_i hlt
        simp only
        rw [addZ_new hi', if_pos (by rw [List.length_take]; omega)]
        rw [show (L.take n).getD (n - 1) h = L[n - 1] from by simp [List.getD, List.getElem?_take, show n - 1 < n by omega, List.getElem?_eq_getElem hnl]]
        have h1 := List.pairwise_iff_getElem.1 hs (n - 1) k hnl hk (by omega)
        cases hc : near h L[n - 1]
        · simp
        · have h2 := near_trans hc h1
          simp only [near, nearB, Bool.or_eq_true, Bool.and_eq_true, decide_eq_true_eq] at h2
          omega
  · rw [cut_add hn hs hi, addZ_new hi, if_neg (by omega)]

theorem addZ_len (n : Nat) (l : List Hz) (h : Hz) : (addZ n l h).2.length ≤ l.length + 1 := by
  unfold addZ
  split
  · split
    · have := List.length_eraseIdx_le l (by assumption)
      simp only [insZ_length]; omega
    · simp
  · split
    · split
      · simp only [insZ_length, List.length_take]; omega
      · simp
    · simp only [insZ_length]; omega

theorem addsZ_two (n : Nat) (l ms : List Hz) : (addsZ n l ms).2 = ms.foldl (fun l h => (addZ n l h).2) l := by
  unfold addsZ
  generalize 0 = c
  induction ms generalizing c l with
  | nil => rfl
  | cons h ms ih => rw [List.foldl_cons, List.foldl_cons]; exact ih _ _

theorem mergeZ_flat (n : Nat) (ls : List (List Hz)) : mergeZ n ls = (addsZ n [] ls.flatten).2 := by
  rw [addsZ_two, List.foldl_flatten]
  unfold mergeZ
  simp only [addsZ_two]

theorem adds_len (N : Nat) (ms : List Hz) : (addsZ N [] ms).2.length ≤ ms.length := by
  rw [addsZ_two]
  have : ∀ l : List Hz, (ms.foldl (fun l h => (addZ N l h).2) l).length ≤ l.length + ms.length := by
    induction ms with
    | nil => simp
    | cons h ms ih =>
      intro l
      rw [List.foldl_cons, List.length_cons]
      have := ih (addZ N l h).2
      have := addZ_len N l h
      omega
  simpa using this []

theorem adds_take {n N : Nat} (hn : 1 ≤ n) (ms : List Hz) (hx : ∀ h ∈ ms, h.vec.length ≤ 1000000) (hN : ms.length ≤ N) (hN1 : 1 ≤ N) : (addsZ n [] ms).2 = (addsZ N [] ms).2.take n := by
  have : ∀ k, k ≤ ms.length → (addsZ n [] (ms.take k)).2 = (addsZ N [] (ms.take k)).2.take n := by
    intro k
    induction k with
    | zero => intro _; simp [addsZ_nil]
    | succ k ih =>
      intro hk
      have hk' : k < ms.length := by omega
      have g := addsZ_good (most := N) hN1 (GoodL.nil N) (ms.take k) fun h hh => hx h (List.mem_of_mem_take hh)
      have hl := adds_len N (ms.take k)
      rw [List.length_take] at hl
      rw [take_snoc ms k hk', addsZ_snoc, addsZ_snoc]
      simp only
      rw [ih (by omega)]
      exact add_take hn g.sorted g.ids (by omega) _
  have := this ms.length (Nat.le_refl _)
  rwa [List.take_length] at this

theorem There.add {N : Nat} {L : List Hz} (hd : Ids L) (hN : L.length < N) {g : Hz} (h : There L g) (x : Hz) : There (addZ N L x).2 g := by
  obtain ⟨y, hy, hyi, hyd⟩ := h
  rcases find_id (l := L) x with ⟨k, hk, hi⟩ | hi
  · rw [addZ_at hk hd hi]
    split
    · rename_i hlt
      by_cases hc : y.id = x.id
      · have : y = L[k] := ids_same hd hy (List.getElem_mem hk) (by rw [hc, hi])
        subst this
        exact ⟨x, insZ_mem.2 (.inl rfl), by rw [← hi]; exact hyi, by omega⟩
      · refine ⟨y, insZ_mem.2 (.inr ?_), hyi, hyd⟩
        obtain ⟨j, hj, rfl⟩ := List.mem_iff_getElem.1 hy
        exact List.mem_eraseIdx_iff_getElem.2 ⟨j, hj, fun e => by subst e; exact hc hi, rfl⟩
    · exact ⟨y, hy, hyi, hyd⟩
  · rw [addZ_new hi, if_neg (by omega)]
    exact ⟨y, insZ_mem.2 (.inr hy), hyi, hyd⟩

theorem There.self {N : Nat} {L : List Hz} (hd : Ids L) (hN : L.length < N) (x : Hz) : There (addZ N L x).2 x := by
  rcases find_id (l := L) x with ⟨k, hk, hi⟩ | hi
  · rw [addZ_at hk hd hi]
    split
    · exact ⟨x, insZ_mem.2 (.inl rfl), rfl, Int.le_refl _⟩
    · exact ⟨L[k], List.getElem_mem hk, hi, by omega⟩
  · rw [addZ_new hi, if_neg (by omega)]
    exact ⟨x, insZ_mem.2 (.inl rfl), rfl, Int.le_refl _⟩

theorem adds_there {N : Nat} (ms : List Hz) (hx : ∀ h ∈ ms, h.vec.length ≤ 1000000) (hN : ms.length ≤ N) (hN1 : 1 ≤ N) : ∀ g ∈ ms, There (addsZ N [] ms).2 g := by
  have : ∀ k, k ≤ ms.length → ∀ g ∈ ms.take k, There (addsZ N [] (ms.take k)).2 g := by
    intro k
    induction k with
    | zero => intro _ g hg; simp at hg
    | succ k ih =>
      intro hk g hg
      have hk' : k < ms.length := by omega
      have gd := addsZ_good (most := N) hN1 (GoodL.nil N) (ms.take k) fun h hh => hx h (List.mem_of_mem_take hh)
      have hl := adds_len N (ms.take k)
      rw [List.length_take] at hl
      rw [take_snoc ms k hk'] at hg ⊢
      rw [addsZ_snoc]
      simp only
      rcases List.mem_append.1 hg with hg | hg
      · exact (ih (by omega) g hg).add gd.ids (by omega) _
      · rw [List.mem_singleton.1 hg]
        exact There.self gd.ids (by omega) _
  have := this ms.length (Nat.le_refl _)
  rwa [List.take_length] at this

/-- two in order with the same hits are the same -/
theorem sorted_ext {l m : List Hz} (hl : Sorted l) (hm : Sorted m) (h : ∀ x, x ∈ l ↔ x ∈ m) : l = m := by
  induction l generalizing m with
  | nil =>
    cases m with
    | nil => rfl
    | cons b m => exact absurd ((h b).2 (by simp)) (by simp)
  | cons a l ih =>
    cases m with
    | nil => exact absurd ((h a).1 (by simp)) (by simp)
    | cons b m =>
      have h1 := List.pairwise_cons.1 hl
      have h2 := List.pairwise_cons.1 hm
      have hab : a = b := by
        rcases List.mem_cons.1 ((h a).1 (by simp)) with e | e
        · exact e
        · rcases List.mem_cons.1 ((h b).2 (by simp)) with e' | e'
          · exact e'.symm
          · have h3 := h1.1 b e'
            rw [near_asymm (h2.1 a e)] at h3; cases h3
      subst hab
      rw [ih h1.2 h2.2 fun x => ?_]
      constructor
      · intro hx
        rcases List.mem_cons.1 ((h x).1 (List.mem_cons_of_mem _ hx)) with e | e
        · subst e
          have := h1.1 x hx
          rw [near_irrefl] at this; cases this
        · exact e
      · intro hx
        rcases List.mem_cons.1 ((h x).2 (List.mem_cons_of_mem _ hx)) with e | e
        · subst e
          have := h2.1 x hx
          rw [near_irrefl] at this; cases this
        · exact e

theorem adds_same {N : Nat} (hN1 : 1 ≤ N) {ms ms' : List Hz} (hx : ∀ h ∈ ms, h.vec.length ≤ 1000000) (hN : ms.length ≤ N) (hN' : ms'.length ≤ N) (hdet : ∀ a ∈ ms, ∀ b ∈ ms, a.id = b.id → a.dist = b.dist → a = b) (hm : ∀ x, x ∈ ms ↔ x ∈ ms') :
    (addsZ N [] ms).2 = (addsZ N [] ms').2 := by
  have hx' : ∀ h ∈ ms', h.vec.length ≤ 1000000 := fun h hh => hx h ((hm h).2 hh)
  have g := addsZ_good (most := N) hN1 (GoodL.nil N) ms hx
  have g' := addsZ_good (most := N) hN1 (GoodL.nil N) ms' hx'
  have half : ∀ aa bs : List Hz, (∀ h ∈ aa, h.vec.length ≤ 1000000) → aa.length ≤ N → bs.length ≤ N → (∀ x, x ∈ aa ↔ x ∈ bs) → (∀ a ∈ aa, ∀ b ∈ aa, a.id = b.id → a.dist = b.dist → a = b) → ∀ x, x ∈ (addsZ N [] aa).2 → x ∈ (addsZ N [] bs).2 := by
    intro aa bs ha hn hn' he hdt x hxm
    have hb : ∀ h ∈ bs, h.vec.length ≤ 1000000 := fun h hh => ha h ((he h).2 hh)
    have ga := addsZ_good (most := N) hN1 (GoodL.nil N) aa ha
    have hxa : x ∈ aa := by
      rcases addsZ_mem hN1 (GoodL.nil N) ha hxm with h | h
      · simp at h
      · exact h
    obtain ⟨y, hy, hyi, hyd⟩ := adds_there bs hb hn' hN1 x ((he x).1 hxa)
    have hyb : y ∈ bs := by
      rcases addsZ_mem hN1 (GoodL.nil N) hb hy with h | h
      · simp at h
      · exact h
    have hya := (he y).2 hyb
    obtain ⟨z, hz, hzi, hzd⟩ := adds_there aa ha hn hN1 y hya
    have : z = x := ids_same ga.ids hz hxm (by rw [hzi, hyi])
    subst this
    have := hdt y hya z hxa hyi (by omega)
    subst this
    exact hy
  refine sorted_ext g.sorted g'.sorted fun x => ⟨half ms ms' hx hN hN' hm hdet x, half ms' ms hx' hN' hN (fun x => (hm x).symm) (fun a ha b hb => hdet a ((hm a).2 ha) b ((hm b).2 hb)) x⟩

end Go.Proofs.YtfmlhdikagogcaaDoor

namespace Go.Proofs.YtfmlhdikagogcaaDoor
open Go.RowKit
set_option maxRecDepth 20000

/-- how many are nearer -/
def aheadZ (l : List Hz) (h : Hz) : Nat := l.countP fun x => near x h

theorem ahead_at {m : List Hz} (hs : Sorted m) {i : Nat} (hi : i < m.length) : aheadZ m m[i] = i := by
  unfold aheadZ
  have e : m = m.take i ++ m.drop i := (List.take_append_drop i m).symm
  have h1 : (m.take i).countP (fun x => near x m[i]) = i := by
    rw [List.countP_eq_length.2 fun x hx => ?_, List.length_take]
    · omega
    · obtain ⟨j, hj, rfl⟩ := List.mem_iff_getElem.1 hx
      rw [List.length_take] at hj
      rw [List.getElem_take]
      exact List.pairwise_iff_getElem.1 hs j i _ hi (by omega)
  have h2 : (m.drop i).countP (fun x => near x m[i]) = 0 := by
    rw [List.countP_eq_zero]
    intro x hx
    obtain ⟨j, hj, rfl⟩ := List.mem_iff_getElem.1 hx
    rw [List.getElem_drop]
    rw [List.length_drop] at hj
    by_cases e : i = i + j
    · have e0 : j = 0 := by omega
      subst e0
      simp [near_irrefl]
    · have := List.pairwise_iff_getElem.1 hs i (i + j) hi (by omega) (by omega)
      simp [near_asymm this]
  calc m.countP (fun x => near x m[i]) = (m.take i ++ m.drop i).countP (fun x => near x m[i]) := by rw [← e]
    _ = i := by rw [List.countP_append, h1, h2]; rfl

theorem ahead_perm {l m : List Hz} (hp : m.Perm l) (h : Hz) : aheadZ l h = aheadZ m h := (hp.countP_eq _).symm

theorem ahead_of {l m : List Hz} (hs : Sorted m) (hp : m.Perm l) {j : Nat} (hj : j < l.length) : ∃ h : aheadZ l l[j] < m.length, m[aheadZ l l[j]] = l[j] := by
  obtain ⟨i, hi, e⟩ := List.mem_iff_getElem.1 (hp.mem_iff.2 (List.getElem_mem hj))
  have : aheadZ l l[j] = i := by rw [← e, ahead_perm hp, ahead_at hs hi]
  simp only [this]
  exact ⟨hi, e⟩

/-- what the document counts, up to k -/
theorem ahead_step {l : List Hz} (hd : Ids l) {i k : Nat} (hi : i < l.length) (hk : k < l.length) : ((l.take (k + 1)).countP fun x => near x l[i]) = ((l.take k).countP fun x => near x l[i]) + (if near l[k] l[i] = true then 1 else 0) := by
  rw [take_snoc l k hk, List.countP_append, List.countP_singleton]

theorem setAt_flat3 (rs : List Hv) (i : Nat) (hi : i < rs.length) (r : Hv) : setAt (flat3 rs) (i * 3) [.int .u64 r.id, .int .u64 r.dist, r.vec] = flat3 (rs.set i r) := by
  simp only [setAt]
  induction rs generalizing i with
  | nil => simp at hi
  | cons a rs ih =>
    cases i with
    | zero => simp [flat3]
    | succ i =>
      have := ih i (by simpa using hi)
      rw [show (i + 1) * 3 = i * 3 + 1 + 1 + 1 by omega]
      simpa [flat3] using this

theorem made_flat3 (n : Nat) : (madeCells (.agg #[.int .u64 0, .int .u64 0, .slice none 0 0] : Value).cells (n * 3)).toList = flat3 (List.replicate n ⟨0, 0, .slice none 0 0⟩) := by
  apply List.ext_getElem
  · simp [madeCells, flat3_length]
  · intro i h1 h2
    rw [flat3_length, List.length_replicate] at h2
    have hf := flat3_get (List.replicate n (⟨0, 0, .slice none 0 0⟩ : Hv)) (i / 3) (by simp; omega)
    simp only [List.getElem_replicate] at hf
    have hm : i % 3 = 0 ∨ i % 3 = 1 ∨ i % 3 = 2 := by omega
    have hc : ((.agg #[.int .u64 0, .int .u64 0, .slice none 0 0] : Value).cells).size = 3 := rfl
    have h2' : i < (flat3 (List.replicate n (⟨0, 0, .slice none 0 0⟩ : Hv))).length := by rw [flat3_length, List.length_replicate]; omega
    have hg : (flat3 (List.replicate n (⟨0, 0, .slice none 0 0⟩ : Hv)))[i]? = some (flat3 (List.replicate n (⟨0, 0, .slice none 0 0⟩ : Hv)))[i] := List.getElem?_eq_getElem h2'
    simp only [madeCells, Array.getElem_toList, Array.getElem_map, Array.getElem_range, hc]
    rcases hm with hm | hm | hm
    · have e : i / 3 * 3 = i := by omega
      rw [e, hg] at hf
      rw [Option.some.inj hf.1, hm]; rfl
    · have e : i / 3 * 3 + 1 = i := by omega
      rw [e, hg] at hf
      rw [Option.some.inj hf.2.1, hm]; rfl
    · have e : i / 3 * 3 + 1 + 1 = i := by omega
      rw [e, hg] at hf
      rw [Option.some.inj hf.2.2, hm]; rfl

/-- what was put so far stands where it belongs -/
def PutS (l : List Hz) (rl rs : List Hv) (k : Nat) : Prop := rs.length = l.length ∧ ∀ j (hj : j < l.length) (hj' : j < rl.length), j < k → rs[aheadZ l l[j]]? = some rl[j]

theorem PutS.next {l m : List Hz} {rl rs : List Hv} {k : Nat} (hs : Sorted m) (hp : m.Perm l) (hd : Ids l) (h : PutS l rl rs k) (hk : k < l.length) (hk' : k < rl.length) : PutS l rl (rs.set (aheadZ l l[k]) rl[k]) (k + 1) := by
  obtain ⟨h1, h2⟩ := h
  refine ⟨by simp [h1], fun j hj hj' hjk => ?_⟩
  obtain ⟨a1, a2⟩ := ahead_of hs hp hk
  by_cases e : j = k
  · subst e
    rw [List.getElem?_set_self (by rw [h1, ← hp.length_eq]; exact a1)]
  · have hne : aheadZ l l[k] ≠ aheadZ l l[j] := by
      intro e'
      obtain ⟨b1, b2⟩ := ahead_of hs hp hj
      have e3 : l[j] = l[k] := by rw [← b2, ← a2]; congr 1; exact e'.symm
      rcases Nat.lt_or_ge j k with h | h
      · exact List.pairwise_iff_getElem.1 hd j k hj hk h (by rw [e3])
      · exact List.pairwise_iff_getElem.1 hd k j hk hj (by omega) (by rw [e3])
    rw [List.getElem?_set_ne hne]
    exact h2 j hj hj' (by omega)

theorem PutS.rows {w : World} {F : Nat → Prop} {l m : List Hz} {rl rs : List Hv} (hs : Sorted m) (hp : m.Perm l) (h : PutS l rl rs l.length) (hr : Rows3 w F rl l) : Rows3 w F rs m := by
  obtain ⟨h1, h2⟩ := h
  refine ⟨by rw [h1, hp.length_eq], fun i i1 i2 => ?_⟩
  obtain ⟨j, hj, e⟩ := List.mem_iff_getElem.1 (hp.mem_iff.1 (List.getElem_mem i2))
  have hj' : j < rl.length := by rw [hr.len]; exact hj
  have h3 := h2 j hj hj' hj
  rw [e, ahead_perm hp, ahead_at hs i2, List.getElem?_eq_getElem i1] at h3
  rw [Option.some.inj h3, ← e]
  exact hr.each j hj' hj

end Go.Proofs.YtfmlhdikagogcaaDoor

namespace Go.Proofs.YtfmlhdikagogcaaDoor
open Go.RowKit
set_option maxRecDepth 20000

/-- hits in order: what is read is the call's own, and F -/
def SortTo (w : World) (F : Nat → Prop) (m : List Hz) (e : Ending) (w' : World) : Prop :=
  ∃ v, e = .returned v ∧ HitsF w' (Plus F w w') v m ∧ Below w.heap.size w w'

set_option maxHeartbeats 4000000 in
theorem sort (l m : List Hz) (hs : Sorted m) (hd : Ids l) (hp : m.Perm l) (hn : l.length ≤ 1000000) (v : Value) (F : Nat → Prop) (w : World) (h : HitsF w F v l) :
    Calls Tryd.prog 12 #[v] w (SortTo w F m) := by
  obtain ⟨p, cap, rfl, -, -, -, -⟩ := id h
  obtain ⟨rl, hrl, -, hel⟩ := h.rows
  have H := Lib.hid (And.intro h (And.intro hrl hel))
  have O := Lib.hid (And.intro hs (And.intro hp hd))
  have hlen := hrl.len
  obtain ⟨i0, hi0, hz0, hz1, hz2⟩ := info_parts rowHit.info
  obtain ⟨w1, hmk, hown1, hg1⟩ := run_make_full (P := Tryd.prog) w w.heap.size 35 40 i0 _ 3 rowHit.ty hi0 hz0 hz1 .i64 .i64 l.length (by rw [hz2]; omega) (by simp [maxLen]; omega) (Nat.le_refl _)
  rw [made_flat3] at hown1
  have M := Lib.hid (And.intro hown1 ((Below.refl w.heap.size w).grown hg1 (Nat.le_refl _) (by simp)))
  clear h hs hp hd hrl hel hi0 hz0 hz1 hz2 hown1 hg1
  go_enter Tryd.func12, Tryd.ntmps12
  go_wp2_with fail
  clear hmk
  go_loopg [14] l.length (fun q' i wr => ∃ (k : Nat) (rs : List Hv), q' = l.length - k ∧ k ≤ l.length ∧ i = .int .i64 k ∧ wr.ownsRow w.heap.size 40 3 (.slice (some ⟨w.heap.size, 0, none⟩) l.length l.length) l.length (flat3 rs) ∧ PutS l rl rs k ∧ Below w.heap.size w wr)
  case atStart => exact ⟨0, _, rfl, by omega, rfl, M.out.1, ⟨by simp, fun j hj hj' h => absurd h (by omega)⟩, M.out.2⟩
  case round =>
    obtain ⟨k, rs, rfl, hk, rfl, hown, hput, hb⟩ := hrel
    by_cases hlt : k < l.length
    · obtain ⟨b, off, up, uc, hkr, rfl, -, hrk, c0, c1, c2, -, -⟩ := H.out.2.2 k hlt
      replace c0 := below_cells hb c0
      replace c1 := below_cells hb c1
      replace c2 := below_cells hb c2
      have K := Lib.hid (And.intro hown (And.intro hput (And.intro hb hrk)))
      have hsz := hb.size
      clear hown hput hb hrk
      obtain ⟨wo, rfl⟩ : ∃ wo : World, wo = wr := ⟨_, rfl⟩
      go_wp2_with fail
      have BO := Lib.hid ((Below.refl wo.heap.size wo).alloc (Nat.le_refl _) (Obj.cells #[Value.int IntKind.u64 l[k].id, Value.int IntKind.u64 l[k].dist, Value.slice up l[k].vec.length uc] 40))
      go_loopg [6, 21] l.length (fun q' cnt i wr => ∃ j : Nat, q' = l.length - j ∧ j ≤ l.length ∧ i = .int .i64 j ∧ cnt = .int .i64 ((l.take j).countP fun x => near x l[k]) ∧ Below (wo.alloc (Obj.cells #[Value.int IntKind.u64 l[k].id, Value.int IntKind.u64 l[k].dist, Value.slice up l[k].vec.length uc] 40)).heap.size (wo.alloc (Obj.cells #[Value.int IntKind.u64 l[k].id, Value.int IntKind.u64 l[k].dist, Value.slice up l[k].vec.length uc] 40)) wr)
      case atStart => exact ⟨0, rfl, by omega, rfl, rfl, Below.refl _ _⟩
      case round =>
        obtain ⟨j, rfl, hj, rfl, rfl, hbi⟩ := hrel
        have y0 := below_cells hbi (a := ⟨wo.heap.size, 0, none⟩) (v := .int .u64 l[k].id) (by go_simp)
        have y1 := below_cells hbi (a := ⟨wo.heap.size, 1, none⟩) (v := .int .u64 l[k].dist) (by go_simp)
        have y2 := below_cells hbi (a := ⟨wo.heap.size, 2, none⟩) (v := .slice up l[k].vec.length uc) (by go_simp)
        have yb : wo.heap.size < wr.heap.size := lt_of_cell y0
        by_cases hlj : j < l.length
        · obtain ⟨b', off', up', uc', -, hp', -, -, d0, d1, d2, -, -⟩ := H.out.2.2 j hlj
          obtain ⟨rfl, rfl⟩ : b = b' ∧ off = off' := by simpa using hp'
          have hbw := K.out.2.2.1.trans ((BO.out.trans (hbi.mono BO.out.size)).mono hsz)
          replace d0 := below_cells hbw d0
          replace d1 := below_cells hbw d1
          replace d2 := below_cells hbw d2
          have BI := Lib.hid hbi
          have hst := ahead_step O.out.2.2 hlt hlj
          have hc1 : ((l.take j).countP fun x => near x l[k]) ≤ j := Nat.le_trans List.countP_le_length (by rw [List.length_take]; omega)
          have z0 : (wr.alloc (Obj.cells #[Value.int IntKind.u64 l[j].id, Value.int IntKind.u64 l[j].dist, Value.slice up' l[j].vec.length uc'] 40)).cell? ⟨wr.heap.size, 0, none⟩ = some (.int .u64 l[j].id) := by go_simp
          have z1 : (wr.alloc (Obj.cells #[Value.int IntKind.u64 l[j].id, Value.int IntKind.u64 l[j].dist, Value.slice up' l[j].vec.length uc'] 40)).cell? ⟨wr.heap.size, 1, none⟩ = some (.int .u64 l[j].dist) := by go_simp
          have z2 : (wr.alloc (Obj.cells #[Value.int IntKind.u64 l[j].id, Value.int IntKind.u64 l[j].dist, Value.slice up' l[j].vec.length uc'] 40)).cell? ⟨wr.heap.size, 2, none⟩ = some (.slice up' l[j].vec.length uc') := by go_simp
          have BJ := Lib.hid ((Below.refl wr.heap.size wr).alloc (Nat.le_refl _) (Obj.cells #[Value.int IntKind.u64 l[j].id, Value.int IntKind.u64 l[j].dist, Value.slice up' l[j].vec.length uc'] 40))
          have t0 := below_cells BJ.out y0
          have t1 := below_cells BJ.out y1
          have t2 := below_cells BJ.out y2
          have k0 : (0 : Int) ≤ (j : Int) := by omega
          have k1 : (j : Int) < (l.length : Int) := by omega
          clear hbi hp' hbw
          cases hq : near l[j] l[k]
          · have NB := Lib.hid (show nearB l[j].id l[j].dist l[k].id l[k].dist = false from hq)
            rw [hq, if_neg (by simp)] at hst
            have ST := Lib.hid hst
            by_cases hjk : j = k
            · have NB2 := Lib.hid (show nearB l[k].id l[k].dist l[j].id l[j].dist = false from by subst hjk; exact near_irrefl l[j])
              have hlk : decide (j < k) = false := decide_eq_false (by omega)
              clear hq hst hjk
              go_wp2_with fail
              refine (refNearer l[j].id l[j].dist l[k].id l[k].dist _ _ _).mono ?_
              rintro e w4 ⟨rfl, hb4⟩
              replace y0 := below_cells hb4 t0
              replace y1 := below_cells hb4 t1
              replace y2 := below_cells hb4 t2
              replace z0 := below_cells hb4 z0
              replace z1 := below_cells hb4 z1
              replace z2 := below_cells hb4 z2
              have B4 := Lib.hid (BJ.out.trans (hb4.mono BJ.out.size))
              clear t0 t1 t2 hb4 d0 d1 d2
              rw [NB.out]
              go_wp2_with fail
              refine (refNearer l[k].id l[k].dist l[j].id l[j].dist _ _ _).mono ?_
              rintro e w5 ⟨rfl, hb5⟩
              have B5 := Lib.hid (B4.out.trans (hb5.mono B4.out.size))
              clear hb5
              rw [NB2.out]
              go_wp2_with fail
              go_roundg (l.length - (j + 1))
              case measure => omega
              case rel => exact ⟨j + 1, rfl, by omega, by go_num, by rw [ST.out]; rfl, BI.out.trans (B5.out.mono BI.out.size)⟩
            · have NB2 := Lib.hid (show nearB l[k].id l[k].dist l[j].id l[j].dist = true from by
                rcases near_total (a := l[j]) (b := l[k]) (fun e => by
                  rcases Nat.lt_or_ge j k with h | h
                  · exact List.pairwise_iff_getElem.1 O.out.2.2 j k hlj hlt h e
                  · exact List.pairwise_iff_getElem.1 O.out.2.2 k j hlt hlj (by omega) e.symm) with h | h
                · rw [hq] at h; cases h
                · exact h)
              clear hq hst hjk
              go_wp2_with fail
              refine (refNearer l[j].id l[j].dist l[k].id l[k].dist _ _ _).mono ?_
              rintro e w4 ⟨rfl, hb4⟩
              replace y0 := below_cells hb4 t0
              replace y1 := below_cells hb4 t1
              replace y2 := below_cells hb4 t2
              replace z0 := below_cells hb4 z0
              replace z1 := below_cells hb4 z1
              replace z2 := below_cells hb4 z2
              have B4 := Lib.hid (BJ.out.trans (hb4.mono BJ.out.size))
              clear t0 t1 t2 hb4 d0 d1 d2
              rw [NB.out]
              go_wp2_with fail
              refine (refNearer l[k].id l[k].dist l[j].id l[j].dist _ _ _).mono ?_
              rintro e w5 ⟨rfl, hb5⟩
              have B5 := Lib.hid (B4.out.trans (hb5.mono B4.out.size))
              clear hb5
              rw [NB2.out]
              go_wp2_with fail
              go_roundg (l.length - (j + 1))
              case measure => omega
              case rel => exact ⟨j + 1, rfl, by omega, by go_num, by rw [ST.out]; rfl, BI.out.trans (B5.out.mono BI.out.size)⟩
          · have NB := Lib.hid (show nearB l[j].id l[j].dist l[k].id l[k].dist = true from hq)
            rw [hq, if_pos rfl] at hst
            have ST := Lib.hid hst
            clear hq hst
            go_wp2_with fail
            refine (refNearer l[j].id l[j].dist l[k].id l[k].dist _ _ _).mono ?_
            rintro e w4 ⟨rfl, hb4⟩
            replace y0 := below_cells hb4 t0
            replace y1 := below_cells hb4 t1
            replace y2 := below_cells hb4 t2
            replace z0 := below_cells hb4 z0
            replace z1 := below_cells hb4 z1
            replace z2 := below_cells hb4 z2
            have B4 := Lib.hid (BJ.out.trans (hb4.mono BJ.out.size))
            clear t0 t1 t2 hb4 d0 d1 d2
            rw [NB.out]
            go_wp2_with fail
            go_wp2_with fail
            go_roundg (l.length - (j + 1))
            case measure => omega
            case rel => exact ⟨j + 1, rfl, by omega, by go_num, by rw [ST.out]; rfl, BI.out.trans (B4.out.mono BI.out.size)⟩
        · obtain rfl : j = l.length := by omega
          rw [List.take_length]
          obtain ⟨r1, -⟩ := ahead_of O.out.1 O.out.2.1 hlt
          rw [O.out.2.1.length_eq] at r1
          rw [show (l.countP fun x => near x l[k]) = aheadZ l l[k] from rfl]
          have PN := Lib.hid (K.out.2.1.next O.out.1 O.out.2.1 O.out.2.2 hlt hkr)
          rw [K.out.2.2.2] at PN
          have BF := Lib.hid ((BO.out.trans (hbi.mono BO.out.size)))
          have hrs := K.out.2.1.1
          generalize aheadZ l l[k] = r at *
          have hth := own_there (own_below K.out.1 BF.out) rfl (r * 3) 3 (by omega)
          have hone : (#[.int .u64 l[k].id, .int .u64 l[k].dist, .slice up l[k].vec.length uc] : Array Value).all (·.oneCell') = true := by simp [Value.oneCell']
          have r0 : (0 : Int) ≤ (r : Int) := by omega
          have r2 : (r : Int) < (l.length : Int) := by omega
          clear hbi r1
          go_wp2_with (refine wpList_store_mid rfl 40 _ _ rfl w.heap.size (r * 3) #[.int .u64 l[k].id, .int .u64 l[k].dist, .slice up l[k].vec.length uc] (by rfl) (by rfl) (by exact hth) (by kernel_rfl) (by exact hone) ?_)
          go_roundg (l.length - (k + 1))
          case measure => omega
          case rel =>
            have hsc := own_setCells (g := w.heap.size) rfl [.int .u64 l[k].id, .int .u64 l[k].dist, .slice up l[k].vec.length uc] (r * 3) _ _ (own_below K.out.1 BF.out) (by simp; omega)
            have e := setAt_flat3 rs r (by omega) ⟨l[k].id, l[k].dist, .slice up l[k].vec.length uc⟩
            simp only at e
            rw [e] at hsc
            refine ⟨k + 1, _, rfl, by omega, by go_num, hsc, PN.out, ?_⟩
            exact (K.out.2.2.1.trans (BF.out.mono hsz)).grown (grownBy_setCells _ _ _ _) (by have := BF.out.size; omega) (fun b hb => by cases hb; exact Nat.le_refl _)
    · obtain rfl : k = l.length := by omega
      have hr := (H.out.2.1.below hb).mono (fun k hk => show Plus F w wr k from .inl hk)
      have hfin := HitsF.of_own (F := Plus F w wr) (n := l.length) hown (fun b hb => .inr (hown.lt b hb)) (hput.rows O.out.1 O.out.2.1 hr)
      have FI := Lib.hid (And.intro hfin hb)
      clear hown hput hb hr hfin
      go_wp2_with fail
      go_ret
      exact ⟨_, rfl, FI.out.1, FI.out.2⟩

end Go.Proofs.YtfmlhdikagogcaaDoor

namespace Go.Proofs.YtfmlhdikagogcaaDoor
open Go.RowKit
set_option maxRecDepth 20000

/-- a row of the call's own, all but one -/
def NewBut (w : World) (G : Nat → Prop) (l : List Hz) (e : Ending) (w' : World) : Prop :=
  ∃ v rs, e = .returned v ∧ w'.ownsRow w.heap.size 40 3 v rs.length (flat3 rs) ∧ Rows3 w' G rs l ∧ Below w.heap.size w w'

theorem rows_one {w : World} {G : Nat → Prop} {rs : List Hv} {l : List Hz} (h : Rows3 w G rs l) : ∀ r ∈ rs, r.vec.oneCell' = true := by
  intro r hr
  obtain ⟨i, hi, rfl⟩ := List.mem_iff_getElem.1 hr
  have := (h.each i hi (by rw [← h.len]; exact hi)).2.2.1
  obtain ⟨p, cap, e, -⟩ := this.slice
  rw [e]; rfl

theorem SrcAt.sub {w : World} {b off m c : Nat} {rs : List Hv} (h : SrcAt w (some ⟨b, off, none⟩) m c 3 (flat3 rs)) (a k : Nat) (c' : Nat) (hk : a + k ≤ rs.length) : SrcAt w (some ⟨b, off + a * 3, none⟩) k c' 3 (flat3 ((rs.drop a).take k)) := by
  refine ⟨by rw [flat3_length, List.length_take, List.length_drop]; rw [Nat.min_eq_left (by omega)], by simp, fun ad ha j u hj => ?_⟩
  obtain rfl := Option.some.inj ha
  have hjl := (List.getElem?_eq_some_iff.1 hj).1
  rw [flat3_length, List.length_take, List.length_drop, Nat.min_eq_left (by omega)] at hjl
  rw [← flat3_take, ← flat3_drop, List.getElem?_take, if_pos (by omega), List.getElem?_drop] at hj
  have := h.cells _ rfl _ _ hj
  rw [Addr.add_lit] at this ⊢
  rw [Nat.add_assoc]; exact this

theorem but_end {w w' : World} {G : Nat → Prop} {rs : List Hv} {l : List Hz} {k n : Nat} {v : Value} (hr : Rows3 w G rs l) (hk : k < rs.length) (hlen : rs.length = l.length) (ho : w'.ownsRow w.heap.size 40 3 v n (flat3 ((rs.drop 0).take k) ++ flat3 ((rs.drop (k + 1)).take (l.length - (k + 1))))) (hn : n = k + (l.length - (k + 1))) (hb : Below w.heap.size w w') : NewBut w G (l.eraseIdx k) (.returned v) w' := by
  have e : (rs.drop 0).take k ++ (rs.drop (k + 1)).take (l.length - (k + 1)) = rs.eraseIdx k := by
    rw [List.eraseIdx_eq_take_drop_succ, List.drop_zero, List.take_of_length_le (l := rs.drop (k + 1)) (by rw [List.length_drop]; omega)]
  rw [← flat3_append, e] at ho
  have hl : (rs.eraseIdx k).length = n := by rw [List.length_eraseIdx_of_lt hk]; omega
  refine ⟨v, rs.eraseIdx k, rfl, by rw [hl]; exact ho, ?_, hb⟩
  have h1 := hr.below hb
  refine ⟨by rw [List.length_eraseIdx, List.length_eraseIdx, hlen], fun i i1 i2 => ?_⟩
  rw [List.getElem_eraseIdx, List.getElem_eraseIdx]
  split
  · exact h1.each i _ _
  · exact h1.each (i + 1) _ _

set_option maxHeartbeats 4000000 in
theorem without (l : List Hz) (k : Nat) (hk : k < l.length) (hn : l.length ≤ 1000000) (G : Nat → Prop) (v : Value) (w : World) (h : HitsF w G v l) :
    Calls Tryd.prog 64 #[v, .int .i64 k] w (NewBut w G (l.eraseIdx k)) := by
  obtain ⟨p, cap, rfl, hc1, hc2, -, -⟩ := id h
  obtain ⟨rs, hrs, hsrc, hel⟩ := h.rows
  obtain ⟨b, off, -, -, -, rfl, -⟩ := hel k hk
  have hlen := hrs.len
  have S1 := Lib.hid (hsrc.sub 0 k cap (by omega))
  have S2 := Lib.hid (hsrc.sub (k + 1) (l.length - (k + 1)) (cap - (k + 1)) (by omega))
  have ONE := Lib.hid (rows_one hrs)
  have RR := Lib.hid hrs
  have k0 : (0 : Int) ≤ (k : Int) := by omega
  have k1 : (k : Int) ≤ (cap : Int) := by omega
  have k2 : (k : Int) < (l.length : Int) := by omega
  have k3 : ((k : Int) + 1) ≤ (l.length : Int) := by omega
  have k4 : IntKind.i64.wrap ((k : Int) + 1) = (k : Int) + 1 := by simp [IntKind.wrap, IntKind.signed, IntKind.bits] <;> omega
  have k5 : (0 : Int) ≤ (k : Int) + 1 := by omega
  have k6 : ((k : Int) + 1).toNat = k + 1 := by omega
  clear h hrs hsrc hel
  go_enter Tryd.func64, Tryd.ntmps64
  go_wp2_with fail
  obtain ⟨W0, hW0⟩ : ∃ W0, W0 = w.drew := ⟨_, rfl⟩
  have hb0 : Below w.heap.size w W0 := by rw [hW0]; exact (Below.refl _ _).drew
  have HW := Lib.hid hW0
  clear hW0
  by_cases hcap : cap = k + 1
  · subst hcap
    have k7 : (k : Int) ≤ (k : Int) + 1 := by omega
    replace S2 : Hid (SrcAt w (some ⟨b, off, none⟩) 0 0 3 (flat3 ((rs.drop (k + 1)).take (l.length - (k + 1))))) := by
      have e : l.length - (k + 1) = 0 := by omega
      rw [e]
      exact ⟨by simp [flat3], by simp, fun a _ j u hj => by simp [flat3] at hj⟩
    refine region_go (fun _ => True) (by kernel_rfl) ?hS0 (fun hH => ?_)
    case hS0 =>
      trivial
    rw [← HW.out]
    refine kY 1 hH ?_
    repeat simp only [Act.put, uA1, uB1, uC1]
    refine kY 2 hH ?_
    repeat simp only [Act.put, uA1, uB1, uC1]
    refine kY 3 hH ?_
    repeat simp only [Act.put, uA1, uB1, uC1]
    refine kY 5 hH ?_
    repeat simp only [Act.put, uA1, uB1, uC1]
    refine kY 6 hH ?_
    repeat simp only [Act.put, uA1, uB1, uC1]
    refine kY 7 hH ?_
    repeat simp only [Act.put, uA1, uB1, uC1]
    refine kY 8 hH ?_
    repeat simp only [Act.put, uA1, uB1, uC1]
    refine spk 0 rfl (by decide +kernel) (by rfl) (fun K' hK => ?_)
    go_simp
    have hr0 := own_empty W0 w.heap.size 40 3 hb0.size
    have hb1 := hb0.alloc hb0.size (.cells #[] 40)
    try dsimp only
    refine hK.out _ _ ?hS (fun hH' => ?_)
    case hS =>
      trivial
    clear hK K' hH; have hH := hH'; clear hH'; repeat simp only [Act.put, uA1, uB1, uC1]
    refine spk 4 rfl (by decide +kernel) (by rfl) (fun K' hK => ?_)
    obtain ⟨q2, n2, c2, w2, hrun2, hr2, hg2, -⟩ := run_app rowHit hr0 hb1.size (S1.out.below hb1) (flat3_one fun r hr => ONE.out r (List.mem_of_mem_drop (List.mem_of_mem_take hr))) (by simp [maxLen]; omega) (by omega)
    refine wp_append_eq hrun2 _ _ rfl rfl rfl ?_
    have hb2 := hb1.grown hg2 hb1.size (fun b hb => (hr0.lt b hb).1)
    simp only [Nat.zero_add, List.nil_append] at hr2
    try dsimp only
    refine hK.out _ _ ?hS (fun hH' => ?_)
    case hS =>
      trivial
    clear hK K' hH; have hH := hH'; clear hH'; repeat simp only [Act.put, uA1, uB1, uC1]
    refine spk 9 rfl (by decide +kernel) (by rfl) (fun K' hK => ?_)
    obtain ⟨q3, n3, c3, w3, hrun3, hr3, hg3, -⟩ := run_app rowHit hr2 hb2.size (S2.out.below hb2) (flat3_one fun r hr => ONE.out r (List.mem_of_mem_drop (List.mem_of_mem_take hr))) (by simp [maxLen]; omega) (by omega)
    refine wp_append_eq hrun3 _ _ rfl rfl rfl ?_
    have hb3 := hb2.grown hg3 hb2.size (fun b hb => (hr2.lt b hb).1)
    try dsimp only
    refine hK.out _ _ ?hS (fun hH' => ?_)
    case hS =>
      trivial
    clear hK K' hH; have hH := hH'; clear hH'; repeat simp only [Act.put, uA1, uB1, uC1]
    refine kY 10 hH ?_
    repeat simp only [Act.put, uA1, uB1, uC1]
    refine wpAnyH_done (by decide +kernel) ?_ _
    have E := Lib.hid (but_end RR.out (by omega) hlen hr3 (by omega) hb3)
    clear hr0 hr2 hr3 hb0 hb1 hb2 hb3 hH hrun2 hg2 hrun3 hg3
    go_wp2_with fail
    go_ret
    exact E.out
  · have hcap' : ¬ ((cap : Int) = (k : Int) + 1) := by omega
    refine region_go (fun _ => True) (by kernel_rfl) ?hS0 (fun hH => ?_)
    case hS0 =>
      trivial
    rw [← HW.out]
    refine kY 1 hH ?_
    repeat simp only [Act.put, uA1, uB1, uC1]
    refine kY 2 hH ?_
    repeat simp only [Act.put, uA1, uB1, uC1]
    refine kY 3 hH ?_
    repeat simp only [Act.put, uA1, uB1, uC1]
    refine kY 5 hH ?_
    repeat simp only [Act.put, uA1, uB1, uC1]
    refine kY 6 hH ?_
    repeat simp only [Act.put, uA1, uB1, uC1]
    refine kY 7 hH ?_
    repeat simp only [Act.put, uA1, uB1, uC1]
    refine kY 8 hH ?_
    repeat simp only [Act.put, uA1, uB1, uC1]
    refine spk 0 rfl (by decide +kernel) (by rfl) (fun K' hK => ?_)
    go_simp
    have hr0 := own_empty W0 w.heap.size 40 3 hb0.size
    have hb1 := hb0.alloc hb0.size (.cells #[] 40)
    try dsimp only
    refine hK.out _ _ ?hS (fun hH' => ?_)
    case hS =>
      trivial
    clear hK K' hH; have hH := hH'; clear hH'; repeat simp only [Act.put, uA1, uB1, uC1]
    refine spk 4 rfl (by decide +kernel) (by rfl) (fun K' hK => ?_)
    obtain ⟨q2, n2, c2, w2, hrun2, hr2, hg2, -⟩ := run_app rowHit hr0 hb1.size (S1.out.below hb1) (flat3_one fun r hr => ONE.out r (List.mem_of_mem_drop (List.mem_of_mem_take hr))) (by simp [maxLen]; omega) (by omega)
    refine wp_append_eq hrun2 _ _ rfl rfl rfl ?_
    have hb2 := hb1.grown hg2 hb1.size (fun b hb => (hr0.lt b hb).1)
    simp only [Nat.zero_add, List.nil_append] at hr2
    try dsimp only
    refine hK.out _ _ ?hS (fun hH' => ?_)
    case hS =>
      trivial
    clear hK K' hH; have hH := hH'; clear hH'; repeat simp only [Act.put, uA1, uB1, uC1]
    refine spk 9 rfl (by decide +kernel) (by rfl) (fun K' hK => ?_)
    obtain ⟨q3, n3, c3, w3, hrun3, hr3, hg3, -⟩ := run_app rowHit hr2 hb2.size (S2.out.below hb2) (flat3_one fun r hr => ONE.out r (List.mem_of_mem_drop (List.mem_of_mem_take hr))) (by simp [maxLen]; omega) (by omega)
    refine wp_append_eq hrun3 _ _ rfl rfl rfl ?_
    have hb3 := hb2.grown hg3 hb2.size (fun b hb => (hr2.lt b hb).1)
    try dsimp only
    refine hK.out _ _ ?hS (fun hH' => ?_)
    case hS =>
      trivial
    clear hK K' hH; have hH := hH'; clear hH'; repeat simp only [Act.put, uA1, uB1, uC1]
    refine kY 10 hH ?_
    repeat simp only [Act.put, uA1, uB1, uC1]
    refine wpAnyH_done (by decide +kernel) ?_ _
    have E := Lib.hid (but_end RR.out (by omega) hlen hr3 (by omega) hb3)
    clear hr0 hr2 hr3 hb0 hb1 hb2 hb3 hH hrun2 hg2 hrun3 hg3
    go_wp2_with fail
    go_ret
    exact E.out

end Go.Proofs.YtfmlhdikagogcaaDoor

namespace Go.Proofs.YtfmlhdikagogcaaDoor
open Go.RowKit
set_option maxRecDepth 20000

/-- the document's list in memory: its cell c, its slice v read from G -/
structure RefOwn (w : World) (c : Nat) (most : Int) (v : Value) (G : Nat → Prop) (r : List Hz) : Prop where
  obj : w.heap[c]? = some (.cells #[.int .i64 most, v] 116 (0, 0))
  hits : HitsF w G v r
  gc : ¬ G c
  ghi : ∀ k, G k → k < w.heap.size

theorem RefOwn.below {w w' : World} {c : Nat} {most : Int} {v : Value} {G : Nat → Prop} {r : List Hz} (h : RefOwn w c most v G r) (hb : Below w.heap.size w w') : RefOwn w' c most v G r :=
  ⟨by rw [hb.block _ (lt_block h.obj)]; exact h.obj, h.hits.below hb, h.gc, fun k hk => by have := h.ghi k hk; have := hb.size; omega⟩

theorem RefOwn.cells {w : World} {c : Nat} {most : Int} {v : Value} {G : Nat → Prop} {r : List Hz} (h : RefOwn w c most v G r) : w.cell? ⟨c, 0, none⟩ = some (.int .i64 most) ∧ w.cell? ⟨c, 1, none⟩ = some v ∧ w.frozen? ⟨c, 1, none⟩ = false :=
  ⟨by simp [World.cell?, h.obj], by simp [World.cell?, h.obj], by simp [World.frozen?, h.obj]⟩

theorem RefOwn.agree {w w' : World} {c : Nat} {most : Int} {v : Value} {G : Nat → Prop} {r : List Hz} (h : RefOwn w c most v G r) (hc : w'.heap[c]? = w.heap[c]?) (ha : Agree G w w') (hs : w.heap.size ≤ w'.heap.size) : RefOwn w' c most v G r :=
  ⟨by rw [hc]; exact h.obj, h.hits.agree ha, h.gc, fun k hk => by have := h.ghi k hk; omega⟩

set_option maxHeartbeats 4000000 in
theorem worst (c : Nat) (most : Int) (v : Value) (G : Nat → Prop) (r : List Hz) (w : World) (h : RefOwn w c most v G r) (hd : Ids r) (hne : 0 < r.length) :
    Calls Tryd.prog 65 #[.pointer (some ⟨c, 0, none⟩)] w fun e w' => (∃ i, ∃ hi : i < r.length, e = .returned (.int .i64 i) ∧ ∀ j (hj : j < r.length), j ≠ i → near r[j] r[i] = true) ∧ Below w.heap.size w w' := by
  obtain ⟨p, cap, rfl, hcap, hbig, -, -⟩ := id h.hits
  obtain ⟨c0, c1, -⟩ := h.cells
  have hl9 : r.length ≤ 9223372036854775807 := by omega
  have H := Lib.hid h
  have D := Lib.hid hd
  clear h hd hcap hbig
  go_enter Tryd.func65, Tryd.ntmps65
  go_wp2_with fail
  go_loopg [3, 11] r.length (fun q' u i wr => ∃ (k j : Nat) (hj : j < r.length), q' = r.length - k ∧ k ≤ r.length ∧ i = .int .i64 k ∧ u = .int .i64 j ∧ (∀ t (ht : t < r.length), t < k → t ≠ j → near r[t] r[j] = true) ∧ (k ≤ j → j = 0) ∧ Below w.heap.size w wr)
  case atStart => exact ⟨0, 0, hne, rfl, by omega, rfl, rfl, fun t _ h => absurd h (by omega), fun _ => rfl, Below.refl _ _⟩
  case round =>
    obtain ⟨k, j, hj, rfl, hk, rfl, rfl, hall, hkj, hb⟩ := hrel
    by_cases hlt : k < r.length
    · obtain ⟨rs', -, -, hel⟩ := (H.out.hits.below hb).rows
      obtain ⟨b, off, up, uc, -, rfl, -, -, d0, d1, d2, -, -⟩ := hel k hlt
      obtain ⟨b', off', up', uc', -, hp', -, -, e0, e1, e2, -, -⟩ := hel j hj
      obtain ⟨rfl, rfl⟩ : b = b' ∧ off = off' := by simpa using hp'
      have a1 := below_cells hb c1
      have A := Lib.hid (And.intro hall (And.intro hkj hb))
      have hsz := hb.size
      have j0 : (0 : Int) ≤ (j : Int) := by omega
      have j1 : (j : Int) < (r.length : Int) := by omega
      clear hall hkj hb hel hp'
      go_wp2_with fail
      obtain ⟨W0, hW0⟩ : ∃ W0, W0 = (wr.alloc (Obj.cells #[Value.int IntKind.u64 r[k].id, Value.int IntKind.u64 r[k].dist, Value.slice up r[k].vec.length uc] 40)).drew := ⟨_, rfl⟩
      have b0 : Below wr.heap.size wr W0 := by rw [hW0]; exact ((Below.refl _ _).alloc (Nat.le_refl _) _).drew
      have x0 : W0.cell? ⟨wr.heap.size, 0, none⟩ = some (.int .u64 r[k].id) := by rw [hW0]; go_simp
      have x1 : W0.cell? ⟨wr.heap.size, 1, none⟩ = some (.int .u64 r[k].dist) := by rw [hW0]; go_simp
      have x2 : W0.cell? ⟨wr.heap.size, 2, none⟩ = some (.slice up r[k].vec.length uc) := by rw [hW0]; go_simp
      have HW := Lib.hid hW0
      replace a1 := below_cells b0 a1
      replace e0 := below_cells b0 e0
      replace e1 := below_cells b0 e1
      replace e2 := below_cells b0 e2
      clear hW0 d0 d1 d2
      refine region_go (fun w' => w'.cell? ⟨c, 1, none⟩ = some (.slice (some ⟨b, off, none⟩) r.length cap) ∧ w'.cell? ⟨b, off + j * 3, none⟩ = some (.int .u64 r[j].id) ∧ w'.cell? ⟨b, off + j * 3 + 1, none⟩ = some (.int .u64 r[j].dist) ∧ w'.cell? ⟨b, off + j * 3 + 1 + 1, none⟩ = some (.slice up' r[j].vec.length uc') ∧ w'.cell? ⟨wr.heap.size, 0, none⟩ = some (.int .u64 r[k].id) ∧ w'.cell? ⟨wr.heap.size, 1, none⟩ = some (.int .u64 r[k].dist) ∧ w'.cell? ⟨wr.heap.size, 2, none⟩ = some (.slice up r[k].vec.length uc)) (by kernel_rfl) ?hS0 (fun hH => ?_)
      case hS0 =>
        rw [← HW.out]; exact ⟨a1, e0, e1, e2, x0, x1, x2⟩
      rw [← HW.out] at hH ⊢
      refine kY 0 hH ?_
      repeat simp only [Act.put, uA1, uB1, uC1]
      refine kY 1 hH ?_
      repeat simp only [Act.put, uA1, uB1, uC1]
      refine kY 2 hH ?_
      repeat simp only [Act.put, uA1, uB1, uC1]
      refine kY 3 hH ?_
      repeat simp only [Act.put, uA1, uB1, uC1]
      refine kY 4 hH ?_
      repeat simp only [Act.put, uA1, uB1, uC1]
      refine kY 5 hH ?_
      repeat simp only [Act.put, uA1, uB1, uC1]
      refine kY 6 hH ?_
      repeat simp only [Act.put, uA1, uB1, uC1]
      refine kY 7 hH ?_
      repeat simp only [Act.put, uA1, uB1, uC1]
      refine spk 8 rfl (by decide +kernel) (by rfl) (fun K' hK => ?_)
      go_simp
      refine (refNearer r[j].id r[j].dist r[k].id r[k].dist _ _ _).mono ?_
      rintro e w4 ⟨rfl, hb4⟩
      try dsimp only
      refine hK.out _ _ ?hS (fun hH' => ?_)
      case hS =>
        exact ⟨below_cells hb4 a1, below_cells hb4 e0, below_cells hb4 e1, below_cells hb4 e2, below_cells hb4 x0, below_cells hb4 x1, below_cells hb4 x2⟩
      clear hK K' hH; have hH := hH'; clear hH'; repeat simp only [Act.put, uA1, uB1, uC1]
      refine wpAnyH_done (by decide +kernel) ?_ _
      have B4 := Lib.hid (A.out.2.2.trans ((b0.trans (hb4.mono b0.size)).mono hsz))
      have hkw := lt_of_cell hH.2.2.2.2.1
      have ht2 : r.length - (k + 1) < r.length - k := by omega
      clear hH hb4 a1 e0 e1 e2 x0 x1 x2 b0 hkw
      cases hq : nearB r[j].id r[j].dist r[k].id r[k].dist
      · go_wp2_with fail
        go_roundg (r.length - (k + 1))
        case measure => omega
        case rel =>
          refine ⟨k + 1, j, hj, rfl, by omega, by go_num, rfl, fun t ht htk hne => ?_, fun h => A.out.2.1 (by omega), B4.out⟩
          by_cases e : t = k
          · subst e
            have hid : r[t].id ≠ r[j].id := by
              rcases Nat.lt_or_ge t j with h | h
              · exact List.pairwise_iff_getElem.1 D.out t j ht hj h
              · exact (List.pairwise_iff_getElem.1 D.out j t hj ht (by omega)).symm
            rcases near_total hid with h | h
            · exact h
            · rw [show near r[j] r[t] = false from hq] at h; cases h
          · exact A.out.1 t ht (by omega) hne
      · go_wp2_with fail
        go_roundg (r.length - (k + 1))
        case measure => omega
        case rel =>
          refine ⟨k + 1, k, hlt, rfl, by omega, by go_num, rfl, fun t ht htk hne => ?_, fun h => by omega, B4.out⟩
          by_cases e : t = j
          · subst e; exact hq
          · exact near_trans (A.out.1 t ht (by omega) e) hq
    · obtain rfl : r.length = k := by omega
      have BF := Lib.hid (And.intro hall hb)
      clear hall hb
      go_wp2_with fail
      go_ret
      exact ⟨⟨j, hj, rfl, fun t ht hne => BF.out.1 t ht ht hne⟩, BF.out.2⟩

end Go.Proofs.YtfmlhdikagogcaaDoor

namespace Go.Proofs.YtfmlhdikagogcaaDoor
open Go.RowKit
set_option maxRecDepth 20000

section
variable {P : Program} {ops : Array Oper} {Q : Exit → Act → World → Prop} {md : Region.Mode} {S : World → Prop} {n : Nat}

/-- in whatever order from here on; behind each but number n S holds -/
def anyBut (P : Program) (md : Region.Mode) (ops : Array Oper) (Q : Exit → Act → World → Prop) (S : World → Prop) (n : Nat) : Nat → Array Bool → Act → World → Prop
  | 0, listed, a, w => Region.ready md ops listed = [] ∧ Q .normal a w
  | k + 1, listed, a, w => (Region.ready md ops listed = [] → Q .normal a w) ∧ ∀ i ∈ Region.ready md ops listed, wpOp P ops Q i (fun a' w' => (i ≠ n → S w') ∧ anyBut P md ops Q S n k (listed.setIfInBounds i true) a' w') a w

theorem anyBut_any : ∀ (k : Nat) (listed : Array Bool) (a : Act) (w : World), anyBut P md ops Q S n k listed a w → wpAny P md ops Q k listed a w
  | 0, _, _, _, h => h
  | k + 1, _, _, _, h => ⟨h.1, fun i hi => wpOp_mono (fun _ _ h' => anyBut_any k _ _ _ h'.2) (h.2 i hi)⟩

/-- number n waits for number i -/
def waitsFor (md : Region.Mode) (ops : Array Oper) (n i : Nat) : Bool := match ops[n]? with | none => false | some o => o.after.toList.any fun e => Region.binds md e && e.on == i

theorem waits_not {i : Nat} {listed : Array Bool} (hw : waitsFor md ops n i = true) (hi : i ∈ Region.ready md ops listed) (hn : n ∈ Region.ready md ops listed) : False := by
  obtain ⟨-, o, ho, hall⟩ := mem_ready.1 hn
  simp only [waitsFor, ho, List.any_eq_true, Bool.and_eq_true, beq_iff_eq] at hw
  obtain ⟨e, he, hb, rfl⟩ := hw
  have h1 := hall e (by simpa using he) hb
  have h0 := (mem_ready.1 hi).1
  rcases Nat.lt_or_ge e.on listed.size with h' | h'
  · simp [h'] at h0 h1; rw [h0] at h1; cases h1
  · simp [Array.getElem?_eq_none h'] at h1

theorem anyBut_first {i : Nat} {oi : Oper} {v : Value} (hi : ops[i]? = some oi) (hsel : ∀ (j : Nat) (o : Oper) cs b, ops[j]? = some o → o.op ≠ .select cs b)
    (hQ : ∀ c a w, Q (.panic c) (a.put oi.dst v) w → Q (.panic c) a w) (hwn : waitsFor md ops n i = true) : ∀ (k : Nat) (listed : Array Bool) (a : Act) (w : World),
      (∀ j oj, ops[j]? = some oj → j ≠ i → listed.getD j true = false → (∀ e ∈ oj.after, Region.binds md e = true → e.on ≠ i) → oi.apart ops oj = true) →
      i ∈ Region.ready md ops listed → YieldsIf P ops S oi v a → S w →
      anyBut P md ops Q S n k (listed.setIfInBounds i true) (a.put oi.dst v) w → anyBut P md ops Q S n (k + 1) listed a w := by
  intro k
  induction k with
  | zero =>
    intro listed a w _ hr hy hS H
    refine ⟨fun h => (by rw [h] at hr; cases hr), fun j hj => ?_⟩
    by_cases hji : j = i
    · subst hji; exact hy.wpOp hi hS ⟨fun _ => hS, H⟩
    · have := ready_mono hj hji
      rw [H.1] at this
      cases this
  | succ k ih =>
    intro listed a w hfree hr hy hS H
    refine ⟨fun h => (by rw [h] at hr; cases hr), fun j hj => ?_⟩
    by_cases hji : j = i
    · subst hji; exact hy.wpOp hi hS ⟨fun _ => hS, H⟩
    · have hjn : j ≠ n := by rintro rfl; exact waits_not hwn hr hj
      obtain ⟨hjun, oj, hoj, hall⟩ := mem_ready.1 hj
      have hnot : ∀ e ∈ oj.after, Region.binds md e = true → e.on ≠ i := fun e he hb heq => by
        have h1 := hall e he hb
        have h0 := (mem_ready.1 hr).1
        rw [heq] at h1
        rcases Nat.lt_or_ge i listed.size with h' | h'
        · simp [h'] at h0 h1; rw [h0] at h1; cases h1
        · simp [Array.getElem?_eq_none h'] at h1
      have h2 := wpOp_putIf hoj (hfree j oj hoj hji hjun hnot) (fun cs b => hsel i oi cs b hi) (fun cs b => hsel j oj cs b hoj) hQ hy (H.2 j (ready_mono hj hji))
      refine wpOp_mono (fun a' w' h3 => ⟨h3.2.1, ih (listed.setIfInBounds j true) a' w' (fun k ok hk hki hun hno => hfree k ok hk hki ?_ hno) (ready_mono hr (Ne.symm hji)) h3.1 (h3.2.1 hjn) ?_⟩) h2
      · by_cases hjk : j = k
        · subst hjk; exact hjun
        · rw [getD_set_ne true hjk] at hun; exact hun
      · rw [Array.setIfInBounds_comm _ _ hji]
        exact h3.2.2

def canTakeN (md : Region.Mode) (ops : Array Oper) (listed : Array Bool) (n i : Nat) : Bool := canTake md ops listed i && waitsFor md ops n i

theorem tkNN (i : Nat) {oi : Oper} {k : Nat} {listed : Array Bool} {a : Act} {w : World} (hS : S w) (hi : ops.toList[i]? = some oi) (hQ : ∀ c a w, Q (.panic c) (a.put oi.dst undef) w → Q (.panic c) a w)
    (hc : canTakeN md ops listed n i = true) (hw : Region.wanted oi (yielded ops a.tmps) = false)
    (h : anyBut P md ops Q S n k (listed.setIfInBounds i true) (a.put oi.dst undef) w) : anyBut P md ops Q S n (k + 1) listed a w := by
  simp only [canTakeN, canTake, Bool.and_eq_true] at hc
  have hi' : ops[i]? = some oi := by rw [← hi, Array.getElem?_toList]
  exact anyBut_first hi' (Region.noSelect_spec hc.1.1.1) hQ hc.2 k listed a w (Region.free_spec hi' hc.1.1.2) (by simpa using hc.1.2) (.inr ⟨hw, rfl⟩) hS h

theorem kNN (i : Nat) {oi : Oper} {k : Nat} {listed : Array Bool} {a : Act} {w : World} (hS : S w) (h : anyBut P md ops Q S n k (listed.setIfInBounds i true) (a.put oi.dst undef) w)
    (hi : ops.toList[i]? = some oi := by exact rfl) (hQ : ∀ c a w, Q (.panic c) (a.put oi.dst undef) w → Q (.panic c) a w := by exact fun _ _ _ h => h) (hc : canTakeN md ops listed n i = true := by decide +kernel) (hw : Region.wanted oi (yielded ops a.tmps) = false := by rfl) : anyBut P md ops Q S n (k + 1) listed a w :=
  tkNN i hS hi hQ hc hw h

theorem tkYN (i : Nat) {oi : Oper} {v : Value} {k : Nat} {listed : Array Bool} {a : Act} {w : World} (hS : S w) (hi : ops.toList[i]? = some oi) (hQ : ∀ c a w, Q (.panic c) (a.put oi.dst v) w → Q (.panic c) a w)
    (hc : canTakeN md ops listed n i = true) (hw : Region.wanted oi (yielded ops a.tmps) = true) (hy : ∀ w, S w → (execOp a.eval oi).run P w = .ok (.value v) w)
    (h : anyBut P md ops Q S n k (listed.setIfInBounds i true) (a.put oi.dst v) w) : anyBut P md ops Q S n (k + 1) listed a w := by
  simp only [canTakeN, canTake, Bool.and_eq_true] at hc
  have hi' : ops[i]? = some oi := by rw [← hi, Array.getElem?_toList]
  exact anyBut_first hi' (Region.noSelect_spec hc.1.1.1) hQ hc.2 k listed a w (Region.free_spec hi' hc.1.1.2) (by simpa using hc.1.2) (.inl ⟨hw, hy⟩) hS h

theorem kYN (i : Nat) {oi : Oper} {v : Value} {k : Nat} {listed : Array Bool} {a : Act} {w : World} (hS : S w) (h : anyBut P md ops Q S n k (listed.setIfInBounds i true) (a.put oi.dst v) w)
    (hi : ops.toList[i]? = some oi := by exact rfl) (hQ : ∀ c a w, Q (.panic c) (a.put oi.dst v) w → Q (.panic c) a w := by exact fun _ _ _ h => h) (hc : canTakeN md ops listed n i = true := by decide +kernel) (hw : Region.wanted oi (yielded ops a.tmps) = true := by rfl) (hy : ∀ w, S w → (execOp a.eval oi).run P w = .ok (.value v) w := by intro w hS; (try dsimp only at hS); go_simp; try with_reducible rfl) : anyBut P md ops Q S n (k + 1) listed a w :=
  tkYN i hS hi hQ hc hw hy h

theorem step_to {i : Nat} {oi : Oper} {k : Nat} {listed : Array Bool} {a : Act} {w : World} (hi : ops.toList[i]? = some oi) (hw : Region.wanted oi (yielded ops a.tmps) = true) (hin : i ≠ n)
    (h : ∀ K' : Act → World → Prop, Shut (∀ a w, S w → (S w → anyBut P md ops Q S n k (listed.setIfInBounds i true) a w) → K' a w) → oi.wp P a w K' Q) :
    wpOp P ops Q i (fun a' w' => (i ≠ n → S w') ∧ anyBut P md ops Q S n k (listed.setIfInBounds i true) a' w') a w := by
  refine wpOp_step (by rw [← hi, Array.getElem?_toList]) fun K' hK => ?_
  rw [if_pos hw]
  exact h K' fun a w hS hW => hK a w ⟨fun _ => hS, hW hS⟩

theorem spkN (i : Nat) {oi : Oper} {k : Nat} {listed : Array Bool} {a : Act} {w : World} (hi : ops.toList[i]? = some oi) (hin : i ≠ n)
    (hr : Region.ready md ops listed = [i]) (hw : Region.wanted oi (yielded ops a.tmps) = true)
    (h : ∀ K' : Act → World → Prop, Shut (∀ a w, S w → (S w → anyBut P md ops Q S n k (listed.setIfInBounds i true) a w) → K' a w) → oi.wp P a w K' Q) : anyBut P md ops Q S n (k + 1) listed a w := by
  refine ⟨fun h0 => (by rw [h0] at hr; cases hr), fun j hj => ?_⟩
  rw [hr] at hj
  obtain rfl := List.mem_singleton.1 hj
  exact step_to hi hw hin h

theorem spkL {oi : Oper} {k : Nat} {listed : Array Bool} {a : Act} {w : World} (hi : ops.toList[n]? = some oi)
    (hr : Region.ready md ops listed = [n]) (hw : Region.wanted oi (yielded ops a.tmps) = true)
    (h : ∀ K' : Act → World → Prop, Shut (∀ a w, anyBut P md ops Q S n k (listed.setIfInBounds n true) a w → K' a w) → oi.wp P a w K' Q) : anyBut P md ops Q S n (k + 1) listed a w := by
  refine ⟨fun h0 => (by rw [h0] at hr; cases hr), fun j hj => ?_⟩
  rw [hr] at hj
  obtain rfl := List.mem_singleton.1 hj
  refine wpOp_step (by rw [← hi, Array.getElem?_toList]) fun K' hK => ?_
  rw [if_pos hw]
  exact h K' fun a w hW => hK a w ⟨fun h => absurd rfl h, hW⟩

theorem spBN (i j : Nat) {oi oj : Oper} {k : Nat} {listed : Array Bool} {a : Act} {w : World} (hi : ops.toList[i]? = some oi) (hj : ops.toList[j]? = some oj) (hin : i ≠ n) (hjn : j ≠ n)
    (hr : Region.ready md ops listed = [i, j]) (hwi : Region.wanted oi (yielded ops a.tmps) = true) (hwj : Region.wanted oj (yielded ops a.tmps) = true)
    (h : ∀ K' : Act → World → Prop, Shut (∀ a w, S w → (S w → anyBut P md ops Q S n k (listed.setIfInBounds i true) a w) → K' a w) → oi.wp P a w K' Q)
    (h' : ∀ K' : Act → World → Prop, Shut (∀ a w, S w → (S w → anyBut P md ops Q S n k (listed.setIfInBounds j true) a w) → K' a w) → oj.wp P a w K' Q) : anyBut P md ops Q S n (k + 1) listed a w := by
  refine ⟨fun h0 => (by rw [h0] at hr; cases hr), fun q hq => ?_⟩
  rw [hr] at hq
  rcases List.mem_cons.1 hq with rfl | hq
  · exact step_to hi hwi hin h
  · obtain rfl := List.mem_singleton.1 hq
    exact step_to hj hwj hjn h'

theorem anyBut_done {listed : Array Bool} {a : Act} {w : World} (hr : Region.ready md ops listed = []) (h : Q .normal a w) : ∀ k, anyBut P md ops Q S n k listed a w
  | 0 => ⟨hr, h⟩
  | _ + 1 => ⟨fun _ => h, by rw [hr]; simp⟩

theorem region_goN {id : Nat} {a : Act} {w : World} (n : Nat) (S : World → Prop) (hm : P.follows .mixedOrders = true) (hS : S w.drew)
    (h : S w.drew → anyBut P .any ops Q S n ops.size (Array.replicate ops.size false) a w.drew) : (Code.region id ops true).wp P Q a w :=
  wp_region_any hm (anyBut_any _ _ _ _ (h hS))
end

end Go.Proofs.YtfmlhdikagogcaaDoor

namespace Go.Proofs.YtfmlhdikagogcaaDoor
open Go.RowKit
set_option maxRecDepth 20000

/-- the document's list, in whatever order, of the same hits as L -/
def RefL (w : World) (F : Nat → Prop) (c : Nat) (most : Int) (L : List Hz) : Prop := ∃ v G r, RefOwn w c most v G r ∧ L.Perm r ∧ F c ∧ ∀ k, G k → F k

theorem RefL.below {w w' : World} {c : Nat} {F : Nat → Prop} {most : Int} {l : List Hz} (h : RefL w F c most l) (hb : Below w.heap.size w w') : RefL w' F c most l :=
  let ⟨v, G, r, h, a, b, d⟩ := h; ⟨v, G, r, h.below hb, a, b, d⟩

theorem RefL.mono {w : World} {c : Nat} {F F' : Nat → Prop} {most : Int} {l : List Hz} (h : RefL w F c most l) (hs : ∀ k, F k → F' k) : RefL w F' c most l :=
  let ⟨v, G, r, h, a, b, d⟩ := h; ⟨v, G, r, h, a, hs _ b, fun k hk => hs _ (d k hk)⟩

theorem RefL.agree {w w' : World} {c : Nat} {F : Nat → Prop} {most : Int} {l : List Hz} (h : RefL w F c most l) (ha : Agree F w w') (hs : w.heap.size ≤ w'.heap.size) : RefL w' F c most l := by
  obtain ⟨v, G, r, h, a, b, d⟩ := h
  exact ⟨v, G, r, h.agree (ha c b) (fun k hk => ha k (d k hk)) hs, a, b, d⟩

/-- what the document's Add leaves -/
def RefAdd (w : World) (F : Nat → Prop) (c : Nat) (most : Int) (p : Bool × List Hz) (e : Ending) (w' : World) : Prop :=
  e = .returned (.bool p.1) ∧ RefL w' (Plus F w w') c most p.2 ∧ Mod (fun k => k = c) w w'

/-- half way: the list, and the hit's own vector -/
structure MidR (w W : World) (F : Nat → Prop) (c : Nat) (most : Int) (v : Value) (G : Nat → Prop) (r : List Hz) (u : Value) (h : Hz) : Prop where
  ro : RefOwn W c most v G r
  mod : Mod (fun k => k = c) w W
  gF : ∀ k, G k → F k ∨ w.heap.size ≤ k
  fc : F c
  lt : c < w.heap.size
  uo : W.ownsRow w.heap.size 21 1 u h.vec.length (h.vec.map (Value.int .i32))

theorem MidR.below {w W W' : World} {F : Nat → Prop} {c : Nat} {most : Int} {v : Value} {G : Nat → Prop} {r : List Hz} {u : Value} {h : Hz} (m : MidR w W F c most v G r u h) (hb : Below W.heap.size W W') : MidR w W' F c most v G r u h :=
  ⟨m.ro.below hb, m.mod.andBelow hb, m.gF, m.fc, m.lt, own_below m.uo hb⟩

theorem Rows3.back {w w' : World} {G : Nat → Prop} {rs : List Hv} {l : List Hz} (h : Rows3 w' G rs l) (hb : Below w.heap.size w w') (hG : ∀ k, G k → k < w.heap.size) : Rows3 w G rs l :=
  h.agree fun k hk => (hb.block k (hG k hk)).symm

theorem MidR.start {w w4 : World} {F : Nat → Prop} {c : Nat} {most : Int} {v : Value} {G : Nat → Prop} {r : List Hz} {u : Value} {h : Hz} {B : Nat} (ro : RefOwn w c most v G r) (hF : F c ∧ ∀ k, G k → F k) (hb : Below w.heap.size w w4) (hB : w.heap.size < B)
    (uo : w4.ownsRow B 21 1 u h.vec.length (h.vec.map (Value.int .i32))) : MidR w (w4.setCell ⟨w.heap.size, 2, none⟩ u) F c most v G r u h := by
  have hlt := lt_block ro.obj
  have r4 := ro.below hb
  refine ⟨r4.agree (Below.heap_setCell _ _ _ _ (by simp only; omega)) (fun k hk => Below.heap_setCell _ _ _ _ (by have := ro.ghi k hk; simp only; omega)) (by simp [World.setCell]), (Mod.of_below hb).setCell (.inr (Nat.le_refl _)) _, fun k hk => .inl (hF.2 k hk), hF.1, hlt, ?_⟩
  exact own_mono (ownsRow_setCell_other uo (fun e => by have := (uo.lt _ e).1; simp only at this; omega) _) (Nat.le_of_lt hB)

/-- nothing is put -/
theorem MidR.same {w W : World} {F : Nat → Prop} {c : Nat} {most : Int} {v : Value} {G : Nat → Prop} {r L : List Hz} {u : Value} {h : Hz} (m : MidR w W F c most v G r u h) (hp : L.Perm r) : RefAdd w F c most (false, L) (.returned (.bool false)) W :=
  ⟨rfl, ⟨v, G, r, m.ro, hp, .inl m.fc, fun k hk => by
    rcases m.gF k hk with h1 | h1
    · exact .inl h1
    · exact .inr ⟨h1, m.ro.ghi k hk⟩⟩, m.mod⟩

/-- it is put behind r2, which is read from G2 -/
theorem MidR.put {w W W9 : World} {F : Nat → Prop} {c n : Nat} {most : Int} {v v9 : Value} {G : Nat → Prop} {r r2 L : List Hz} {rs2 : List Hv} {u : Value} {h : Hz} {B : Nat} (m : MidR w W F c most v G r u h) (hb : Below W.heap.size W W9) (hB : w.heap.size ≤ B)
    (ho : W9.ownsRow B 40 3 v9 n (flat3 rs2 ++ (#[.int .u64 h.id, .int .u64 h.dist, u] : Array Value).toList)) (hr : Rows3 W9 G rs2 r2) (hp : L.Perm (r2 ++ [h])) :
    RefAdd w F c most (true, L) (.returned (.bool true)) (W9.setCell ⟨c, 1, none⟩ v9) := by
  have m9 := m.below hb
  have hs := m9.mod.size
  have hlt := m9.lt
  have hn : n = (rs2 ++ [(⟨h.id, h.dist, u⟩ : Hv)]).length := by
    have := ho.1
    rw [← flat3_snoc, flat3_length] at this
    omega
  rw [← flat3_snoc] at ho
  have hrr : Rows3 W9 (fun k => G k ∨ (w.heap.size ≤ k ∧ k < W9.heap.size)) (rs2 ++ [⟨h.id, h.dist, u⟩]) (r2 ++ [h]) :=
    (hr.mono fun k hk => .inl hk).append (Rows3.single (Nums.of_own m9.uo) (fun _ b hb => Or.inr (m9.uo.lt b hb)))
  have hits := HitsF.of_own (F := fun k => G k ∨ (w.heap.size ≤ k ∧ k < W9.heap.size)) ho (fun b hb => .inr ⟨Nat.le_trans hB (ho.lt b hb).1, (ho.lt b hb).2⟩) hrr
  have hGc : ¬ (G c ∨ (w.heap.size ≤ c ∧ c < W9.heap.size)) := by
    rintro (h1 | h1)
    · exact m.ro.gc h1
    · omega
  refine ⟨rfl, ⟨v9, fun k => G k ∨ (w.heap.size ≤ k ∧ k < W9.heap.size), r2 ++ [h], ⟨?_, hits.agree fun k hk => Below.heap_setCell _ _ _ _ (by rintro rfl; exact hGc hk), hGc, fun k hk => ?_⟩, hp, .inl m.fc, fun k hk => ?_⟩, m9.mod.setCell (.inl rfl) _⟩
  · simp [World.setCell, Array.getElem?_modify, m9.ro.obj]
  · rw [show (W9.setCell ⟨c, 1, none⟩ v9).heap.size = W9.heap.size from by simp [World.setCell]]
    rcases hk with hk | hk
    · exact m9.ro.ghi k hk
    · exact hk.2
  · rw [Plus, show (W9.setCell ⟨c, 1, none⟩ v9).heap.size = W9.heap.size from by simp [World.setCell]]
    rcases hk with hk | hk
    · rcases m.gF k hk with h1 | h1
      · exact .inl h1
      · exact .inr ⟨h1, m9.ro.ghi k hk⟩
    · exact .inr hk

/-- the list is another one now -/
theorem MidR.set {w W W6 : World} {F : Nat → Prop} {c n : Nat} {most : Int} {v v6 : Value} {G : Nat → Prop} {r r2 : List Hz} {rs2 : List Hv} {u : Value} {h : Hz} {B : Nat} (m : MidR w W F c most v G r u h) (hb : Below W.heap.size W W6) (hB : w.heap.size ≤ B)
    (ho : W6.ownsRow B 40 3 v6 n (flat3 rs2)) (hr : Rows3 W6 G rs2 r2) :
    MidR w (W6.setCell ⟨c, 1, none⟩ v6) F c most v6 (fun k => G k ∨ (w.heap.size ≤ k ∧ k < W6.heap.size)) r2 u h := by
  have m6 := m.below hb
  have hlt := m6.lt
  have hits := HitsF.of_own (F := fun k => G k ∨ (w.heap.size ≤ k ∧ k < W6.heap.size)) ho (fun b hb => .inr ⟨Nat.le_trans hB (ho.lt b hb).1, (ho.lt b hb).2⟩) (hr.mono fun k hk => .inl hk)
  have hGc : ¬ (G c ∨ (w.heap.size ≤ c ∧ c < W6.heap.size)) := by
    rintro (h1 | h1)
    · exact m.ro.gc h1
    · omega
  have hsz : (W6.setCell ⟨c, 1, none⟩ v6).heap.size = W6.heap.size := by simp [World.setCell]
  refine ⟨⟨by simp [World.setCell, Array.getElem?_modify, m6.ro.obj], hits.agree fun k hk => Below.heap_setCell _ _ _ _ (by rintro rfl; exact hGc hk), hGc, fun k hk => ?_⟩, m6.mod.setCell (.inl rfl) _, fun k hk => ?_, m.fc, m.lt, ownsRow_setCell_other m6.uo (fun e => by have := (m6.uo.lt _ e).1; simp only at this; omega) _⟩
  · rw [hsz]
    rcases hk with hk | hk
    · exact m6.ro.ghi k hk
    · exact hk.2
  · rcases hk with hk | hk
    · exact m.gF k hk
    · exact .inr hk.1

theorem far_last {L r : List Hz} (hs : Sorted L) (hp : L.Perm r) {i : Nat} (hi : i < r.length) (hfar : ∀ j (hj : j < r.length), j ≠ i → near r[j] r[i] = true) (hl : L.length - 1 < L.length) : r[i] = L[L.length - 1] := by
  obtain ⟨j, hj, e⟩ := List.mem_iff_getElem.1 (hp.mem_iff.1 (List.getElem_mem hl))
  by_cases hji : j = i
  · subst hji; exact e
  · have h1 := hfar j hj hji
    obtain ⟨k, hk, e2⟩ := List.mem_iff_getElem.1 (hp.mem_iff.2 (List.getElem_mem hi))
    rw [e, ← e2] at h1
    by_cases hkl : k = L.length - 1
    · subst hkl; exact e2.symm
    · have h2 := List.pairwise_iff_getElem.1 hs k (L.length - 1) hk hl (by omega)
      rw [near_asymm h2] at h1; cases h1

theorem erase_cons {L : List Hz} {k : Nat} (hk : k < L.length) : (L[k] :: L.eraseIdx k).Perm L := by
  rw [List.eraseIdx_eq_take_drop_succ]
  refine List.perm_middle.symm.trans ?_
  rw [← List.drop_eq_getElem_cons hk, List.take_append_drop]

theorem perm_erase {L r : List Hz} (hp : L.Perm r) {k i : Nat} (hk : k < L.length) (hi : i < r.length) (e : L[k] = r[i]) : (L.eraseIdx k).Perm (r.eraseIdx i) := by
  have h1 := erase_cons hk
  have h2 := erase_cons hi
  rw [← e] at h2
  exact (h1.trans (hp.trans h2.symm)).cons_inv

theorem perm_ins {L r : List Hz} (hp : L.Perm r) (h : Hz) : (insZ L h).Perm (r ++ [h]) :=
  (insZ_perm L h).trans ((hp.cons h).trans (List.perm_append_singleton h r).symm)

end Go.Proofs.YtfmlhdikagogcaaDoor
