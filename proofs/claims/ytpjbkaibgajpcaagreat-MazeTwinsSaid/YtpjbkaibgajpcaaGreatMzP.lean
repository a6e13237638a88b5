/- maze: soft edges are few, each node but the entry needs one, all are reached; with room for all, all are found (plain). -/
import Derived.Test.YtpjbkaibgajpcaaGreatJ43
namespace Go.Proofs.YtpjbkaibgajpcaaGreat
open Go.RowKit
set_option maxRecDepth 20000

def sumZ (l : List Int) (f : Int → Nat) : Nat := (l.map f).sum

theorem sumZ_snoc (l : List Int) (f : Int → Nat) (j : Nat) (hj : j < l.length) : sumZ (l.take (j + 1)) f = sumZ (l.take j) f + f l[j] := by
  unfold sumZ
  rw [List.take_add_one, List.getElem?_eq_getElem hj, Option.toList_some, List.map_append, List.sum_append]
  simp

theorem count_two (N : List Int) {a b : Int} (hab : a ≠ b) : N.countP (fun k => decide (k = a ∨ k = b)) = N.count a + N.count b := by
  induction N with
  | nil => rfl
  | cons k N ih =>
    rw [List.countP_cons, List.count_cons, List.count_cons, ih]
    by_cases h1 : k = a
    · subst h1
      simp [hab]
      omega
    · by_cases h2 : k = b
      · subst h2
        simp [h1]
        omega
      · simp [h1, h2]

theorem sum_near {N : List Int} (hN : N.Nodup) (soft : Bool) : ∀ (E : Eg), (∀ e ∈ E, e.1 < e.2.1 ∧ e.1 ∈ N ∧ e.2.1 ∈ N) → sumZ N (fun k => (nearL E k soft).length) = 2 * (E.countP fun e => !(soft && e.2.2))
  | [], _ => by
    unfold sumZ nearL
    have : ∀ N : List Int, (N.map fun k => (List.filterMap (nearO k soft) ([] : Eg)).length).sum = 0 := by
      intro N
      induction N with
      | nil => rfl
      | cons k N ih => simpa using ih
    rw [this]; rfl
  | e :: E, h => by
    have ih := sum_near hN soft E fun f hf => h f (List.mem_cons_of_mem _ hf)
    obtain ⟨h1, h2, h3⟩ := h e (List.mem_cons_self ..)
    have key : ∀ M : List Int, sumZ M (fun k => (nearL (e :: E) k soft).length) = (if (soft && e.2.2) = true then 0 else M.countP fun k => decide (k = e.1 ∨ k = e.2.1)) + sumZ M (fun k => (nearL E k soft).length) := by
      intro M
      induction M with
      | nil => unfold sumZ; split <;> rfl
      | cons k M ihM =>
        unfold sumZ at *
        rw [List.map_cons, List.map_cons, List.sum_cons, List.sum_cons, ihM, List.countP_cons]
        have : (nearL (e :: E) k soft).length = (if (soft && e.2.2) = true then 0 else if decide (k = e.1 ∨ k = e.2.1) = true then 1 else 0) + (nearL E k soft).length := by
          unfold nearL
          rw [List.filterMap_cons]
          by_cases hs : (soft && e.2.2) = true
          · have : nearO k soft e = none := by unfold nearO; rw [if_pos hs]
            rw [this, if_pos hs]; simp
          · rw [if_neg hs]
            by_cases ha : e.1 = k
            · have : nearO k soft e = some e.2.1 := by unfold nearO; rw [if_neg hs, if_pos ha]
              rw [this]; simp [ha]; omega
            · by_cases hb : e.2.1 = k
              · have : nearO k soft e = some e.1 := by unfold nearO; rw [if_neg hs, if_neg ha, if_pos hb]
                rw [this]; simp [hb]; omega
              · have : nearO k soft e = none := by unfold nearO; rw [if_neg hs, if_neg ha, if_neg hb]
                have hk : ¬ (k = e.1 ∨ k = e.2.1) := by omega
                rw [this]; simp [hk]
        rw [this]
        by_cases hs : (soft && e.2.2) = true
        · simp only [if_pos hs]; omega
        · simp only [if_neg hs]; omega
    rw [key, ih, List.countP_cons]
    by_cases hs : (soft && e.2.2) = true
    · simp only [hs, if_true, Bool.not_true, Bool.false_eq_true, if_false]; omega
    · have hs' : (soft && e.2.2) = false := by simpa using hs
      rw [if_neg hs, count_two N (by omega), hN.count, hN.count, if_pos h2, if_pos h3]
      simp only [hs', Bool.not_false, if_true]
      omega

theorem sides {N : List Int} {E : Eg} (h : Egs N E) (hN : N.Nodup) : sumZ N (fun k => (nearD E k false).length) = 2 * E.length ∧ sumZ N (fun k => (nearD E k true).length) = 2 * (E.length - E.countP (·.2.2)) := by
  have h1 := sum_near hN false E h.ends
  have h2 := sum_near hN true E h.ends
  have e : ∀ s, (fun k => (nearD E k s).length) = fun k => (nearL E k s).length := fun s => funext fun k => nearD_length E k s
  rw [e, e, h1, h2]
  have c1 : (E.countP fun e => !(false && e.2.2)) = E.length := by simp
  have c2 : (E.countP fun e => !(true && e.2.2)) + E.countP (·.2.2) = E.length := by
    have := List.length_eq_countP_add_countP (fun e : Int × Int × Bool => e.2.2) (l := E)
    have e2 : (fun e : Int × Int × Bool => !(true && e.2.2)) = fun e => decide ¬ e.2.2 = true := by funext e; cases e.2.2 <;> rfl
    rw [e2]; omega
  rw [c1]
  exact ⟨rfl, by omega⟩

def softN (E : Eg) (x : Int) : Nat := (nearD E x true).length
def needN (E : Eg) : Nat := E.countP (·.2.2)

theorem soft_app (E : Eg) (e : Int × Int × Bool) (x : Int) : softN (E ++ [e]) x = softN E x + (if (nearO x true e).isSome = true then 1 else 0) := by
  unfold softN
  rw [nearD_length, nearD_length]
  unfold nearL
  rw [List.filterMap_append, List.length_append]
  cases h : nearO x true e <;> simp [h]

theorem soft_sub {E E' : Eg} (h : E'.Sublist E) (x : Int) : softN E' x ≤ softN E x := by
  unfold softN
  rw [nearD_length, nearD_length]
  exact (h.filterMap _).length_le

theorem cut_sub (N : List Int) (E : Eg) (a b : Int) : (cutD N E a b).2.Sublist E := by
  unfold cutD
  split
  · exact List.Sublist.refl _
  · split
    · exact List.Sublist.refl _
    · split
      · exact List.Sublist.refl _
      · exact List.eraseIdx_sublist _ _

theorem cut_count (N : List Int) (E : Eg) (a b : Int) : needN (cutD N E a b).2 = needN E := by
  unfold cutD
  split
  · rfl
  · split
    · rfl
    · rename_i i hat
      split
      · rfl
      · rename_i h
        simp only []
        rcases Nat.lt_or_ge i E.length with hi | hi
        · rw [List.getElem?_eq_getElem hi] at h
          have h2 : E[i].2.2 = false := by simpa using h
          have hs : E = E.take i ++ E[i] :: E.drop (i + 1) := by rw [← List.drop_eq_getElem_cons hi, List.take_append_drop]
          unfold needN
          rw [List.eraseIdx_eq_take_drop_succ, List.countP_append]
          conv => rhs; rw [hs]
          rw [List.countP_append, List.countP_cons, h2]
          simp
        · rw [List.eraseIdx_of_length_le hi]

theorem link_same (N : List Int) (E : Eg) (a b : Int) : (linkD N E a b).2 = E ∨ (linkD N E a b).2 = E ++ [(min a b, max a b, false)] := by
  unfold linkD
  split
  · exact .inl rfl
  · split
    · exact .inr rfl
    · exact .inl rfl

theorem link_count (N : List Int) (E : Eg) (a b : Int) : needN (linkD N E a b).2 = needN E := by
  rcases link_same N E a b with h | h <;> rw [h]
  unfold needN
  simp

theorem link_soft (N : List Int) (E : Eg) (a b x : Int) : softN (linkD N E a b).2 x ≤ softN E x + 1 ∧ (x ≠ a → x ≠ b → softN (linkD N E a b).2 x ≤ softN E x) := by
  rcases link_same N E a b with h | h <;> rw [h]
  · exact ⟨Nat.le_succ _, fun _ _ => Nat.le_refl _⟩
  · rw [soft_app]
    refine ⟨by split <;> omega, fun h1 h2 => ?_⟩
    have : nearO x true (min a b, max a b, false) = none := by
      unfold nearO
      rw [if_neg (by simp)]
      simp only
      rw [if_neg (by omega), if_neg (by omega)]
    rw [this]; simp

theorem bind_fresh {N0 N : List Int} {E : Eg} (eg : Egs N0 E) {k h : Int} (hk : k ∉ N0) (hkN : k ∈ N) (hh : h ∈ N) (hne : k ≠ h) : (bindD N E k h).2 = E ++ [(min k h, max k h, true)] := by
  have hp : pairD N k h = 0 := by unfold pairD; rw [if_neg hne, if_pos ⟨hkN, hh⟩]
  have hat : atE E k h = none := by
    unfold atE
    rw [List.findIdx?_eq_none_iff]
    intro e he
    cases hi : isE (min k h) (max k h) e with
    | false => rfl
    | true =>
      obtain ⟨h1, h2⟩ := isE_iff.1 hi
      obtain ⟨-, e2, e3⟩ := eg.ends e he
      rw [h1] at e2
      rw [h2] at e3
      rcases Int.le_total k h with hle | hle
      · rw [Int.min_eq_left hle] at e2; exact absurd e2 hk
      · rw [Int.max_eq_left hle] at e3; exact absurd e3 hk
  unfold bindD
  rw [if_neg (by simp [hp]), hat]

structure LinkI (E0 E : Eg) (k : Int) (nr : List Hz) (j : Nat) : Prop where
  count : needN E = needN E0 + (if j = 0 then 0 else 1)
  keep : ∀ e ∈ E0, e ∈ E
  first : 0 < j → ∀ h, nr.head? = some h → (min k h.id, max k h.id, true) ∈ E
  fresh : softN E k ≤ j
  other : ∀ x, x ≠ k → x ∉ nr.map (fun h : Hz => h.id) → softN E x ≤ softN E0 x

theorem soft_fresh {N0 : List Int} {E : Eg} (eg : Egs N0 E) {k : Int} (hk : k ∉ N0) : softN E k = 0 := by
  unfold softN
  cases hl : nearD E k true with
  | nil => rfl
  | cons a t =>
    have hm : a ∈ nearD E k true := by rw [hl]; simp
    obtain ⟨v, hv, -⟩ := (mem_nearD eg).1 hm
    obtain ⟨e, he, -, h1, h2⟩ := mem_adj (E := E) (needed := false) (a := k) (b := a) ⟨v, hv, rfl⟩
    obtain ⟨-, e2, e3⟩ := eg.ends e he
    rw [h1] at e2
    rw [h2] at e3
    rcases Int.le_total k a with hle | hle
    · rw [Int.min_eq_left hle] at e2; exact absurd e2 hk
    · rw [Int.max_eq_left hle] at e3; exact absurd e3 hk

theorem link_inv {N0 N : List Int} {E : Eg} (eg : Egs N0 E) {k : Int} (hk : k ∉ N0) (hkN : k ∈ N) {nr : List Hz} (hh : ∀ h, nr.head? = some h → h.id ∈ N0 ∧ h.id ∈ N) : ∀ j, j ≤ nr.length → LinkI E (linkN N k nr j E) k nr j := by
  intro j
  induction j with
  | zero => intro _; exact ⟨rfl, fun e he => he, fun h => absurd h (by omega), by show softN E k ≤ 0; rw [soft_fresh eg hk]; exact Nat.le_refl _, fun x _ _ => Nat.le_refl _⟩
  | succ j ih =>
    intro hj
    have hi := ih (by omega)
    have hjl : j < nr.length := by omega
    show LinkI E (match nr[j]? with | none => linkN N k nr j E | some h => if j = 0 then (bindD N (linkN N k nr j E) k h.id).2 else (linkD N (linkN N k nr j E) k h.id).2) k nr (j + 1)
    rw [List.getElem?_eq_getElem hjl]
    simp only
    by_cases h0 : j = 0
    · subst h0
      rw [if_pos rfl]
      obtain ⟨y, hy⟩ : ∃ y, y = nr[0] := ⟨_, rfl⟩
      have hhd : nr.head? = some y := by rw [hy, List.head?_eq_getElem?, List.getElem?_eq_getElem hjl]
      obtain ⟨h1, h2⟩ := hh y hhd
      rw [← hy]
      have hne : k ≠ y.id := fun e => hk (e ▸ h1)
      rw [show linkN N k nr 0 E = E from rfl, bind_fresh eg hk hkN h2 hne]
      refine ⟨?_, fun e he => List.mem_append.2 (.inl he), fun _ h hhe => ?_, ?_, fun x h3 h4 => ?_⟩
      · unfold needN; simp
      · rw [hhd] at hhe
        obtain rfl := Option.some.inj hhe
        simp
      · rw [soft_app, soft_fresh eg hk]; split <;> omega
      · rw [soft_app]
        have : nearO x true (min k y.id, max k y.id, true) = none := by unfold nearO; simp
        rw [this]; simp
    · rw [if_neg h0]
      obtain ⟨E1, hE1⟩ : ∃ E1, E1 = linkN N k nr j E := ⟨_, rfl⟩
      rw [← hE1] at hi ⊢
      obtain ⟨l1, l2⟩ := link_soft N E1 k nr[j].id k
      refine ⟨?_, fun e he => ?_, fun _ h hhe => ?_, by have := hi.fresh; omega, fun x h3 h4 => ?_⟩
      · rw [link_count, hi.count, if_neg h0, if_neg (by omega)]
      · rcases link_same N E1 k nr[j].id with h | h <;> rw [h]
        · exact hi.keep e he
        · exact List.mem_append.2 (.inl (hi.keep e he))
      · have := hi.first (by omega) h hhe
        rcases link_same N E1 k nr[j].id with h | h <;> rw [h]
        · exact this
        · exact List.mem_append.2 (.inl this)
      · have h5 : x ≠ nr[j].id := fun e => h4 (by rw [e]; exact List.mem_map_of_mem (f := fun h : Hz => h.id) (List.getElem_mem hjl))
        have := (link_soft N E1 k nr[j].id x).2 h3 h5
        have := hi.other x h3 h4
        omega

structure PruneI (E0 E : Eg) : Prop where
  count : needN E = needN E0
  keep : ∀ e ∈ E0, e.2.2 = true → e ∈ E
  sub : E.Sublist E0

theorem PruneI.refl (E : Eg) : PruneI E E := ⟨rfl, fun _ h _ => h, List.Sublist.refl _⟩
theorem PruneI.trans {E0 E1 E2 : Eg} (h : PruneI E0 E1) (g : PruneI E1 E2) : PruneI E0 E2 := ⟨g.count.trans h.count, fun e he hn => g.keep e (h.keep e he hn) hn, g.sub.trans h.sub⟩

theorem prune_inv (L : List Hz) (N : List Int) (k : Int) : ∀ (f : Nat) (E : Eg), PruneI E (pruneZ L N k f E) := by
  intro f
  induction f with
  | zero => exact PruneI.refl
  | succ f ih =>
    intro E
    unfold pruneZ
    split
    · exact PruneI.refl _
    · split
      · exact PruneI.refl _
      · rename_i y _
        exact (show PruneI E (cutD N E k y.id).2 from ⟨cut_count _ _ _ _, fun e he hn => cut_needs he hn, cut_sub _ _ _ _⟩).trans (ih _)

theorem prune_few (L : List Hz) (N : List Int) (k : Int) : ∀ (f : Nat) {E : Eg}, RelM N E → E.length ≤ f → softN (pruneZ L N k f E) k ≤ 4 := by
  intro f
  induction f with
  | zero =>
    intro E _ hl
    have h1 := nearD_len E k true
    show (nearD E k true).length ≤ 4
    omega
  | succ f ih =>
    intro E hr hl
    unfold pruneZ
    split
    · rename_i h; exact h
    · rename_i h
      obtain ⟨x, hx, hm, -⟩ := soft_some (L := L) (E := E) (k := k) (by omega)
      rw [hx]
      obtain ⟨h1, h2⟩ := cut_soft hr hm
      exact ih h2 (by omega)

theorem pruneN_inv (L : List Hz) (N : List Int) (nr : List Hz) {E : Eg} (hr : RelM N E) : ∀ j, PruneI E (pruneN L N nr j E) ∧ ∀ i < j, ∀ h, nr[i]? = some h → softN (pruneN L N nr j E) h.id ≤ 4 := by
  intro j
  induction j with
  | zero => exact ⟨PruneI.refl _, fun i hi => absurd hi (by omega)⟩
  | succ j ih =>
    obtain ⟨h1, h2⟩ := ih
    have hk := (pruneN_keeps L N nr j hr).1
    show PruneI E (match nr[j]? with | none => pruneN L N nr j E | some h => pruneZ L N h.id (pruneN L N nr j E).length (pruneN L N nr j E)) ∧ ∀ i < j + 1, ∀ h, nr[i]? = some h → softN (match nr[j]? with | none => pruneN L N nr j E | some h => pruneZ L N h.id (pruneN L N nr j E).length (pruneN L N nr j E)) h.id ≤ 4
    obtain ⟨E1, hE1⟩ : ∃ E1, E1 = pruneN L N nr j E := ⟨_, rfl⟩
    rw [← hE1] at h1 h2 hk ⊢
    cases hj : nr[j]? with
    | none =>
      refine ⟨h1, fun i hi h hh => ?_⟩
      rcases Nat.lt_or_ge i j with h3 | h3
      · exact h2 i h3 h hh
      · obtain rfl : i = j := by omega
        rw [hj] at hh; cases hh
    | some y =>
      have h4 := prune_inv L N y.id E1.length E1
      refine ⟨h1.trans h4, fun i hi h hh => ?_⟩
      rcases Nat.lt_or_ge i j with h3 | h3
      · exact Nat.le_trans (soft_sub h4.sub _) (h2 i h3 h hh)
      · obtain rfl : i = j := by omega
        rw [hj] at hh
        obtain rfl := Option.some.inj hh
        exact prune_few L N y.id _ hk (Nat.le_refl _)

theorem far_space {dim : Int} {s : Mz} (ok : OkM dim s) (v : List Int) (k : Int) : (farL (spaceZ s.L v) k).isSome = true ↔ k ∈ s.N := by
  have ho : ((spaceZ s.L v).map fun y : Hz => y.id).Nodup := by rw [space_ids]; exact ok.once
  constructor
  · intro h
    obtain ⟨d, hd⟩ := Option.isSome_iff_exists.1 h
    have := farL_key hd
    rw [space_ids] at this
    exact (ok.same k).2 this
  · intro h
    have h1 := (ok.same k).1 h
    rw [← space_ids s.L v] at h1
    obtain ⟨y, hy, rfl⟩ := List.mem_map.1 h1
    rw [farL_of ho hy]; rfl

theorem entry_in {dim : Int} {s : Mz} (ok : OkM dim s) (hL : s.L ≠ []) : entryZ s.L ∈ s.N := by
  have hpos : 0 < s.L.length := List.length_pos_iff.2 hL
  rw [ok.same, entry_atR hpos]
  exact List.mem_map_of_mem (f := fun y : Hz => y.id) (List.getElem_mem hpos)

theorem near_first {dim : Int} {s : Mz} (ok : OkM dim s) (hL : s.L ≠ []) (v : List Int) : ∃ h, (nearM s v).head? = some h ∧ h.id ∈ s.N := by
  unfold nearM
  rw [if_neg hL]
  obtain ⟨st, V, h⟩ := endR (L := spaceZ s.L v) s.E (most := 16) (by omega) [entryZ s.L]
  have he := (far_space ok v (entryZ s.L)).2 (entry_in ok hL)
  obtain ⟨d, hd⟩ := Option.isSome_iff_exists.1 he
  obtain ⟨x, hx, -⟩ := h.seen.first _ (h.begun _ (by simp) he) _ hd
  have h1 := h.seen.farl x (List.mem_of_head? hx)
  rw [h.list] at hx
  refine ⟨x, ?_, (far_space ok v x.id).1 (by rw [h1]; rfl)⟩
  rw [List.head?_take, if_neg (by omega), hx]

structure TreeM (s : Mz) : Prop where
  soft : ∀ x, softN s.E x ≤ 4
  count : needN s.E = s.L.length - 1
  way : ∀ x ∈ s.N, Way (adj s.E true) (entryZ s.L) x

theorem TreeM.empty : TreeM emptyM := ⟨fun x => by show (nearD [] x true).length ≤ 4; have := nearD_len [] x true; simp at this; simp [this], rfl, fun x hx => by cases hx⟩

theorem TreeM.new {dim : Int} {s : Mz} (ok : OkM dim s) (t : TreeM s) {k : Int} {v : List Int} (hv : rightZ dim v = true) (hk : k ∉ s.N) : TreeM (newM s k v) := by
  have hr1 := ok.rel.add hk
  have eg1 : Egs s.N s.E := ok.rel.egs
  have hh : ∀ h, (nearM s v).head? = some h → h.id ∈ s.N ∧ h.id ∈ putZ s.N k := fun h hh => by
    by_cases hL : s.L = []
    · unfold nearM at hh; rw [if_pos hL] at hh; cases hh
    · obtain ⟨y, hy, hm⟩ := near_first ok hL v
      rw [hy] at hh
      obtain rfl := Option.some.inj hh
      exact ⟨hm, mem_putZ.2 (.inr hm)⟩
  have hLI := link_inv eg1 hk (N := putZ s.N k) (mem_putZ.2 (.inl rfl)) hh (nearM s v).length (Nat.le_refl _)
  have hr2 := (link_keeps (putZ s.N k) k (nearM s v) (nearM s v).length hr1).1
  obtain ⟨hPI, hPS⟩ := pruneN_inv (s.L ++ [⟨k, 0, v⟩]) (putZ s.N k) (nearM s v) hr2 (nearM s v).length
  have hok := ok.new hv hk
  have h4 := nearM_len s v
  have eg3 : Egs (putZ s.N k) (newM s k v).E := hok.rel.egs
  have hkeep : ∀ e ∈ s.E, e.2.2 = true → e ∈ (newM s k v).E := fun e he hn => hPI.keep e (hLI.keep e he) hn
  have hmono : ∀ a b, adj s.E true a b → adj (newM s k v).E true a b := fun a b hab => by
    obtain ⟨e, he, hne, h1, h2⟩ := mem_adj hab
    have := adj_mem eg3 (needed := true) (hkeep e he (by simpa using hne)) hne
    rcases Int.le_total a b with hb | hb
    · rw [Int.min_eq_left hb] at h1
      rw [Int.max_eq_right hb] at h2
      rwa [h1, h2] at this
    · rw [Int.min_eq_right hb] at h1
      rw [Int.max_eq_left hb] at h2
      rw [h1, h2] at this
      exact adj_comm this
  refine ⟨fun x => ?_, ?_, fun x hx => ?_⟩
  · by_cases hxn : x ∈ (nearM s v).map fun h : Hz => h.id
    · obtain ⟨y, hy, rfl⟩ := List.mem_map.1 hxn
      obtain ⟨i, hi, rfl⟩ := List.getElem_of_mem hy
      exact hPS i hi _ (List.getElem?_eq_getElem hi)
    · refine Nat.le_trans (soft_sub hPI.sub x) ?_
      by_cases hxk : x = k
      · subst hxk
        exact Nat.le_trans hLI.fresh h4
      · exact Nat.le_trans (hLI.other x hxk hxn) (t.soft x)
  · show needN (pruneN _ _ _ _ _) = (s.L ++ [(⟨k, 0, v⟩ : Hz)]).length - 1
    rw [hPI.count, hLI.count, t.count, List.length_append, List.length_singleton]
    by_cases hL : s.L = []
    · have : (nearM s v).length = 0 := by unfold nearM; rw [if_pos hL]; rfl
      rw [if_pos this, hL]; rfl
    · obtain ⟨y, hy, -⟩ := near_first ok hL v
      have h5 : 0 < s.L.length := List.length_pos_iff.2 hL
      have h6 : (nearM s v).length ≠ 0 := fun e => by rw [List.length_eq_zero_iff] at e; rw [e] at hy; cases hy
      rw [if_neg h6]; omega
  · show Way (adj (newM s k v).E true) (entryZ (s.L ++ [⟨k, 0, v⟩])) x
    by_cases hL : s.L = []
    · have hN : s.N = [] := by
        cases hn : s.N with
        | nil => rfl
        | cons a r =>
          have := (ok.same a).1 (by rw [hn]; simp)
          rw [hL] at this; cases this
      have hx2 : x = k := by
        rcases mem_putZ.1 (show x ∈ putZ s.N k from hx) with h | h
        · exact h
        · rw [hN] at h; cases h
      rw [hL, hx2]
      exact .here
    · have hen : entryZ (s.L ++ [⟨k, 0, v⟩]) = entryZ s.L := by
        cases hl : s.L with
        | nil => exact absurd hl hL
        | cons a r => rfl
      rw [hen]
      rcases mem_putZ.1 (show x ∈ putZ s.N k from hx) with h | h
      · subst h
        obtain ⟨y, hy, hm⟩ := near_first ok hL v
        have h6 : 0 < (nearM s v).length := by
          rcases Nat.eq_zero_or_pos (nearM s v).length with e | e
          · rw [List.length_eq_zero_iff] at e; rw [e] at hy; cases hy
          · exact e
        have h7 := hPI.keep _ (hLI.first h6 y hy) rfl
        have h8 := adj_mem eg3 (needed := true) (e := (min x y.id, max x y.id, true)) h7 rfl
        refine .step ((t.way _ hm).mono hmono) ?_
        simp only at h8
        rcases Int.le_total x y.id with hb | hb
        · rw [Int.min_eq_left hb, Int.max_eq_right hb] at h8
          exact adj_comm h8
        · rw [Int.min_eq_right hb, Int.max_eq_left hb] at h8
          exact h8
      · exact (t.way x h).mono hmono

theorem TreeM.put {dim : Int} {s : Mz} (ok : OkM dim s) (t : TreeM s) (k : Int) (v : List Int) : TreeM (putM dim s k v).2 := by
  unfold putM
  cases hv : rightZ dim v with
  | false => rw [if_pos rfl]; exact t
  | true =>
    rw [if_neg (by simp)]
    split
    · exact t
    · rename_i hk; exact t.new ok hv hk

theorem layM_tree (dim : Int) (l : List (Int × List Int)) (n : Nat) : TreeM (layM dim l n) := by
  unfold layM
  have : ∀ (l : List (Int × List Int)) (s : Mz), OkM dim s → TreeM s → TreeM (l.foldl (fun s y => (putM dim s y.1 (y.2.take 10)).2) s) := by
    intro l
    induction l with
    | nil => intro s _ h; exact h
    | cons y l ih => intro s ok h; exact ih _ (ok.put _ _) (h.put ok _ _)
  exact this _ _ (OkM.empty dim) TreeM.empty

theorem N_sorted {dim : Int} {s : Mz} (ok : OkM dim s) : s.N.Pairwise (· < ·) := by obtain ⟨Q, h⟩ := ok.rel; exact h.sorted

theorem adj_any {E : Eg} {a b : Int} (h : adj E true a b) : adj E false a b := by obtain ⟨v, hv, -⟩ := h; exact ⟨v, hv, rfl⟩

theorem reach_all {dim : Int} {s : Mz} (ok : OkM dim s) (t : TreeM s) (hL : s.L ≠ []) : reachD s.N s.E (entryZ s.L) false = s.N := by
  have eg := ok.rel.egs
  refine sortedI_ext (reachD_sorted _ _ _ _) (N_sorted ok) fun x => ?_
  rw [mem_reachD eg]
  constructor
  · rintro ⟨h1, h2⟩; exact way_in eg h2 h1
  · intro h; exact ⟨entry_in ok hL, (t.way x h).mono fun _ _ => adj_any⟩

def allN (L : List Hz) (v : List Int) : List Hz := L.map fun h => ⟨h.id, (distR v h.vec).1, h.vec⟩

structure AllM (s : Mz) (v : List Int) (R : List Hz) : Prop where
  sorted : Sorted R
  perm : R.Perm (allN s.L v)

theorem find_all {dim : Int} {s : Mz} (ok : OkM dim s) (t : TreeM s) (hL : s.L ≠ []) {v : List Int} (hv : rightZ dim v = true) (hlen : s.L.length ≤ 256) : ∃ R, findM dim s v s.N.length = (R, s.N.length, 0) ∧ AllM s v R := by
  have hpos : 0 < s.L.length := List.length_pos_iff.2 hL
  have eg := ok.rel.egs
  have hNL := ok_len ok
  unfold findM
  rw [if_neg (by omega), if_neg (by rw [hv]; simp), if_neg hL, show ((s.N.length : Nat) : Int).toNat = s.N.length from Int.toNat_natCast _]
  obtain ⟨st, V, h⟩ := endR (L := spaceZ s.L v) s.E (most := s.N.length) (by omega) [entryZ s.L]
  obtain ⟨hS, hp, hc⟩ := h.whole (by rw [space_ids, List.length_map]; omega)
  have hVm : ∀ x, x ∈ V ↔ x ∈ s.L.map fun y : Hz => y.id := fun x => by
    rw [← ok.same x]
    constructor
    · intro hx
      obtain ⟨a, ha, hfa, hfx, -⟩ := h.seen.way x ((hS x).2 hx)
      exact (far_space ok v x).1 hfx
    · intro hx
      have hw := (t.way x hx).mono fun a b hab => (near_adj eg a b).2 (adj_any hab)
      clear hx
      induction hw with
      | here => exact (hS _).1 (h.begun _ (by simp) ((far_space ok v _).2 (entry_in ok hL)))
      | @step b c hb hr ih => exact hc b ih c hr ((far_space ok v c).2 (way_in eg ((hb.mono fun a b hab => (near_adj eg a b).1 hab).step ((near_adj eg b c).1 hr)) (entry_in ok hL)))
  have hV : V.Perm (s.L.map fun y : Hz => y.id) := (List.perm_ext_iff_of_nodup h.seen.once ok.once).2 hVm
  have hcn : (resW (spaceZ s.L v) s.E s.N.length [entryZ s.L]).2 = s.N.length := by
    have h9 := hV.length_eq
    rw [List.length_map] at h9
    exact h.count.symm.trans (h9.trans hNL.symm)
  refine ⟨_, by rw [hcn], ?_, ?_⟩
  · have := h.good.best.sorted
    rw [h.list] at this
    exact List.pairwise_map.2 (this.imp fun {a b} hab => hab)
  · have h1 : (resW (spaceZ s.L v) s.E s.N.length [entryZ s.L]).1.map (toldM s) = ((resW (spaceZ s.L v) s.E s.N.length [entryZ s.L]).1.map (·.id)).map fun k => toldM s (farHit (spaceZ s.L v) k) := by
      conv => lhs; rw [ids_far h]
      rw [List.map_map, List.map_map, List.map_map]
      rfl
    rw [h1]
    refine ((hp.trans hV).map _).trans ?_
    rw [List.map_map]
    unfold allN
    have : s.L.map ((fun k => toldM s (farHit (spaceZ s.L v) k)) ∘ fun y : Hz => y.id) = s.L.map fun h => (⟨h.id, (distR v h.vec).1, h.vec⟩ : Hz) := List.map_congr_left fun y hy => by
      have ho : ((spaceZ s.L v).map fun y : Hz => y.id).Nodup := by rw [space_ids]; exact ok.once
      have h2 : hitK y.id (distR v y.vec).1 ∈ spaceZ s.L v := List.mem_map_of_mem (f := fun h : Hz => hitK h.id (distR v h.vec).1) hy
      have h3 : farL (spaceZ s.L v) y.id = some (distR v y.vec).1 := farL_of ho h2
      simp only [Function.comp, farHit, h3, Option.getD_some, toldM, hitK]
      rw [vec_of ok.once hy]
    rw [this]

end Go.Proofs.YtpjbkaibgajpcaaGreat
