/-
  VecC
  VecD
  maze: what a maze is, in plain lists.
-/
import Derived.Test.YtpjbkaibgajpcaaJ41
namespace Go.Proofs.Ytpjbkaibgajpcaa
open Go.RowKit

end Go.Proofs.Ytpjbkaibgajpcaa

namespace Go.Proofs.Ytpjbkaibgajpcaa
open Go.RowKit

end Go.Proofs.Ytpjbkaibgajpcaa

namespace Go.Proofs.Ytpjbkaibgajpcaa
open Go.RowKit

/-- the nodes, by how far they are from a vector -/
def spaceZ (L : List Hz) (v : List Int) : List Hz := L.map fun h => hitK h.id (distR v h.vec).1
def vecOf (L : List Hz) (k : Int) : List Int := ((L.find? fun h => decide (h.id = k)).map (·.vec)).getD []
def softL (L : List Hz) (E : Eg) (k : Int) : List Hz := (nearD E k true).map fun s => hitK s (distR (vecOf L k) (vecOf L s)).1
def farther (a h : Hz) : Hz := if near a h = true then h else a
def worstZ : List Hz → Option Hz
  | [] => none
  | h :: t => some (t.foldl farther h)

def pruneZ (L : List Hz) (N : List Int) (k : Int) : Nat → Eg → Eg
  | 0, E => E
  | f + 1, E => if (nearD E k true).length ≤ 4 then E else match worstZ (softL L E k) with
    | none => E
    | some h => pruneZ L N k f (cutD N E k h.id).2

def linkN (N : List Int) (k : Int) (nr : List Hz) : Nat → Eg → Eg
  | 0, E => E
  | j + 1, E => match nr[j]? with
    | none => linkN N k nr j E
    | some h => if j = 0 then (bindD N (linkN N k nr j E) k h.id).2 else (linkD N (linkN N k nr j E) k h.id).2

def pruneN (L : List Hz) (N : List Int) (nr : List Hz) : Nat → Eg → Eg
  | 0, E => E
  | j + 1, E => match nr[j]? with
    | none => pruneN L N nr j E
    | some h => pruneZ L N h.id (pruneN L N nr j E).length (pruneN L N nr j E)

structure Mz where
  N : List Int
  E : Eg
  L : List Hz

def entryZ (L : List Hz) : Int := (L.head?.map (·.id)).getD 0
def rightZ (dim : Int) (v : List Int) : Bool := rightB v && decide ((v.length : Int) = dim)
def nearM (s : Mz) (v : List Int) : List Hz := if s.L = [] then [] else (resW (spaceZ s.L v) s.E 16 [entryZ s.L]).1.take 4

def newM (s : Mz) (k : Int) (v : List Int) : Mz :=
  ⟨putZ s.N k, pruneN (s.L ++ [⟨k, 0, v⟩]) (putZ s.N k) (nearM s v) (nearM s v).length (linkN (putZ s.N k) k (nearM s v) (nearM s v).length s.E), s.L ++ [⟨k, 0, v⟩]⟩
def putM (dim : Int) (s : Mz) (k : Int) (v : List Int) : Int × Mz :=
  if rightZ dim v = false then (4, s) else if k ∈ s.N then (7, s) else (0, newM s k v)

def toldM (s : Mz) (h : Hz) : Hz := ⟨h.id, h.dist, vecOf s.L h.id⟩
def findM (dim : Int) (s : Mz) (v : List Int) (ef : Int) : List Hz × Nat × Int :=
  if ef < 1 ∨ 256 < ef then ([], 0, 1) else if rightZ dim v = false then ([], 0, 4) else if s.L = [] then ([], 0, 0) else
  ((resW (spaceZ s.L v) s.E ef.toNat [entryZ s.L]).1.map (toldM s), (resW (spaceZ s.L v) s.E ef.toNat [entryZ s.L]).2, 0)

def RelM (N : List Int) (E : Eg) : Prop := ∃ Q, Rel Q N E

structure OkM (dim : Int) (s : Mz) : Prop where
  rel : RelM s.N s.E
  same : ∀ x, x ∈ s.N ↔ x ∈ s.L.map (·.id)
  once : (s.L.map (·.id)).Nodup
  vecs : ∀ h ∈ s.L, rightZ dim h.vec = true ∧ h.dist = 0
  few : s.E.length ≤ 4 * s.L.length

theorem far_of_max {t : List Hz} : ∀ {h : Hz}, t.foldl farther h ∈ h :: t ∧ ∀ x ∈ h :: t, near (t.foldl farther h) x = false := by
  induction t with
  | nil => intro h; exact ⟨by simp, fun x hx => by obtain rfl : x = h := by simpa using hx
                                                   exact near_irrefl _⟩
  | cons a t ih =>
    intro h
    simp only [List.foldl_cons]
    obtain ⟨h1, h2⟩ := ih (h := farther h a)
    have hm : farther h a = h ∨ farther h a = a := by unfold farther; split <;> simp
    have hh : near (farther h a) h = false ∧ near (farther h a) a = false := by
      unfold farther
      by_cases hn : near h a = true
      · rw [if_pos hn]; exact ⟨near_asymm hn, near_irrefl _⟩
      · rw [if_neg hn]; exact ⟨near_irrefl _, by simpa using hn⟩
    have h3 := h2 (farther h a) (by simp)
    refine ⟨?_, fun x hx => ?_⟩
    · rcases List.mem_cons.1 h1 with e | e
      · rw [e]; rcases hm with e2 | e2 <;> rw [e2] <;> simp
      · simp [e]
    · simp only [List.mem_cons] at hx
      rcases hx with rfl | rfl | hx
      · exact near_le_trans h3 hh.1
      · exact near_le_trans h3 hh.2
      · exact h2 x (by simp [hx])

theorem worst_max {l : List Hz} {h : Hz} (hw : worstZ l = some h) : h ∈ l ∧ ∀ x ∈ l, near h x = false := by
  cases l with
  | nil => cases hw
  | cons a t =>
    obtain rfl : t.foldl farther a = h := by simpa [worstZ] using hw
    exact far_of_max

/-- a soft edge is cut -/
theorem cut_soft {N : List Int} {E : Eg} (h : RelM N E) {k x : Int} (hx : x ∈ nearD E k true) : (cutD N E k x).2.length + 1 = E.length ∧ RelM N (cutD N E k x).2 := by
  obtain ⟨Q, hr⟩ := h
  refine ⟨?_, ⟨_, (hr.cut k x).2.1⟩⟩
  obtain ⟨v, hv, hf⟩ := (mem_nearD hr.egs).1 hx
  obtain rfl : v = false := by simpa using hf
  rw [edgeD_at] at hv
  cases hat : atE E k x with
  | none => rw [hat] at hv; cases hv
  | some i =>
    obtain ⟨hi, h1, h2⟩ := at_edge hat
    rw [hat] at hv
    simp only [Option.bind_some, List.getElem?_eq_getElem hi, Option.map_some, Option.some.injEq] at hv
    obtain ⟨e1, e2, e3⟩ := hr.ends E[i] (List.getElem_mem hi)
    rw [h1] at e1 e2
    rw [h2] at e1 e3
    have hk : k ∈ N ∧ x ∈ N ∧ k ≠ x := by
      rcases Int.le_total k x with hle | hle
      · rw [Int.min_eq_left hle] at e1 e2
        rw [Int.max_eq_right hle] at e1 e3
        exact ⟨e2, e3, by omega⟩
      · rw [Int.min_eq_right hle] at e1 e2
        rw [Int.max_eq_left hle] at e1 e3
        exact ⟨e3, e2, by omega⟩
    have hp : pairD N k x = 0 := by unfold pairD; rw [if_neg hk.2.2, if_pos ⟨hk.1, hk.2.1⟩]
    unfold cutD
    rw [if_neg (by simp [hp]), hat]
    simp only [List.getElem?_eq_getElem hi, Option.map_some, hv, Option.some.injEq, Bool.false_eq_true, if_false]
    rw [List.length_eraseIdx, if_pos hi]
    omega

theorem prune_stop (L : List Hz) (N : List Int) (k : Int) (f : Nat) {E : Eg} (h : (nearD E k true).length ≤ 4) : pruneZ L N k f E = E := by
  cases f with
  | zero => rfl
  | succ f => unfold pruneZ; rw [if_pos h]

theorem soft_some {L : List Hz} {E : Eg} {k : Int} (h : 4 < (nearD E k true).length) : ∃ x, worstZ (softL L E k) = some x ∧ x.id ∈ nearD E k true ∧ x ∈ softL L E k := by
  cases hw : worstZ (softL L E k) with
  | none =>
    have : softL L E k = [] := by
      cases hs : softL L E k with
      | nil => rfl
      | cons a t => rw [hs] at hw; cases hw
    have h2 := congrArg List.length this
    unfold softL at h2
    simp at h2
    rw [h2] at h
    simp at h
  | some x =>
    refine ⟨x, rfl, ?_, (worst_max hw).1⟩
    have h1 := (worst_max hw).1
    unfold softL at h1
    obtain ⟨s, hs, rfl⟩ := List.mem_map.1 h1
    exact hs

theorem prune_go {L : List Hz} {N : List Int} {E : Eg} (hr : RelM N E) {k : Int} (h : 4 < (nearD E k true).length) {x : Hz} (hx : worstZ (softL L E k) = some x) : pruneZ L N k E.length E = pruneZ L N k (cutD N E k x.id).2.length (cutD N E k x.id).2 := by
  obtain ⟨y, hy, hm, -⟩ := soft_some (L := L) h
  rw [hx] at hy
  obtain rfl := Option.some.inj hy
  have hl := (cut_soft hr hm).1
  rw [show E.length = (cutD N E k x.id).2.length + 1 by omega]
  conv => lhs; unfold pruneZ
  rw [if_neg (by omega), hx]

theorem prune_keeps (L : List Hz) (N : List Int) (k : Int) : ∀ (f : Nat) {E : Eg}, RelM N E → RelM N (pruneZ L N k f E) ∧ (pruneZ L N k f E).length ≤ E.length := by
  intro f
  induction f with
  | zero => intro E h; exact ⟨h, Nat.le_refl _⟩
  | succ f ih =>
    intro E h
    unfold pruneZ
    split
    · exact ⟨h, Nat.le_refl _⟩
    · rename_i hl
      obtain ⟨x, hx, hm, -⟩ := soft_some (L := L) (by omega : 4 < (nearD E k true).length)
      rw [hx]
      obtain ⟨h1, h2⟩ := cut_soft h hm
      obtain ⟨h3, h4⟩ := ih h2
      exact ⟨h3, by simp only; omega⟩

theorem bind_lenM (N : List Int) (E : Eg) (a b : Int) : (bindD N E a b).2.length ≤ E.length + 1 := by
  unfold bindD
  split
  · exact Nat.le_succ _
  · split
    · simp
    · split
      · exact Nat.le_succ _
      · simp

theorem link_lenM (N : List Int) (E : Eg) (a b : Int) : (linkD N E a b).2.length ≤ E.length + 1 := by
  unfold linkD
  split
  · exact Nat.le_succ _
  · split
    · simp
    · exact Nat.le_succ _

theorem RelM.bind {N : List Int} {E : Eg} (h : RelM N E) (a b : Int) : RelM N (bindD N E a b).2 := by obtain ⟨Q, hr⟩ := h; exact ⟨_, (hr.bind a b).2.1⟩
theorem RelM.link {N : List Int} {E : Eg} (h : RelM N E) (a b : Int) : RelM N (linkD N E a b).2 := by obtain ⟨Q, hr⟩ := h; exact ⟨_, (hr.link a b).2.1⟩
theorem RelM.add {N : List Int} {E : Eg} (h : RelM N E) {k : Int} (hk : k ∉ N) : RelM (putZ N k) E := by obtain ⟨Q, hr⟩ := h; exact ⟨_, hr.add hk 0⟩
theorem RelM.egs {N : List Int} {E : Eg} (h : RelM N E) : Egs N E := by obtain ⟨Q, hr⟩ := h; exact hr.egs

theorem link_keeps (N : List Int) (k : Int) (nr : List Hz) : ∀ (j : Nat) {E : Eg}, RelM N E → RelM N (linkN N k nr j E) ∧ (linkN N k nr j E).length ≤ E.length + j := by
  intro j
  induction j with
  | zero => intro E h; exact ⟨h, Nat.le_refl _⟩
  | succ j ih =>
    intro E h
    obtain ⟨h1, h2⟩ := ih h
    unfold linkN
    split
    · exact ⟨h1, by omega⟩
    · rename_i y _
      split
      · have := bind_lenM N (linkN N k nr j E) k y.id
        exact ⟨h1.bind _ _, by omega⟩
      · have := link_lenM N (linkN N k nr j E) k y.id
        exact ⟨h1.link _ _, by omega⟩

theorem pruneN_keeps (L : List Hz) (N : List Int) (nr : List Hz) : ∀ (j : Nat) {E : Eg}, RelM N E → RelM N (pruneN L N nr j E) ∧ (pruneN L N nr j E).length ≤ E.length := by
  intro j
  induction j with
  | zero => intro E h; exact ⟨h, Nat.le_refl _⟩
  | succ j ih =>
    intro E h
    obtain ⟨h1, h2⟩ := ih h
    unfold pruneN
    split
    · exact ⟨h1, h2⟩
    · rename_i y _
      have := prune_keeps L N y.id (pruneN L N nr j E).length h1
      exact ⟨this.1, by omega⟩

theorem nearM_len (s : Mz) (v : List Int) : (nearM s v).length ≤ 4 := by
  unfold nearM
  split
  · simp
  · exact List.length_take_le _ _

theorem OkM.new {dim : Int} {s : Mz} (h : OkM dim s) {k : Int} {v : List Int} (hv : rightZ dim v = true) (hk : k ∉ s.N) : OkM dim (newM s k v) := by
  have h1 := link_keeps (putZ s.N k) k (nearM s v) (nearM s v).length (h.rel.add hk)
  have h2 := pruneN_keeps (s.L ++ [⟨k, 0, v⟩]) (putZ s.N k) (nearM s v) (nearM s v).length h1.1
  refine ⟨h2.1, fun x => ?_, ?_, fun y hy => ?_, ?_⟩
  · simp only [newM, mem_putZ, List.map_append, List.mem_append, List.map_cons, List.map_nil, List.mem_singleton, h.same]
    constructor
    · rintro (e | e)
      · exact .inr e
      · exact .inl e
    · rintro (e | e)
      · exact .inr e
      · exact .inl e
  · simp only [newM, List.map_append, List.map_cons, List.map_nil]
    rw [List.nodup_append]
    refine ⟨h.once, by simp, fun a ha b hb e => hk ((h.same k).2 ?_)⟩
    simp only [List.mem_singleton] at hb
    rw [← hb, ← e]; exact ha
  · rcases List.mem_append.1 hy with hy | hy
    · exact h.vecs y hy
    · obtain rfl : y = ⟨k, 0, v⟩ := by simpa using hy
      exact ⟨hv, rfl⟩
  · have h3 := nearM_len s v
    have h4 := h.few
    simp only [newM, List.length_append, List.length_singleton]
    omega

theorem OkM.put {dim : Int} {s : Mz} (h : OkM dim s) (k : Int) (v : List Int) : OkM dim (putM dim s k v).2 := by
  unfold putM
  cases hv : rightZ dim v with
  | false => rw [if_pos rfl]; exact h
  | true =>
    rw [if_neg (by simp)]
    split
    · exact h
    · rename_i hk; exact h.new hv hk

def emptyM : Mz := ⟨[], [], []⟩
theorem OkM.empty (dim : Int) : OkM dim emptyM := ⟨⟨[], Rel.start List.Pairwise.nil (fun _ => Iff.rfl) (by simp)⟩, by simp [emptyM], by simp [emptyM], by simp [emptyM], by simp [emptyM]⟩

end Go.Proofs.Ytpjbkaibgajpcaa
