/-
  disk's laws over scripts: what lies beside the disk, and what fits.
-/
import Derived.Test.YtdcgooleiefljaaJ24
namespace Go.Proofs.Ytdcgooleiefljaa
open Go.RowKit Go.ChangeMaps Go.Shelf

theorem ScriptD.elem {w : World} {p : Option Addr} {n cap : Nat} {l : List Od} (h : ScriptD w (.slice p n cap) l) {i : Nat} (hi : i < l.length) :
    ∃ b off vn vp vk, p = some ⟨b, off, none⟩ ∧ (∀ j u, (l[i].cells vn vp vk)[j]? = some u → w.cell? ⟨b, off + i * 7 + j, none⟩ = some u) ∧ OdV w l[i] vn vp vk := by
  obtain ⟨p', cap', hv, _, _, h⟩ := h
  simp only [Value.slice.injEq] at hv
  obtain ⟨rfl, _, _⟩ := hv
  exact h i hi

theorem OdV.one {w : World} {o : Od} {vn vp vk : Value} (h : OdV w o vn vp vk) : (o.cells vn vp vk).toArray.all (·.oneCell') = true := by
  obtain ⟨pn, cn, rfl, -⟩ := Reads.form h.names
  obtain ⟨vs, hvs, -⟩ := h.parts
  obtain ⟨pp, cp, rfl, -⟩ := Reads.form hvs
  obtain ⟨pk, ck, rfl, -⟩ := Nums.slice h.keep
  simp [Od.cells, Value.oneCell', strV]

theorem few_call (w : World) (o : Od) (vn vp vk : Value) (h : OdV w o vn vp vk) (hf : o.Fits) :
    Calls Try.prog 8 #[.agg (o.cells vn vp vk).toArray] w fun e w' =>
      ∃ vn' vp' vk', e = .returned (.agg #[.int .u8 o.act, strV (o.name.take 12), strV (o.nto.take 12), vn', vp', .int .i64 o.n, vk']) ∧ FewV w.heap.size w' o vn' vp' vk' ∧ Below w.heap.size w w' :=
  dkFew w o vn vp vk h hf ⟨o.name.toArray⟩ ⟨o.nto.toArray⟩ rfl rfl (by have := hf.names.1; simpa [ByteArray.size] using this) (by have := hf.names.2.1; simpa [ByteArray.size] using this)

/-- what is new behind the disk's world is not the disk's, and a change leaves it -/
theorem DkStep.fresh {w W W' : World} {B p m : Nat} {left : Int} {down : Bool} {room : Int} {F F' : List Fz} (h : DkAt w B p m left down room F) (hs : DkStep W W' p m F F') {j : Nat} (h1 : w.heap.size ≤ j) (h2 : j < W.heap.size) : W'.heap[j]? = W.heap[j]? :=
  hs.1.block j h2 fun hF => by have := (h.lt j hF).2; omega

theorem FewV.agree {B : Nat} {w w' : World} {o : Od} {vn vp vk : Value} (h : FewV B w o vn vp vk) (hk : ∀ j, B ≤ j → j < w.heap.size → w'.heap[j]? = w.heap[j]?) : FewV B w' o vn vp vk := by
  obtain ⟨h1, ⟨us, h2, h3⟩, h4⟩ := h
  exact ⟨own_agree h1 fun k e => hk k (h1.lt k e).1 (h1.lt k e).2, ⟨us, own_agree h2 fun k e => hk k (h2.lt k e).1 (h2.lt k e).2, h3.1, fun i u l hu hl => own_agree (h3.2 i u l hu hl) fun k e => hk k ((h3.2 i u l hu hl).lt k e).1 ((h3.2 i u l hu hl).lt k e).2⟩, own_agree h4 fun k e => hk k (h4.lt k e).1 (h4.lt k e).2⟩

theorem reads_own {w : World} {B e n : Nat} {v : Value} {xs : List Value} (h : w.ownsRow B e 1 v n xs) : Reads w v 1 n xs := by
  obtain ⟨q, m, c, rfl⟩ := own_form h
  obtain rfl : m = n := own_len h
  obtain ⟨h1, h2⟩ := own_cap h
  have hs := SrcAt.of_own h
  have hl := hs.len
  refine ⟨hl, q, c, rfl, h1, h2, fun hq => (hs.nil hq).2, fun j u hj => ?_⟩
  cases q with
  | none =>
    have h0 := (hs.nil rfl).1
    have := (List.getElem?_eq_some_iff.1 hj).1
    omega
  | some a =>
    have h3 := hs.cells a rfl j u hj
    rcases h.2 with ⟨h4, -⟩ | ⟨g, cap, cur, hv, -⟩
    · cases h4
    · obtain ⟨ha, -, -⟩ := Value.slice.inj hv
      obtain rfl := Option.some.inj ha
      exact ⟨g, 0, rfl, by rw [Addr.add_lit] at h3; exact h3⟩

theorem FewV.strs {B : Nat} {w : World} {o : Od} {vn vp vk : Value} (h : FewV B w o vn vp vk) : Strs w vn o.names4 := reads_own h.names

theorem FewV.partsAt {B : Nat} {w : World} {o : Od} {vn vp vk : Value} (h : FewV B w o vn vp vk) : Parts w vp o.parts4 := by
  obtain ⟨us, h2, h3⟩ := h.parts
  refine ⟨us, by rw [← h3.1]; exact reads_own h2, fun i u l hu hl => ?_⟩
  have hr := h3.2 i u l hu hl
  obtain ⟨q, m, c, rfl⟩ := own_form hr
  obtain rfl : m = l.length := own_len hr
  exact holds_of_bytes ⟨_, _, rfl, SrcAt.of_own hr⟩

theorem parts4_len (o : Od) : o.parts4.length ≤ 4 ∧ Lib.lens o.parts4 ≤ 800 ∧ o.parts4.flatten.length ≤ 800 := by
  have h1 : ∀ l ∈ o.parts4, l.length ≤ 200 := by
    intro l hl
    obtain ⟨p, -, rfl⟩ := List.mem_map.1 hl
    simp only [toB, List.length_map, List.length_take]
    omega
  have h2 : o.parts4.length ≤ 4 := by
    simp only [Od.parts4, List.length_map, List.length_take]
    omega
  have h3 : ∀ L : List (List UInt8), (∀ l ∈ L, l.length ≤ 200) → L.flatten.length ≤ L.length * 200 ∧ Lib.lens L ≤ L.length * 200 := by
    intro L
    induction L with
    | nil => simp [Lib.lens]
    | cons x L ih =>
      intro hL
      have hx := hL x (by simp)
      have ih2 := ih fun l hl => hL l (by simp [hl])
      simp only [Lib.lens, List.flatten_cons, List.length_append, List.length_cons, List.map_cons, List.sum_cons] at ih2 ⊢
      omega
  have h4 := h3 _ h1
  omega

/-! what fits -/

def sizeS (S : List (List UInt8 × List UInt8 × Nat)) : Nat := (S.map (·.2.1.length)).sum

theorem sizeS_add (S : List (List UInt8 × List UInt8 × Nat)) (name all : List UInt8) (hn : (S.map (·.1)).Nodup) : sizeS (addF name all S) = sizeS S + all.length ∧ (addF name all S).length = S.length + (if S.any (fun s => decide (s.1 = name)) = true then 0 else 1) := by
  unfold addF
  split
  · next h =>
    refine ⟨?_, by simp⟩
    obtain ⟨s, hs, he⟩ := List.any_eq_true.1 h
    have he' : s.1 = name := by simpa using he
    obtain ⟨S1, S2, rfl⟩ := List.append_of_mem hs
    subst he'
    rw [List.map_append, List.map_cons, List.nodup_append, List.nodup_cons] at hn
    have e1 : S1.map (fun t => if t.1 = s.1 then (t.1, t.2.1 ++ all, t.2.2) else t) = S1 := by
      conv => rhs; rw [← List.map_id S1]
      refine List.map_congr_left fun x hx => ?_
      rw [if_neg fun e => hn.2.2 _ (List.mem_map.2 ⟨x, hx, rfl⟩) s.1 (by simp) e]; rfl
    have e2 : S2.map (fun t => if t.1 = s.1 then (t.1, t.2.1 ++ all, t.2.2) else t) = S2 := by
      conv => rhs; rw [← List.map_id S2]
      refine List.map_congr_left fun x hx => ?_
      rw [if_neg fun e => hn.2.1.1 (List.mem_map.2 ⟨x, hx, e⟩)]; rfl
    unfold sizeS
    rw [List.map_append, List.map_cons, e1, e2, if_pos rfl]
    simp
    omega
  · unfold sizeS
    simp

theorem DS.names {w0 w : World} {B p m : Nat} {left : Int} {down : Bool} {room : Int} {F : List Fz} {S : List (List UInt8 × List UInt8 × Nat)} (h : DS w0 w B p m left down room F S) : (S.map (·.1)).Nodup := by
  have := h.at_.names
  rw [← h.pl, List.map_map]
  exact this

theorem DS.len {w0 w : World} {B p m : Nat} {left : Int} {down : Bool} {room : Int} {F : List Fz} {S : List (List UInt8 × List UInt8 × Nat)} (h : DS w0 w B p m left down room F S) : F.length = S.length := by
  rw [← h.pl, List.length_map]

/-- a sublist, some files gone -/
theorem sizeS_sub {S T : List (List UInt8 × List UInt8 × Nat)} (h : T.Sublist S) : sizeS T ≤ sizeS S ∧ T.length ≤ S.length := by
  refine ⟨?_, h.length_le⟩
  unfold sizeS
  induction h with
  | slnil => exact Nat.le_refl _
  | cons a h ih => simp; omega
  | cons_cons a h ih => simp; omega

theorem dropS_sub (ns : List (List UInt8)) : ∀ S : List (List UInt8 × List UInt8 × Nat), (dropS S ns).Sublist S := by
  induction ns with
  | nil => intro S; exact List.Sublist.refl _
  | cons n ns ih => intro S; exact (ih _).trans List.filter_sublist

/-- what a Write's ways say -/
theorem writeZ_ways (room : Int) (S : List (List UInt8 × List UInt8 × Nat)) (name all : List UInt8) (hn : (S.map (·.1)).Nodup) :
    (writeZ room S (sizeS S) name all = (4, S)) ∨ (writeZ room S (sizeS S) name all = (8, S) ∧ (room < sizeS S + all.length ∨ 16 ≤ S.length)) ∨
      ∃ S', writeZ room S (sizeS S) name all = (0, S') ∧ sizeS S' = sizeS S + all.length ∧ (sizeS S' : Int) ≤ room ∧ (S.length ≤ 16 → S'.length ≤ 16) := by
  unfold writeZ
  by_cases h1 : rightZ name = false
  · exact .inl (if_pos h1)
  rw [if_neg h1]
  by_cases h2 : room < (sizeS S + all.length : Nat) ∨ (S.any (fun s => decide (s.1 = name)) = false ∧ 16 ≤ S.length)
  · refine .inr (.inl ⟨if_pos h2, ?_⟩)
    rcases h2 with h2 | h2
    · left; omega
    · exact .inr h2.2
  · rw [if_neg h2]
    obtain ⟨e1, e2⟩ := sizeS_add S name all hn
    refine .inr (.inr ⟨_, rfl, e1, ?_, fun h16 => ?_⟩)
    · rw [e1]; omega
    · rw [e2]
      split
      · omega
      · next h3 => have : ¬ 16 ≤ S.length := fun h4 => h2 (.inr ⟨Bool.eq_false_iff.2 h3, h4⟩); omega

end Go.Proofs.Ytdcgooleiefljaa
