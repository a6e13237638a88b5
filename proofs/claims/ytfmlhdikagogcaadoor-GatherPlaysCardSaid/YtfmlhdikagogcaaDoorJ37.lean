/-
  gather: Ask, whole.
  gather: mail that was told is looked at; a gather between two calls.
  gather: sound numbers stay sound.
  The document's Few of ops, for seats without vec.Check: the first n, each vector cut.
-/
import Derived.Test.YtfmlhdikagogcaaDoorJ33
import Derived.Test.YtfmlhdikagogcaaDoorJ34
import Derived.Test.YtfmlhdikagogcaaDoorJ35
import Derived.Test.YtfmlhdikagogcaaDoorJ36
import Derived.Test.YtfmlhdikagogcaaDoorJ32
import Derived.Test.YtfmlhdikagogcaaDoorJ23
import Derived.Test.YtfmlhdikagogcaaDoorJ08
import Derived.Test.YtfmlhdikagogcaaDoorJ01
import Derived.Test.YtfmlhdikagogcaaDoorJ02
namespace Go.Proofs.YtfmlhdikagogcaaDoor
open Go.RowKit
set_option maxRecDepth 20000


theorem ask
    (B c : Nat) (F R E : Nat → Prop) (g : Gz) (n : Nt) (vp vo vv vh : Value) (frm stamp mark : Int) (w : World) (hT : Tab w) (hG : GAt w B c F R g) (hB : B ≤ w.heap.size) (hok : GOk g) (hv : NoteV w E n vp vo vv vh) (hkd : 0 ≤ n.kind ∧ n.kind ≤ 255) (hlen : n.parts.length ≤ 1000000 ∧ n.ops.length ≤ 1000000 ∧ n.vec.length ≤ 1000000 ∧ n.hits.length ≤ 1000000)
    :
    Calls Tryd.prog 11 #[.pointer (some ⟨c, 0, none⟩), .int .i64 frm, .agg (n.cells vp vo vv vh), .int .u64 stamp, .int .u64 mark] w (GTold w B c F R (fun _ => False) (askZ g frm n stamp mark).1 (askZ g frm n stamp mark).2) := by
  cases hodd : oddB frm n 8
  · cases hfind : g.l.find? (isQ frm n) with
    | some q => exact askFound B c F R E g n vp vo vv vh frm stamp mark w hT hG hB hok hv hkd hlen hodd q hfind
    | none =>
      by_cases h0 : n.vec.length = 0
      · by_cases h8 : 8 ≤ g.l.length
        · exact askFull B c F R E g n vp vo vv vh frm stamp mark w hT hG hB hok hv hkd hlen hodd hfind (.inl h0) h8
        · exact askGet B c F R E g n vp vo vv vh frm stamp mark w hT hG hB hok hv hkd hlen hodd hfind h0 h8
      · by_cases hd : (n.vec.length : Int) = g.dim
        · by_cases h8 : 8 ≤ g.l.length
          · exact askFull B c F R E g n vp vo vv vh frm stamp mark w hT hG hB hok hv hkd hlen hodd hfind (.inr hd) h8
          · exact askAll B c F R E g n vp vo vv vh frm stamp mark w hT hG hB hok hv hkd hlen hodd hfind (by omega) hd h8
        · exact askForm B c F R E g n vp vo vv vh frm stamp mark w hT hG hB hok hv hkd hlen hodd hfind (by omega) hd
  · exact askOdd B c F R E g n vp vo vv vh frm stamp mark w hT hG hB hok hv hkd hlen hodd

theorem ask_nil (n : Nt) (vp vo vv vh : Value) (frm stamp mark : Int) (w : World) :
    Calls Tryd.prog 11 #[.pointer none, .int .i64 frm, .agg (n.cells vp vo vv vh), .int .u64 stamp, .int .u64 mark] w fun e w' => e = .returned (.slice none 0 0) ∧ Below w.heap.size w w' := by
  unfold Nt.cells
  go_enter Tryd.func11, Tryd.ntmps11
  go_wp2_with fail
  go_ret
  exact ⟨rfl, (Below.refl _ _).alloc (Nat.le_refl _) _⟩

end Go.Proofs.YtfmlhdikagogcaaDoor

namespace Go.Proofs.YtfmlhdikagogcaaDoor
open Go.RowKit
set_option maxRecDepth 20000

theorem mails_at {w : World} {B e m c : Nat} {rs : List Mv} {p : Option Addr} (h : w.ownsRow B e 17 (.slice p m c) rs.length (flatM rs)) (hi : 0 < rs.length) :
    ∃ b, p = some ⟨b, 0, none⟩ ∧ m = rs.length ∧ B ≤ b ∧ b < w.heap.size ∧ ∀ i j u (h1 : i < rs.length), rs[i].cells[j]? = some u → w.cell? ⟨b, i * 17 + j, none⟩ = some u := by
  obtain ⟨h1, ⟨h2, h3⟩ | ⟨g, cp, cur, hv, hb, hg, hn, hc, hs, ht⟩⟩ := h
  · omega
  · obtain ⟨rfl, rfl, rfl⟩ := Value.slice.inj hv
    refine ⟨g, rfl, rfl, hb, lt_block hg, fun i j u h1 hj => ?_⟩
    have hj17 : j < 17 := by
      rcases Nat.lt_or_ge j 17 with h | h
      · exact h
      · rw [List.getElem?_eq_none (by rw [Mv.cells_length]; exact h)] at hj; cases hj
    have : (cur.toList.take (rs.length * 17))[i * 17 + j]? = some u := by rw [ht, flatM_get _ _ h1 _ hj17]; exact hj
    rw [List.getElem?_take] at this
    split at this
    · simp only [World.cell?, hg]; simpa using this
    · cases this

theorem says_nil {rs : List Mv} (h : rs.map Mv.says = []) : rs = [] := by simpa using h

theorem says_cons {rs : List Mv} {x : Int} {n : Nt} {l : List (Int × Nt)} (h : rs.map Mv.says = (x, n) :: l) : ∃ vp vo vv vh rs', rs = ⟨x, n, vp, vo, vv, vh⟩ :: rs' ∧ rs'.map Mv.says = l := by
  cases rs with
  | nil => simp at h
  | cons r rs =>
    obtain ⟨a, b, c, d, e, f⟩ := r
    simp only [List.map_cons, List.cons.injEq, Mv.says, Prod.mk.injEq] at h
    obtain ⟨⟨rfl, rfl⟩, h⟩ := h
    exact ⟨c, d, e, f, rs, rfl, h⟩

/-- nothing below B has been touched -/
theorem GTold.below {w w' : World} {B c : Nat} {F R E : Nat → Prop} {l : List (Int × Nt)} {g' : Gz} {r : Ending} (h : GTold w B c F R E l g' r w') (hB : B ≤ w.heap.size) (hF : ∀ k, F k → B ≤ k) : Below B w w' := by
  obtain ⟨v, rs, G, F', R', -, -, -, -, -, -, -, hm, -⟩ := h
  exact hm.below hB hF

/-- a gather that lies above B, whatever else -/
def GHas (w : World) (B c : Nat) (g : Gz) : Prop := ∃ F R : Nat → Prop, GAt w B c F R g

theorem GAt.low {w : World} {B c : Nat} {F R : Nat → Prop} {g : Gz} (h : GAt w B c F R g) : ∀ k, F k → B ≤ k ∧ k < w.heap.size := by
  obtain ⟨lv, Q, h⟩ := h
  exact h.low

theorem GHas.below {w w' : World} {B c : Nat} {g : Gz} (h : GHas w B c g) (hb : Below w.heap.size w w') : GHas w' B c g := by
  obtain ⟨F, R, h⟩ := h
  exact ⟨F, R, h.below hb⟩

theorem GHas.mono {w : World} {B B' c : Nat} {g : Gz} (h : GHas w B c g) (hB : B' ≤ B) : GHas w B' c g := by
  obtain ⟨F, R, lv, Q, h⟩ := h
  exact ⟨F, R, lv, Q, h.obj, own_mono h.row hB, h.len, h.each, h.bs, h.mbs, h.lvF, h.mbF, h.here, fun k hk => ⟨Nat.le_trans hB (h.low k hk).1, (h.low k hk).2⟩, h.apart⟩

/-- what a call tells, whatever else -/
def GSays (w : World) (B c : Nat) (l : List (Int × Nt)) (g' : Gz) (r : Ending) (w' : World) : Prop :=
  ∃ v rs, ∃ G : Nat → Prop, r = .returned v ∧ w'.ownsRow w.heap.size 44 17 v rs.length (flatM rs) ∧ rs.map Mv.says = l ∧ MailF w' G rs ∧ (∀ k, G k → k < w'.heap.size) ∧ GHas w' B c g' ∧ Below B w w'

theorem GTold.says {w w' : World} {B c : Nat} {F R E : Nat → Prop} {l : List (Int × Nt)} {g' : Gz} {r : Ending} (h : GTold w B c F R E l g' r w') (hB : B ≤ w.heap.size) (hF : ∀ k, F k → B ≤ k) : GSays w B c l g' r w' := by
  have hb := h.below hB hF
  obtain ⟨v, rs, G, F', R', h1, h2, h3, h4, h5, h6, h7, -⟩ := h
  exact ⟨v, rs, G, h1, h2, h3, h4, fun k hk => (h5 k hk).1, ⟨F', R', h7⟩, hb⟩

theorem askS (B c : Nat) (g : Gz) (n : Nt) (vp vo vv vh : Value) (E : Nat → Prop) (frm stamp mark : Int) (w : World) (hT : Tab w) (hG : GHas w B c g) (hB : B ≤ w.heap.size) (hok : GOk g) (hv : NoteV w E n vp vo vv vh) (hkd : 0 ≤ n.kind ∧ n.kind ≤ 255) (hlen : n.parts.length ≤ 1000000 ∧ n.ops.length ≤ 1000000 ∧ n.vec.length ≤ 1000000 ∧ n.hits.length ≤ 1000000) {l : List (Int × Nt)} {g' : Gz} (hz : askZ g frm n stamp mark = (l, g')) :
    Calls Tryd.prog 11 #[.pointer (some ⟨c, 0, none⟩), .int .i64 frm, .agg (n.cells vp vo vv vh), .int .u64 stamp, .int .u64 mark] w (GSays w B c l g') := by
  obtain ⟨F, R, hG⟩ := hG
  have := ask B c F R E g n vp vo vv vh frm stamp mark w hT hG hB hok hv hkd hlen
  rw [hz] at this
  exact this.mono fun e w' h => h.says hB (fun k hk => (hG.low k hk).1)

/-- E: what lies above all that was there when the gather was last changed -/
theorem hearS (B c : Nat) (g : Gz) (n : Nt) (vp vo vv vh : Value) (frm : Int) (w0 w : World) (hT : Tab w) (hG : GHas w0 B c g) (hb : Below w0.heap.size w0 w) (hB : B ≤ w0.heap.size) (hok : GOk g) (hv : NoteV w (fun k => w0.heap.size ≤ k ∧ k < w.heap.size) n vp vo vv vh) (hkd : 0 ≤ n.kind ∧ n.kind ≤ 255) (hlen : n.parts.length ≤ 1000000 ∧ n.ops.length ≤ 1000000 ∧ n.vec.length ≤ 1000000 ∧ n.hits.length ≤ 1000000) {l : List (Int × Nt)} {g' : Gz} (hz : hearZ g frm n = (l, g')) :
    Calls Tryd.prog 13 #[.pointer (some ⟨c, 0, none⟩), .int .i64 frm, .agg (n.cells vp vo vv vh)] w (GSays w B c l g') := by
  obtain ⟨F, R, hG⟩ := hG
  have hB' : B ≤ w.heap.size := Nat.le_trans hB hb.size
  have := hear B c F R _ g n vp vo vv vh frm w hT (hG.below hb) hB' hok hv hkd hlen (fun k hk => ⟨hk.2, fun hf => by have := (hG.low k hf).2; omega⟩)
  rw [hz] at this
  exact this.mono fun e w' h => h.says hB' (fun k hk => (hG.low k hk).1)

theorem quitS (B c : Nat) (g : Gz) (w : World) (hG : GHas w B c g) (hB : B ≤ w.heap.size) (hl : g.l.length ≤ 1000) :
    Calls Tryd.prog 16 #[.pointer (some ⟨c, 0, none⟩)] w (GSays w B c (quitL g) {g with l := []}) := by
  obtain ⟨F, R, hG⟩ := hG
  exact (quit B c F R g w hG hB hl).mono fun e w' h => h.says hB (fun k hk => (hG.low k hk).1)

theorem wakeS (B c : Nat) (g : Gz) (w : World) (hG : GHas w B c g) (hB : B ≤ w.heap.size) (hok : GOk g) :
    Calls Tryd.prog 21 #[.pointer (some ⟨c, 0, none⟩)] w (GSays w B c (wakeL g) g) := by
  obtain ⟨F, R, hG⟩ := hG
  exact (wake B c F R g w hG hB hok).mono fun e w' h => h.says hB (fun k hk => (hG.low k hk).1)

theorem lenS (B c : Nat) (g : Gz) (w : World) (hG : GHas w B c g) :
    Calls Tryd.prog 15 #[.pointer (some ⟨c, 0, none⟩)] w fun e w' => e = .returned (.int .i64 g.l.length) ∧ w = w' := by
  obtain ⟨F, R, hG⟩ := hG
  exact glen B c F R g w hG

theorem oldestS (B c : Nat) (g : Gz) (s : Int) (w : World) (hG : GHas w B c g) (hl : g.l.length ≤ 1000) :
    Calls Tryd.prog 22 #[.pointer (some ⟨c, 0, none⟩), .int .u64 s] w fun e w' => e = .returned (.int .u64 (oldZ g.l s)) ∧ w = w' := by
  obtain ⟨F, R, hG⟩ := hG
  exact oldest B c F R g s w hG hl

theorem newS (shards dim base : Int) (w : World) (h : 1 ≤ shards ∧ shards ≤ 4 ∧ 1 ≤ dim ∧ dim ≤ 8) :
    Calls Tryd.prog 10 #[.int .i64 shards, .int .i64 dim, .int .u64 base] w fun e w' => ∃ c, e = .returned (.tuple #[.pointer (some ⟨c, 0, none⟩), .int .i64 0]) ∧ GHas w' w.heap.size c ⟨shards, dim, base, []⟩ ∧ Below w.heap.size w w' :=
  (newG shards dim base w h).mono fun e w' ⟨c, h1, h2, _, h4⟩ => ⟨c, h1, ⟨_, _, h2⟩, h4⟩

end Go.Proofs.YtfmlhdikagogcaaDoor

namespace Go.Proofs.YtfmlhdikagogcaaDoor
open Go.RowKit
set_option maxRecDepth 20000

theorem askQ_ok {g : Gz} (hg : GOk g) {frm stamp mark : Int} {n : Nt} (ho : oddB frm n 8 = false) : (askQ g frm n stamp mark).parts.length ≤ 4 ∧ (askQ g frm n stamp mark).note.vec.length ≤ 8 ∧ (askQ g frm n stamp mark).told.length < (askQ g frm n stamp mark).parts.length ∧ 0 ≤ (askQ g frm n stamp mark).note.k ∧ (askQ g frm n stamp mark).note.k ≤ 16 ∧ ∀ x ∈ (askQ g frm n stamp mark).told, x.2.length ≤ 16 ∧ ∀ h ∈ x.2, h.vec.length ≤ 8 := by
  have hr : rightN n = true := by unfold oddB at ho; simp at ho; exact ho.1.1.2
  have hk : n.kind = 8 := by unfold oddB at ho; simp at ho; exact ho.1.1.1
  have h1 := right_query hr hk
  have h2 := right_k hr
  have h3 := hg.shards
  refine ⟨?_, h1.2.1, ?_, h2.1, h2.2, fun x hx => absurd hx (by simp [askQ])⟩
  · unfold askQ
    split
    · simp
    · simp; omega
  · unfold askQ
    split
    · simp
    · simp; omega

theorem askZ_ok {g : Gz} (hg : GOk g) (frm : Int) (n : Nt) (stamp mark : Int) : GOk (askZ g frm n stamp mark).2 := by
  unfold askZ
  cases ho : oddB frm n 8
  · rw [if_neg (by simp)]
    cases g.l.find? (isQ frm n) with
    | some q => exact hg
    | none =>
      simp only
      split
      · exact hg
      · split
        · exact hg
        · rename_i h8
          refine ⟨by simp; omega, hg.shards, fun q hq => ?_⟩
          rcases List.mem_append.1 hq with hq | hq
          · exact hg.each q hq
          · rw [List.mem_singleton.1 hq]; exact askQ_ok hg ho
  · exact hg

theorem dropZ_ok {g : Gz} (hg : GOk g) (k : Nat) : GOk (dropZ g k) :=
  ⟨by have := List.length_eraseIdx_le g.l k; have := hg.most; simp only [dropZ]; omega, hg.shards, fun q hq => hg.each q (List.mem_of_mem_eraseIdx hq)⟩

theorem hearAt_ok {g : Gz} (hg : GOk g) {k : Nat} {q : Qs} (hq : q ∈ g.l) {frm : Int} {n : Nt} (ho : oddB frm n 10 = false) : GOk (hearAt g k q frm n).2 := by
  have hr := right_seen (n := n) (by unfold oddB at ho; simp at ho; exact ho.1.1.2) (by unfold oddB at ho; simp at ho; exact ho.1.1.1)
  unfold hearAt
  by_cases h1 : (hasTold q.told frm || !(q.parts.any fun y => decide (frm = y))) = true
  · rw [if_pos h1]; exact hg
  · rw [if_neg h1]
    by_cases h2 : n.code ≠ 0
    · rw [if_pos h2]; exact dropZ_ok hg k
    · rw [if_neg h2]
      by_cases h3 : q.told.length + 1 < q.parts.length
      · rw [if_pos h3]
        refine ⟨by simp [toldZ]; exact hg.most, hg.shards, fun x hx => ?_⟩
        rcases List.mem_or_eq_of_mem_set hx with hx | rfl
        · exact hg.each x hx
        · obtain ⟨a, b, c, d, e, f⟩ := hg.each q hq
          refine ⟨a, b, by simpa using h3, d, e, fun y hy => ?_⟩
          rcases List.mem_append.1 hy with hy | hy
          · exact f y hy
          · rw [List.mem_singleton.1 hy]
            refine ⟨hr.1, fun h hh => ?_⟩
            have := hr.2.1 h hh
            unfold badHit rightB at this
            simp at this
            omega
      · rw [if_neg h3]; exact dropZ_ok hg k

theorem hearZ_ok {g : Gz} (hg : GOk g) (frm : Int) (n : Nt) : GOk (hearZ g frm n).2 := by
  unfold hearZ
  cases ho : oddB frm n 10
  · rw [if_neg (by simp)]
    split
    · exact hg
    · split
      · exact hg
      · rename_i hk
        exact hearAt_ok hg (List.mem_of_getElem? hk) ho
  · exact hg

theorem quit_ok {g : Gz} (hg : GOk g) : GOk {g with l := []} := ⟨by simp, hg.shards, fun q hq => absurd hq (by simp)⟩

end Go.Proofs.YtfmlhdikagogcaaDoor

namespace Go.Proofs.YtfmlhdikagogcaaDoor
open Go.RowKit
set_option maxRecDepth 20000

theorem infoOp : (Tryd.prog.info? 105).map (fun i => (i.zero, i.size, i.bytes)) = some (some (.agg #[.int .u64 0, .slice none 0 0]), 2, 32) := by kernel_rfl
theorem rowOp : RowTy Tryd.prog 34 105 2 32 (.agg #[.int .u64 0, .slice none 0 0]) := ⟨Tryd.underlying34, infoOp, rfl, by decide⟩

/-- what Few answers: the first n of them, each vector cut at 10 -/
def fewZ (n : Nat) (l : List (Int × List Int)) : List (Int × List Int) := (l.take n).map fun r => (r.1, r.2.take 10)

theorem fewZ_snoc (n : Nat) (l : List (Int × List Int)) (k : Nat) (hk : k < l.length) (hn : k < n) : fewZ n (l.take (k + 1)) = fewZ n (l.take k) ++ [(l[k].1, l[k].2.take 10)] := by
  unfold fewZ
  have h1 : (l.take (k + 1)).take n = l.take (k + 1) := List.take_of_length_le (by simp; omega)
  have h2 : (l.take k).take n = l.take k := List.take_of_length_le (by simp; omega)
  rw [h1, h2, List.take_succ_eq_append_getElem hk, List.map_append]
  rfl

theorem fewZ_same (n : Nat) (l : List (Int × List Int)) (k : Nat) (hn : n ≤ k) : fewZ n (l.take (k + 1)) = fewZ n (l.take k) := by
  unfold fewZ
  rw [List.take_take, List.take_take]
  congr 2
  omega

theorem fewZ_length (n : Nat) (l : List (Int × List Int)) : (fewZ n l).length = min n l.length := by simp [fewZ]

/-- a new row of pairs of the call's own -/
def NewRecs (w : World) (e : Nat) (l : List (Int × List Int)) (r : Ending) (w' : World) : Prop :=
  ∃ v rs, r = .returned v ∧ w'.ownsRow w.heap.size e 2 v rs.length (flat2 rs) ∧ Held2 w' w.heap.size 21 rs l ∧ Below w.heap.size w w'

theorem few_step {n : Nat} {l : List (Int × List Int)} {k : Nat} {rs : List (Int × Value)} {w wr w4 w5 : World} {v v5 : Value} {u4 : Value} {e E B4 : Nat} {o : Obj} (hown : wr.ownsRow w.heap.size e 2 v rs.length (flat2 rs)) (hheld : Held2 wr w.heap.size E rs (fewZ n (l.take k))) (hb : Below w.heap.size w wr)
    (hlt : k < l.length) (h20 : k < n) (hu : w4.ownsRow B4 E 1 u4 (l[k].2.take (10 : Int).toNat).length ((l[k].2.take (10 : Int).toNat).map (Value.int .i32))) (hB4 : wr.heap.size ≤ B4) (hne : E ≠ e) (hb4 : Below wr.heap.size wr w4)
    (hown5 : w5.ownsRow w.heap.size e 2 v5 (rs.length + 1) (flat2 rs ++ (#[.int .u64 l[k].1, u4] : Array Value).toList)) (hg5 : (w4.alloc o).grownBy w5 v.ownBlock) :
    w5.ownsRow w.heap.size e 2 v5 (rs ++ [(l[k].1, u4)]).length (flat2 (rs ++ [(l[k].1, u4)])) ∧ Held2 w5 w.heap.size E (rs ++ [(l[k].1, u4)]) (fewZ n (l.take (k + 1))) ∧ Below w.heap.size w w5 := by
  have hown4 := (own_below hown hb4).alloc o
  have hheld4 := (hheld.below hb4).below ((Below.refl _ _).alloc (Nat.le_refl _) o)
  have hsz := hb.size
  have hsz4 := hb4.size
  refine ⟨by rw [flat2_append]; simpa [flat2] using hown5, ?_, ((hb.trans (hb4.mono hsz)).alloc (by omega) o).grown hg5 (by simp; omega) (fun b hbk => (hown.lt b hbk).1)⟩
  rw [fewZ_snoc n l k hlt h20]
  refine (hheld4.other hown4 hne hg5).snoc ?_ fun r hr => ?_
  · have := (hu.alloc o).kept hg5 (own_apart (hu.alloc o) hown4 hne)
    exact own_mono this (by omega)
  · cases hrb : r.2.ownBlock with
    | none => exact .inl rfl
    | some b =>
      right
      intro he
      have h1 := hheld.lt hr b hrb
      have h2 := hu.lt b he.symm
      omega

theorem few (n : Nat) (hn9 : n ≤ 1000) (l : List (Int × List Int)) (v : Value) (w : World) (h : Recs w v l) :
    Calls Tryd.prog 44 #[v, .int .i64 n] w (NewRecs w 105 (fewZ n l)) := by
  obtain ⟨p, cap, rfl, hcap, hbig, -, -⟩ := id h
  have hl : l.length ≤ 9223372036854775807 := by omega
  clear hcap hbig
  have H := Lib.hid h
  clear h
  go_enter Tryd.func44, Tryd.ntmps44
  go_wp2_with fail
  go_loopg [5, 10] l.length (fun q out i wr => ∃ (k : Nat) (rs : List (Int × Value)), q = l.length - k ∧ k ≤ l.length ∧ i = .int .i64 k ∧ rs.length = min n k ∧ wr.ownsRow w.heap.size 105 2 out rs.length (flat2 rs) ∧ Held2 wr w.heap.size 21 rs (fewZ n (l.take k)) ∧ Below w.heap.size w wr)
  case atStart => exact ⟨0, [], rfl, by omega, rfl, by simp, World.ownsRow_nil _ _ _ _, by simpa [fewZ] using Held2.nil _ _ _, Below.refl _ _⟩
  case round =>
    obtain ⟨k, rs, rfl, hk, rfl, hlen, hown, hheld, hb⟩ := hrel
    by_cases hlt : k < l.length
    · obtain ⟨b, off, u, rfl, c0, c1, hu⟩ := (H.out.below hb).elem hlt
      obtain ⟨up, ucap, rfl, -, -, -, -⟩ := id hu.slice
      have O := Lib.hid (And.intro hown (And.intro hheld hb))
      have hl20 : rs.length ≤ n := by omega
      have L := Lib.hid hlen
      clear hlen
      have U := Lib.hid hu
      have hsz := hb.size
      clear hown hheld hb hu
      by_cases h20 : k < n
      · go_wp2_with fail
        refine region_go (fun w' => w'.cell? ⟨wr.heap.size, 0, none⟩ = some (.int .u64 l[k].1) ∧ w'.cell? ⟨wr.heap.size, 1, none⟩ = some (.slice up l[k].2.length ucap)) (by kernel_rfl) ?hS0 (fun hH => ?_)
        case hS0 =>
          exact ⟨by go_simp, by go_simp⟩
        refine kY 0 hH ?_
        repeat simp only [Act.put, uA1, uB1, uC1]
        refine kY 1 hH ?_
        repeat simp only [Act.put, uA1, uB1, uC1]
        refine kY 2 hH ?_
        repeat simp only [Act.put, uA1, uB1, uC1]
        refine kY 3 hH ?_
        repeat simp only [Act.put, uA1, uB1, uC1]
        refine kY 4 hH ?_
        repeat simp only [Act.put, uA1, uB1, uC1]
        refine spk 5 rfl (by decide +kernel) (by rfl) (fun K' hK => ?_)
        go_simp
        have hbW := ((Below.refl wr.heap.size wr).alloc (Nat.le_refl _) (Obj.cells #[Value.int IntKind.u64 l[k].fst, Value.slice up l[k].snd.length ucap] 105)).drew
        refine (cutVec l[k].2 _ 10 _ (U.out.below hbW) (by decide) (.inr (by decide))).mono ?_
        intro e w4 hN
        obtain ⟨u4, rfl, hu4, hb4⟩ := hN
        obtain ⟨q4, n4, c4, rfl⟩ := own_form hu4
        have hb04 := hbW.trans (hb4.mono (by simp))
        obtain ⟨g5, c5, w5, hrun, hown5, hg5, hat5, -⟩ := run_push rowOp (own_below O.out.1 hb04) (by have := hb04.size; omega) #[.int .u64 l[k].1, .slice q4 n4 c4] rfl (by simp [Value.oneCell']) (by simp [maxLen]; omega) (by omega)
        have hk5 : ∀ (j : Nat) (v : Value), (w4.alloc (.cells #[.int .u64 l[k].1, .slice q4 n4 c4] 105)).cell? ⟨wr.heap.size, j, none⟩ = some v → w5.cell? ⟨wr.heap.size, j, none⟩ = some v := fun j v hc => hg5.cell hc (fun e => Nat.lt_irrefl _ (O.out.1.lt _ e.symm).2)
        have F := Lib.hid (few_step O.out.1 O.out.2.1 O.out.2.2 hlt h20 hu4 (by simp) (by decide) hb04 hown5 hg5)
        clear hbW hb04 hown5 hg5 hat5 hu4
        try dsimp only
        refine hK.out _ _ ?hS (fun hH' => ?_)
        case hS =>
          exact ⟨below_cells hb4 hH.1, below_cells hb4 hH.2⟩
        clear hK K' hH; have hH := hH'; clear hH'; repeat simp only [Act.put, uA1, uB1, uC1]
        refine kY 6 hH ?_
        repeat simp only [Act.put, uA1, uB1, uC1]
        refine spk 7 rfl (by decide +kernel) (by rfl) (fun K' hK => ?_)
        go_simp
        try dsimp only
        refine hK.out _ _ ?hS (fun hH' => ?_)
        case hS =>
          exact ⟨by rw [World.cell?_alloc_lt _ _ _ (lt_of_cell hH.1)]; exact hH.1, by rw [World.cell?_alloc_lt _ _ _ (lt_of_cell hH.2)]; exact hH.2⟩
        clear hK K' hH; have hH := hH'; clear hH'; repeat simp only [Act.put, uA1, uB1, uC1]
        refine spk 8 rfl (by decide +kernel) (by rfl) (fun K' hK => ?_)
        refine wp_append_eq hrun _ _ rfl rfl rfl ?_
        try dsimp only
        refine hK.out _ _ ?hS (fun hH' => ?_)
        case hS =>
          exact ⟨hk5 _ _ hH.1, hk5 _ _ hH.2⟩
        clear hK K' hH; have hH := hH'; clear hH'; repeat simp only [Act.put, uA1, uB1, uC1]
        refine kY 9 hH ?_
        repeat simp only [Act.put, uA1, uB1, uC1]
        refine wpAnyH_done (by decide +kernel) ?_ _
        go_wp2_with fail
        go_roundg (l.length - (k + 1))
        case measure => omega
        case rel => exact ⟨k + 1, rs ++ [(l[k].1, .slice q4 n4 c4)], rfl, by omega, by go_num, by have := L.out; rw [List.length_append, this]; simp; omega, F.out⟩
      · go_wp2_with fail
        go_roundg (l.length - (k + 1))
        case measure => omega
        case rel => exact ⟨k + 1, rs, rfl, by omega, by go_num, by have := L.out; omega, O.out.1.alloc _, by rw [fewZ_same n l k (by omega)]; exact O.out.2.1.below ((Below.refl _ _).alloc (Nat.le_refl _) _), O.out.2.2.alloc hsz _⟩
    · obtain rfl : k = l.length := by omega
      go_wp2_with fail
      go_ret
      exact ⟨_, rs, rfl, hown, by rw [List.take_length] at hheld; exact hheld, hb⟩

theorem Held2.recsF {w : World} {B e n : Nat} {v : Value} {rs : List (Int × Value)} {l : List (Int × List Int)} {B' E : Nat} (h : w.ownsRow B e 2 v n (flat2 rs)) (hh : Held2 w B' E rs l) (hB : B ≤ B') : RecsF w (fun k => B ≤ k ∧ k < w.heap.size) v l :=
  RecsF.of_own h (fun b hb => h.lt b hb) hh.len fun i h1 h2 => ⟨(hh.own i h1 h2).1, Nums.of_own (hh.own i h1 h2).2, fun _ b hb => by have := (hh.own i h1 h2).2.lt b hb; omega⟩

end Go.Proofs.YtfmlhdikagogcaaDoor
