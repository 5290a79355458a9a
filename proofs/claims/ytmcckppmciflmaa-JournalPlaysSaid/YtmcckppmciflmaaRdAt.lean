/-
  A DISK IN MEMORY (the document's): its block, the row of safe sectors, the row of dirty ones. Bytes are never written in place.
-/
import Derived.Test.YtmcckppmciflmaaDkAt
namespace Go.Proofs.Ytmcckppmciflmaa
open Go.RowKit

def DirtR : Rec (Int × SV) := ⟨2, fun p => [.int .i64 p.1, p.2.val], fun _ => rfl, fun p u hu => by
  simp at hu
  rcases hu with rfl | rfl <;> rfl⟩
theorem dirtK : DirtR.k = 2 := rfl
theorem infoDirty : (Try.prog.info? 111).map (fun i => (i.zero, i.size, i.bytes)) = some (some (.agg #[.int .i64 0, .slice none 0 0]), 2, 32) := by kernel_rfl
theorem el_dirts : Elem Try.prog 89 111 DirtR.k 32 := Elem.mk' Try.underlying89 infoDirty (by decide) rfl

/-- bytes among what is ours -/
structure Buf (w : World) (F : Nat → Prop) (s : SV) (b : Bs) : Prop where
  row : RowAt 5 ByteR w s.val b
  own : ∀ k, s.val.ownBlock = some k → F k
theorem Buf.mono {w : World} {F G : Nat → Prop} {s : SV} {b : Bs} (h : Buf w F s b) (hg : ∀ k, F k → G k) : Buf w G s b := ⟨h.row, fun k hk => hg k (h.own k hk)⟩
/-- what is changed is no row of bytes -/
theorem Buf.keep {w w' : World} {F G S : Nat → Prop} {s : SV} {b : Bs} (h : Buf w F s b) (hf : Fr S w w') (hS : ∀ k, S k → ∀ cur, w.heap[k]? ≠ some (.cells cur 5 (0, 0))) (hg : ∀ k, F k → G k) : Buf w' G s b :=
  ⟨h.row.fr hf (fun k hk hs => by obtain ⟨cur, e⟩ := h.row.kind hk; exact hS k hs cur e), fun k hk => hg k (h.own k hk)⟩
/-- what is ours after new blocks have come -/
def newF (F : Nat → Prop) (w w' : World) : Nat → Prop := fun k => F k ∨ (w.heap.size ≤ k ∧ k < w'.heap.size)

structure RDiskIn (l : Nat) (d : DK) (w : World) (F : Nat → Prop) (acts part : Int) (sv dv : SV) (ss : List SV) (ps : List (Int × SV)) : Prop where
  box : w.heap[l]? = some (.cells #[sv.val, dv.val, .int .i64 d.size, .bool d.off, .bool d.arm.isSome, .int .i64 acts, .int .i64 part] 91 (0, 0))
  arm : ∀ a p, d.arm = some (a, p) → acts = a ∧ part = p
  rows : RowAt 23 SliceR w sv.val ss
  len : ss.length = d.safe.length
  bufs : ∀ (i : Nat) (s : SV) (b : Bs), ss[i]? = some s → d.safe[i]? = some b → Buf w F s b
  drow : RowAt 111 DirtR w dv.val ps
  dlen : ps.length = d.dirty.length
  dbufs : ∀ (i : Nat) (p : Int × SV) (q : Nat × Bs), ps[i]? = some p → d.dirty[i]? = some q → p.1 = q.1 ∧ Buf w F p.2 q.2
  hl : F l
  hs : ∀ k, sv.val.ownBlock = some k → F k
  hd : ∀ k, dv.val.ownBlock = some k → F k
  lt : ∀ k, F k → k < w.heap.size
  good : d.Good
def RDiskAt (l : Nat) (d : DK) : Thing := fun w F => ∃ acts part sv dv ss ps, RDiskIn l d w F acts part sv dv ss ps

namespace RDiskIn
variable {l : Nat} {d : DK} {w w' : World} {F : Nat → Prop} {acts part : Int} {sv dv : SV} {ss : List SV} {ps : List (Int × SV)}
theorem fr {S : Nat → Prop} (h : RDiskIn l d w F acts part sv dv ss ps) (hf : Fr S w w') (hn : ∀ k, F k → ¬ S k) : RDiskIn l d w' F acts part sv dv ss ps where
  box := hf.obj h.box (hn _ h.hl)
  arm := h.arm
  rows := h.rows.fr hf (fun k hk => hn k (h.hs k hk))
  len := h.len
  bufs := fun i s b h1 h2 => ⟨(h.bufs i s b h1 h2).row.fr hf (fun k hk => hn k ((h.bufs i s b h1 h2).own k hk)), (h.bufs i s b h1 h2).own⟩
  drow := h.drow.fr hf (fun k hk => hn k (h.hd k hk))
  dlen := h.dlen
  dbufs := fun i p q h1 h2 => ⟨(h.dbufs i p q h1 h2).1, (h.dbufs i p q h1 h2).2.row.fr hf (fun k hk => hn k ((h.dbufs i p q h1 h2).2.own k hk)), (h.dbufs i p q h1 h2).2.own⟩
  hl := h.hl
  hs := h.hs
  hd := h.hd
  lt := fun k hk => Nat.lt_of_lt_of_le (h.lt k hk) hf.size
  good := h.good
theorem no_l (h : RDiskIn l d w F acts part sv dv ss ps) : ∀ cur, w.heap[l]? ≠ some (.cells cur 5 (0, 0)) := fun cur e => by rw [h.box] at e; simp at e
theorem l_rows (h : RDiskIn l d w F acts part sv dv ss ps) : sv.val.ownBlock ≠ some l := by
  intro e
  obtain ⟨cur, hb⟩ := h.rows.kind e
  rw [h.box] at hb
  simp at hb
theorem l_drow (h : RDiskIn l d w F acts part sv dv ss ps) : dv.val.ownBlock ≠ some l := by
  intro e
  obtain ⟨cur, hb⟩ := h.drow.kind e
  rw [h.box] at hb
  simp at hb
theorem rows_drow (h : RDiskIn l d w F acts part sv dv ss ps) {k : Nat} (h1 : sv.val.ownBlock = some k) : dv.val.ownBlock ≠ some k := by
  intro e
  obtain ⟨c1, hb1⟩ := h.rows.kind h1
  obtain ⟨c2, hb2⟩ := h.drow.kind e
  rw [hb1] at hb2
  simp at hb2
theorem no_rows (h : RDiskIn l d w F acts part sv dv ss ps) {k : Nat} (h1 : sv.val.ownBlock = some k) : ∀ cur, w.heap[k]? ≠ some (.cells cur 5 (0, 0)) := fun cur e => by
  obtain ⟨c1, hb1⟩ := h.rows.kind h1
  rw [hb1] at e
  simp at e
theorem cells (h : RDiskIn l d w F acts part sv dv ss ps) : w.cell? ⟨l, 0, none⟩ = some sv.val ∧ w.cell? ⟨l, 1, none⟩ = some dv.val ∧ w.cell? ⟨l, 2, none⟩ = some (.int .i64 d.size) ∧ w.cell? ⟨l, 3, none⟩ = some (.bool d.off) ∧ w.cell? ⟨l, 4, none⟩ = some (.bool d.arm.isSome) ∧ w.cell? ⟨l, 5, none⟩ = some (.int .i64 acts) ∧ w.cell? ⟨l, 6, none⟩ = some (.int .i64 part) :=
  ⟨by simpa using cell_of h.box 0, by simpa using cell_of h.box 1, by simpa using cell_of h.box 2, by simpa using cell_of h.box 3, by simpa using cell_of h.box 4, by simpa using cell_of h.box 5, by simpa using cell_of h.box 6⟩
/-- the power's cells are written -/
theorem power (h : RDiskIn l d w F acts part sv dv ss ps) (hf : Fr (fun k => k = l) w w') {off : Bool} {arm : Option (Nat × Int)} {acts' part' : Int} (hb : w'.heap[l]? = some (.cells #[sv.val, dv.val, .int .i64 d.size, .bool off, .bool arm.isSome, .int .i64 acts', .int .i64 part'] 91 (0, 0)))
    (ha : ∀ a p, arm = some (a, p) → acts' = a ∧ part' = p) (hg : ({ d with off := off, arm := arm } : DK).Good) : RDiskIn l { d with off := off, arm := arm } w' F acts' part' sv dv ss ps where
  box := hb
  arm := ha
  rows := h.rows.fr hf (fun _ hk e => h.l_rows (e ▸ hk))
  len := h.len
  bufs := fun i s b h1 h2 => (h.bufs i s b h1 h2).keep hf (fun k hk => by subst hk; exact h.no_l) (fun _ x => x)
  drow := h.drow.fr hf (fun _ hk e => h.l_drow (e ▸ hk))
  dlen := h.dlen
  dbufs := fun i p q h1 h2 => ⟨(h.dbufs i p q h1 h2).1, (h.dbufs i p q h1 h2).2.keep hf (fun k hk => by subst hk; exact h.no_l) (fun _ x => x)⟩
  hl := h.hl
  hs := h.hs
  hd := h.hd
  lt := fun k hk => Nat.lt_of_lt_of_le (h.lt k hk) hf.size
  good := hg
/-- a sector's safe bytes are others -/
theorem land (h : RDiskIn l d w F acts part sv dv ss ps) {n : Nat} {nb : Bs} {s' : SV} (hnb : nb.length = d.size) {B : Nat} (hB : sv.val.ownBlock = some B) (hf : Fr (fun k => k = B) w w') (hrow : RowAt 23 SliceR w' sv.val (ss.set n s')) (hs : RowAt 5 ByteR w' s'.val nb) (hown : ∀ k, s'.val.ownBlock = some k → F k ∨ w.heap.size ≤ k) :
    RDiskIn l { d with safe := d.safe.set n nb } w' (newF F w w') acts part sv dv (ss.set n s') ps ∧ Step F (newF F w w') w w' := by
  have hk : ∀ {s : SV} {b : Bs}, Buf w F s b → Buf w' (newF F w w') s b := fun hb => hb.keep hf (fun k hk => by subst hk; exact h.no_rows hB) (fun k x => .inl x)
  refine ⟨⟨hf.obj h.box (fun e => h.l_rows (by rw [hB, e])), h.arm, hrow, by simp [h.len], ?_, h.drow.fr hf (fun k hk e => h.rows_drow hB (e ▸ hk)), h.dlen, fun i p q h1 h2 => ⟨(h.dbufs i p q h1 h2).1, hk (h.dbufs i p q h1 h2).2⟩, .inl h.hl, fun k hk => .inl (h.hs k hk), fun k hk => .inl (h.hd k hk), ?_, ?_⟩, hf.mono (fun k hk => by subst hk; exact h.hs _ hB), fun k hk => hk.imp (fun x => x) (fun x => x.1)⟩
  · intro i s b h1 h2
    have h2' : (d.safe.set n nb)[i]? = some b := h2
    rw [List.getElem?_set] at h1 h2'
    by_cases e : n = i
    · subst e
      have hlt := (List.getElem?_eq_some_iff.1 h2)
      by_cases hn : n < ss.length
      · rw [if_pos rfl, if_pos hn] at h1
        rw [if_pos rfl, if_pos (by rw [← h.len]; exact hn)] at h2'
        cases h1
        cases h2'
        exact ⟨hs, fun k hk => (hown k hk).imp (fun x => x) (fun x => ⟨x, hs.lt k hk⟩)⟩
      · rw [if_pos rfl, if_neg hn] at h1
        cases h1
    · rw [if_neg e] at h1 h2'
      exact hk (h.bufs i s b h1 h2')
  · rintro k (hk | hk)
    · exact Nat.lt_of_lt_of_le (h.lt k hk) hf.size
    · exact hk.2
  · refine ⟨h.good.s0, h.good.s1, by show (d.safe.set n nb).length ≤ _; rw [List.length_set]; exact h.good.n1, ?_, h.good.rise, ?_, h.good.arm⟩
    · intro c hc
      rcases List.mem_or_eq_of_mem_set hc with hc | rfl
      · exact h.good.sizes c hc
      · exact hnb
    · intro p hp
      show p.1 < (d.safe.set n nb).length ∧ _
      rw [List.length_set]
      exact h.good.there p hp
/-- the dirty sectors are others -/
theorem setD (h : RDiskIn l d w F acts part sv dv ss ps) (hf : Fr (fun k => k = l) w w') {dv' : SV} {ps' : List (Int × SV)} {dirty' : Dirt} (hb : w'.heap[l]? = some (.cells #[sv.val, dv'.val, .int .i64 d.size, .bool d.off, .bool d.arm.isSome, .int .i64 acts, .int .i64 part] 91 (0, 0)))
    (hr : RowAt 111 DirtR w' dv'.val ps') (hl : ps'.length = dirty'.length) (hown : ∀ k, dv'.val.ownBlock = some k → F k ∨ w.heap.size ≤ k)
    (hd : ∀ (i : Nat) (p : Int × SV) (q : Nat × Bs), ps'[i]? = some p → dirty'[i]? = some q → p.1 = q.1 ∧ RowAt 5 ByteR w' p.2.val q.2 ∧ ∀ k, p.2.val.ownBlock = some k → F k ∨ w.heap.size ≤ k) (hg : ({ d with dirty := dirty' } : DK).Good) :
    RDiskIn l { d with dirty := dirty' } w' (newF F w w') acts part sv dv' ss ps' ∧ Step F (newF F w w') w w' := by
  refine ⟨⟨hb, h.arm, h.rows.fr hf (fun _ hk e => h.l_rows (e ▸ hk)), h.len, fun i s b h1 h2 => (h.bufs i s b h1 h2).keep hf (fun k hk => by subst hk; exact h.no_l) (fun _ x => .inl x), hr, hl, ?_, .inl h.hl, fun k hk => .inl (h.hs k hk), ?_, ?_, hg⟩, hf.mono (fun k hk => by subst hk; exact h.hl), fun k hk => hk.imp (fun x => x) (fun x => x.1)⟩
  · intro i p q h1 h2
    obtain ⟨e, h3, h4⟩ := hd i p q h1 h2
    exact ⟨e, h3, fun k hk => (h4 k hk).imp (fun x => x) (fun x => ⟨x, h3.lt k hk⟩)⟩
  · exact fun k hk => (hown k hk).imp (fun x => x) (fun x => ⟨x, hr.lt k hk⟩)
  · rintro k (hk | hk)
    · exact Nat.lt_of_lt_of_le (h.lt k hk) hf.size
    · exact hk.2
/-- one more sector -/
theorem grow {w1 w2 : World} (h : RDiskIn l d w F acts part sv dv ss ps) (f1 : Fr noBlock w w1) {sv' s' : SV} {b : Bs} (hb : b.length = d.size) (hs : RowAt 5 ByteR w1 s'.val b) (hnew : ∀ k, s'.val.ownBlock = some k → w.heap.size ≤ k)
    (hr : RowAt 23 SliceR w2 sv'.val (ss ++ [s'])) (hg : w1.grownBy w2 sv.val.ownBlock) (hat : sv'.val.ownBlock = sv.val.ownBlock ∨ sv'.val.ownBlock = some w1.heap.size) (hn : d.safe.length + 1 ≤ 4096) :
    RDiskIn l { d with safe := d.safe ++ [b] } (w2.setCell ⟨l, 0, none⟩ sv'.val) (newF F w (w2.setCell ⟨l, 0, none⟩ sv'.val)) acts part sv' dv (ss ++ [s']) ps ∧ Step F (newF F w (w2.setCell ⟨l, 0, none⟩ sv'.val)) w (w2.setCell ⟨l, 0, none⟩ sv'.val) := by
  have h1 := h.fr f1 (fun _ _ x => x)
  have fg : Fr (fun k => sv.val.ownBlock = some k) w1 w2 := (Fr.refl _ w1).grown hg (fun k hk => .inl hk)
  have fs : Fr (fun k => k = l) w2 (w2.setCell ⟨l, 0, none⟩ sv'.val) := (Fr.refl (fun k => k = l) w2).setCell (p := ⟨l, 0, none⟩) (.inl rfl) _
  have hbox2 : w2.heap[l]? = _ := fg.obj h1.box (fun e => h1.l_rows e)
  have hno2 : ∀ cur, w2.heap[l]? ≠ some (.cells cur 5 (0, 0)) := fun cur e => by rw [hbox2] at e; simp at e
  have hbuf : ∀ {s : SV} {c : Bs} {G : Nat → Prop}, Buf w1 G s c → Buf (w2.setCell ⟨l, 0, none⟩ sv'.val) G s c := fun hb' => (hb'.keep fg (fun k hk => h1.no_rows hk) (fun _ x => x)).keep fs (fun k hk => by subst hk; exact hno2) (fun _ x => x)
  have hd2 : RowAt 111 DirtR w2 dv.val ps := h1.drow.fr fg (fun k hk e => h1.rows_drow e hk)
  have hfr : Fr F w (w2.setCell ⟨l, 0, none⟩ sv'.val) := ((f1.mono (fun _ x => x.elim)).trans (fg.mono (fun k hk => show F k from h.hs k hk)) (fun k hk => .inl hk)).trans (fs.mono (fun k hk => show F k from by subst hk; exact h.hl)) (fun k hk => .inl hk)
  have hr2 : RowAt 23 SliceR (w2.setCell ⟨l, 0, none⟩ sv'.val) sv'.val (ss ++ [s']) := hr.fr fs (fun k hk e => by
    obtain ⟨cur, hcur⟩ := hr.kind hk
    rw [e, hbox2] at hcur
    simp at hcur)
  refine ⟨⟨?_, h.arm, hr2, by simp [h.len], ?_, hd2.fr fs (fun _ hk e => h.l_drow (e ▸ hk)), h.dlen, fun i p q e1 e2 => ⟨(h.dbufs i p q e1 e2).1, (hbuf (h1.dbufs i p q e1 e2).2).mono (fun _ x => .inl x)⟩, .inl h.hl, ?_, fun k hk => .inl (h.hd k hk), ?_, ?_⟩, hfr, fun k hk => hk.imp (fun x => x) (fun x => x.1)⟩
  · have := heap_set_eq (i := 0) (u := sv'.val) hbox2
    simpa using this
  · intro i s c e1 e2
    have e2' : (d.safe ++ [b])[i]? = some c := e2
    by_cases hi : i < ss.length
    · rw [List.getElem?_append_left hi] at e1
      rw [List.getElem?_append_left (by rw [← h.len]; exact hi)] at e2'
      exact (hbuf (h1.bufs i s c e1 e2')).mono (fun _ x => .inl x)
    · have hlt := (List.getElem?_eq_some_iff.1 e1).1
      simp at hlt
      have hi' : i = ss.length := by omega
      subst hi'
      rw [List.getElem?_append_right (Nat.le_refl _)] at e1
      rw [List.getElem?_append_right (by rw [h.len]; exact Nat.le_refl _), h.len] at e2'
      simp at e1 e2'
      subst e1 e2'
      have hb2 : Buf w1 (fun k => w.heap.size ≤ k) s' b := ⟨hs, hnew⟩
      have hb3 := hbuf hb2
      exact ⟨hb3.row, fun k hk => .inr ⟨hnew k hk, hb3.row.lt k hk⟩⟩
  · intro k hk
    rcases hat with e | e
    · exact .inl (h.hs k (e ▸ hk))
    · have := f1.size
      refine .inr ⟨?_, hr2.lt k hk⟩
      rw [e] at hk
      cases hk
      exact this
  · rintro k (hk | hk)
    · exact Nat.lt_of_lt_of_le (h.lt k hk) hfr.size
    · exact hk.2
  · refine ⟨h.good.s0, h.good.s1, by show (d.safe ++ [b]).length ≤ 4096; simpa using hn, ?_, h.good.rise, ?_, h.good.arm⟩
    · intro c hc
      rcases List.mem_append.1 hc with hc | hc
      · exact h.good.sizes c hc
      · simp at hc; subst hc; exact hb
    · intro p hp
      have := h.good.there p hp
      exact ⟨by show p.1 < (d.safe ++ [b]).length; simp; omega, this.2⟩
end RDiskIn

theorem RDiskAt.ok {l : Nat} {d : DK} : (RDiskAt l d).Ok :=
  ⟨fun ⟨_, _, _, _, _, _, h⟩ => h.lt, fun ⟨a, p, sv, dv, ss, ps, h⟩ hf hs => ⟨a, p, sv, dv, ss, ps, h.fr hf hs⟩⟩
theorem RDiskAt.good {l : Nat} {d : DK} {w : World} {F : Nat → Prop} (h : RDiskAt l d w F) : d.Good := by obtain ⟨_, _, _, _, _, _, h⟩ := h; exact h.good
end Go.Proofs.Ytmcckppmciflmaa
