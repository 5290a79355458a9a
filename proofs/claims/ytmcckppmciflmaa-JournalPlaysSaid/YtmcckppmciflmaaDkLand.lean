/-
  THE WALK of disk.land.
-/
import Derived.Deep.RegionLaw
import Derived.Test.YtmcckppmciflmaaDkWrite
import Derived.Test.YtmcckppmciflmaaCopy
namespace Go.Proofs.Ytmcckppmciflmaa
open Go.RowKit

/-- a row of bytes that is not empty, as a slice value -/
theorem sv_form {w : World} {s : SV} {b : Bs} (h : RowAt 5 ByteR w s.val b) (h0 : 0 < b.length) : ∃ g cap, s = ⟨some ⟨g, 0, none⟩, b.length, cap⟩ ∧ b.length ≤ cap ∧ s.val.ownBlock = some g := by
  obtain ⟨ao, n, c⟩ := s
  obtain ⟨g, cap, e, h1, h2⟩ := h.block' h0
  simp only [SV.val, Value.slice.injEq] at e
  obtain ⟨rfl, rfl, rfl⟩ := e
  exact ⟨g, _, rfl, h1, h2⟩
theorem rows_form {w : World} {sv : SV} {ss : List SV} (h : RowAt 23 SliceR w sv.val ss) (h0 : 0 < ss.length) : ∃ g cap, sv = ⟨some ⟨g, 0, none⟩, ss.length, cap⟩ ∧ ss.length ≤ cap ∧ ∀ i, (hi : i < ss.length) → w.cell? ⟨g, i, none⟩ = some ss[i].val ∧ w.frozen? ⟨g, i, none⟩ = false := by
  obtain ⟨ao, n, c⟩ := sv
  obtain ⟨g, cap, e, h1, h2⟩ := h.block' h0
  simp only [SV.val, Value.slice.injEq] at e
  obtain ⟨rfl, rfl, rfl⟩ := e
  refine ⟨g, _, rfl, h1, fun i hi => ?_⟩
  obtain ⟨g', e', _, _, _, h3, h4⟩ := RowAt.elem h hi
  cases e'
  have hk : SliceR.k = 1 := rfl
  have := h3 0 ss[i].val rfl
  exact ⟨by simpa [hk] using this, h4 _⟩

def LandP (l : Nat) (d' : DK) (F : Nat → Prop) (w : World) (e : Ending) (w' : World) : Prop := ∃ F', e = .returned (.tuple #[]) ∧ DiskAt l d' w' F' ∧ Step F F' w w'
set_option maxRecDepth 100000 in
set_option maxHeartbeats 800000 in
theorem land_any {l : Nat} {d : DK} {w : World} {F : Nat → Prop} (h : DiskAt l d w F) {n : Nat} {b : Bs} {rest : Dirt} (hd : d.dirty = (n, b) :: rest) (k : Nat) (hk : k ≤ d.size) :
    Calls Try.prog 40 #[.pointer (some ⟨l, 0, none⟩), .int .i64 n, .int .i64 k] w (LandP l { d with safe := d.safe.set n (b.take k ++ (d.safe.getD n []).drop k), dirty := rest } F w) := by
  obtain ⟨acts, part, sv, ss, bm, g, hin⟩ := h
  have hgood := hin.good
  obtain ⟨hnl, hbl⟩ := hgood.there (n, b) (by rw [hd]; simp)
  simp only at hnl hbl
  have hns : n < ss.length := by rw [hin.len]; exact hnl
  have hs0 := hgood.s0
  have hs1 := hgood.s1
  have hn1 := hgood.n1
  obtain ⟨a0, ha0⟩ : ∃ a0, d.safe.getD n [] = a0 := ⟨_, rfl⟩
  have hsafe : d.safe[n]? = some a0 := by rw [← ha0]; simp [List.getD, List.getElem?_eq_getElem hnl]
  have hal : a0.length = d.size := hgood.sizes _ (List.mem_of_getElem? hsafe)
  rw [ha0]
  obtain ⟨c0, c1, c2, c3, c4, c5, c6⟩ := hin.cells
  have hsn : ss[n]? = some ss[n] := List.getElem?_eq_getElem hns
  have hbuf := hin.bufs n ss[n] a0 hsn hsafe
  obtain ⟨gs, cs, es, hcs, hown⟩ := sv_form hbuf (by omega)
  obtain ⟨gr, cr, er, hcr, hel⟩ := rows_form hin.rows (by omega)
  obtain ⟨x0, _⟩ := hel n hns
  have hlk : lookD d.dirty n = some b := by rw [hd, lookD_cons, if_pos rfl]
  have hgs : (g n).isSome = true := by rw [hin.dirt n, hlk]; rfl
  obtain ⟨t, ht⟩ := Option.isSome_iff_exists.1 hgs
  have htb := hin.dbufs n t b ht hlk
  obtain ⟨gt, ct, et, hct, htown⟩ := sv_form htb (by omega)
  have hne : gt ≠ gs := fun e => hin.dapart n t ss[n] gs ht (List.getElem_mem hns) (by rw [htown, e]) hown
  have hlook := fun (W : World) (hW : Fr noBlock w W) => (hin.map.fr hW (fun x => x)).look1 (mt := 41) Try.underlying41 (zero_bytes W) (kI_ok (by omega) (by omega) : kI.ok (n : Int))
  simp only [ht, Option.map_some, Option.getD_some] at hlook
  -- the rest of it: what is stored, then struck
  have hrest := fun (w1 : World) (hr : RowAt 5 ByteR w1 (.slice (some ⟨gs, 0, none⟩) d.size cs) (a0.take 0 ++ b.take k ++ a0.drop (0 + k))) (hf : Fr (fun q => q = gs) w w1) =>
    (show w1.cell? ⟨l, 6, none⟩ = some (.map (some bm)) ∧ ∃ w2, (∀ ty, (Builtin.delete_ #[41, 3] ty #[.map (some bm), .int .i64 n]).run Try.prog w1 = .ok (.tuple #[]) w2) ∧ ∃ F', DiskAt l { d with safe := d.safe.set n (b.take k ++ a0.drop k), dirty := rest } w2 F' ∧ Step F F' w w2 by
      have hgl : l ≠ gs := fun e => hin.buf_l hbuf (by rw [hown, e])
      have hgm : bm ≠ gs := fun e => hin.buf_bm hbuf (by rw [hown, e])
      have hm1 := hin.map.fr hf hgm
      obtain ⟨w2, hdel, hm2, ht2⟩ := hm1.drop (mt := 41) Try.underlying41 (kI_ok (by omega) (by omega) : kI.ok (n : Int))
      simp only [ht, Option.map_some, Option.isSome_some, if_true] at hm2
      have hr' : RowAt 5 ByteR w1 ss[n].val (b.take k ++ a0.drop k) := by rw [es]; simpa [SV.val, hal] using hr
      obtain ⟨F', h2, s2⟩ := hin.land hd hsn hown (nb := b.take k ++ a0.drop k) (by simp; omega) hf hr' (by rw [hd] at hm2; simpa using hm2) ht2
      exact ⟨(hf.cell (p := ⟨l, 6, none⟩) (heap_lt hin.box) hgl).trans c6, w2, hdel, F', ⟨_, _, _, _, _, _, h2⟩, s2⟩)
  have Hrest := Lib.hid hrest
  have HL := Lib.hid hlook
  rw [er] at c5
  rw [es] at x0
  rw [et] at HL
  unfold SV.val at c5 x0 HL
  simp only at c5 x0 HL
  have Hbuf := Lib.hid (show RowAt 5 ByteR w (.slice (some ⟨gs, 0, none⟩) d.size cs) a0 by rw [es] at hbuf; simpa [SV.val, hal] using hbuf)
  have Htb := Lib.hid (show RowRd ByteR w (some ⟨gt, 0, none⟩) b by rw [et] at htb; exact RowAt.rd htb)
  have i1 : (0 : Int) ≤ (n : Int) := by omega
  have i2 : (n : Int) < (ss.length : Int) := by omega
  have i3 : (0 : Int) ≤ (k : Int) := by omega
  have i4 : (k : Int) ≤ (ct : Int) := by omega
  have hkb : k ≤ b.length := by omega
  have hka : k ≤ a0.length := by omega
  have hl1 : (Instr.lookup 41 (.map (some bm)) (.int .i64 n) false).run Try.prog w.drew = .ok (.slice (some ⟨gt, 0, none⟩) b.length ct) w.drew := HL.out w.drew ((Fr.refl _ _).drew)
  clear hal hbl
  clear c0 c1 c2 c3 c4 hrest hlook hin hgood hsafe ha0 hgs ht htb hbuf hel hlk hsn er es et
  clear hd hown htown
  go_enter Try.func40, Try.ntmps40
  go_wp2_with fail
  go_region_law ((refine step_cp (by rfl) _ _ (by rfl) a0 (b.take k) (Hbuf.out.fr0 ((Fr.refl _ _).drew)) 0 k (by rfl) (by rfl) ((Htb.out.fr0 ((Fr.refl _ _).drew)).takeN k) (by simp; omega) (by omega) (fun _ => rfl) (by omega) ?_; intro w1 r1 f1))
  all_goals
    rw [List.take_take, Nat.min_self] at r1
    obtain ⟨y6, w2, hdel, F', h2, s2⟩ := Hrest.out w1 r1 (((Fr.refl (fun q => q = gs) w).drew).trans' f1)
    clear r1 f1
    go_wp2_with fail
    go_end0
    exact ⟨F', rfl, h2, s2⟩
end Go.Proofs.Ytmcckppmciflmaa
