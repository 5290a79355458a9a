/-
  THE WALK of disk.New.
-/
import Derived.Deep.OwnRows
import Derived.Test.YthabllnhlhkejaaGreatDoorDkLand
namespace Go.Proofs.YthabllnhlhkejaaGreatDoor
open Go.RowKit

theorem DiskIn.grow {l : Nat} {d : DK} {w w1 w1' w2 : World} {F : Nat → Prop} {acts part : Int} {sv sv' s' : SV} {ss : List SV} {bm : Nat} {g : Int → Option SV} (h : DiskIn l d w F acts part sv ss bm g) (f1 : Fr noBlock w w1) {b : Bs} (hb : b.length = d.size) (hs : RowAt 5 ByteR w1 s'.val b) (hnew : ∀ k, s'.val.ownBlock = some k → w.heap.size ≤ k)
    (f1' : Fr noBlock w1 w1') (hr : RowAt 28 SliceR w2 sv'.val (ss ++ [s'])) (hg : w1'.grownBy w2 sv.val.ownBlock) (hat : sv'.val.ownBlock = sv.val.ownBlock ∨ sv'.val.ownBlock = some w1'.heap.size) (hn : d.safe.length + 1 ≤ 4096) :
    ∃ F', DiskIn l { d with safe := d.safe ++ [b] } (w2.setCell ⟨l, 5, none⟩ sv'.val) F' acts part sv' (ss ++ [s']) bm g ∧ Step F F' w (w2.setCell ⟨l, 5, none⟩ sv'.val) := by
  have hf := f1.trans' f1'
  have h1 := h.fr hf (fun _ _ x => x)
  have hsz := hf.size
  have fg : Fr (fun k => sv.val.ownBlock = some k) w1' w2 := (Fr.refl _ w1').grown hg (fun k hk => .inl hk)
  have fs : Fr (fun k => k = l) w2 (w2.setCell ⟨l, 5, none⟩ sv'.val) := (Fr.refl (fun k => k = l) w2).setCell (p := ⟨l, 5, none⟩) (.inl rfl) _
  have hbuf : ∀ {s : SV} {c : Bs}, RowAt 5 ByteR w1' s.val c → RowAt 5 ByteR (w2.setCell ⟨l, 5, none⟩ sv'.val) s.val c := fun {s c} hr' =>
    (hr'.fr fg (fun k hk e => h1.buf_rows hr' hk e)).fr fs (fun k hk e => h1.buf_l hr' (e ▸ hk))
  have hbox2 : w2.heap[l]? = _ := fg.obj h1.box (fun e => h1.l_rows e)
  have hsl : ∀ {t : SV} {k : Nat}, t ∈ ss → t.val.ownBlock = some k → s'.val.ownBlock ≠ some k := by
    intro t k ht hk hk'
    obtain ⟨c, _, hc⟩ := h.mem_buf ht
    have := hc.lt k hk
    have := hnew k hk'
    omega
  refine ⟨fun k => k = l ∨ sv'.val.ownBlock = some k ∨ k = bm ∨ (∃ t ∈ ss ++ [s'], t.val.ownBlock = some k) ∨ ∃ (n : Int) (s : SV), g n = some s ∧ s.val.ownBlock = some k, ⟨?_, h.arm, ?_, by simp [h.len], ?_, ?_, ?_, h.dirt, ?_, ?_, fun _ => Iff.rfl, ?_⟩, ?_⟩
  · have := heap_set_eq (i := 5) (u := sv'.val) hbox2
    simpa using this
  · refine hr.fr fs (fun k hk e => ?_)
    obtain ⟨cur, hcur⟩ := hr.kind hk
    rw [e, hbox2] at hcur
    simp at hcur
  · intro i s c e1 e2
    have e2' : (d.safe ++ [b])[i]? = some c := e2
    by_cases hi : i < ss.length
    · rw [List.getElem?_append_left hi] at e1
      rw [List.getElem?_append_left (by rw [← h.len]; exact hi)] at e2'
      exact hbuf (h1.bufs i s c e1 e2')
    · have hlt := (List.getElem?_eq_some_iff.1 e1).1
      simp at hlt
      have hi' : i = ss.length := by omega
      subst hi'
      rw [List.getElem?_append_right (Nat.le_refl _)] at e1
      rw [List.getElem?_append_right (by rw [h.len]; exact Nat.le_refl _), h.len] at e2'
      simp at e1 e2'
      subst e1 e2'
      exact hbuf (hs.fr0 f1')
  · intro i j s t k e1 e2 hk hk'
    have hil := (List.getElem?_eq_some_iff.1 e1).1
    have hjl := (List.getElem?_eq_some_iff.1 e2).1
    simp at hil hjl
    by_cases hi : i < ss.length
    · rw [List.getElem?_append_left hi] at e1
      by_cases hj : j < ss.length
      · rw [List.getElem?_append_left hj] at e2
        exact h.apart i j s t k e1 e2 hk hk'
      · rw [List.getElem?_append_right (by omega)] at e2
        have : j - ss.length = 0 := by omega
        rw [this] at e2
        simp at e2
        subst e2
        exact absurd hk' (hsl (List.mem_of_getElem? e1) hk)
    · rw [List.getElem?_append_right (by omega)] at e1
      have : i - ss.length = 0 := by omega
      rw [this] at e1
      simp at e1
      subst e1
      by_cases hj : j < ss.length
      · rw [List.getElem?_append_left hj] at e2
        exact absurd hk (hsl (List.mem_of_getElem? e2) hk')
      · omega
  · refine (h1.map.fr fg (fun e => h1.bm_rows e)).fr fs (fun e => h1.l_bm e.symm)
  · intro n s c e1 e2
    exact hbuf (h1.dbufs n s c e1 e2)
  · intro n s t k e1 ht hk
    rcases List.mem_append.1 ht with ht | ht
    · exact h.dapart n s t k e1 ht hk
    · simp at ht
      subst ht
      intro hk'
      obtain ⟨c, _, _, hc⟩ := h.dirt_buf e1
      have := hc.lt k hk
      have := hnew k hk'
      omega
  · refine ⟨h.good.s0, h.good.s1, by show (d.safe ++ [b]).length ≤ 4096; simpa using hn, ?_, h.good.rise, ?_, h.good.arm⟩
    · intro c hc
      rcases List.mem_append.1 hc with hc | hc
      · exact h.good.sizes c hc
      · simp at hc; subst hc; exact hb
    · intro p hp
      have := h.good.there p hp
      exact ⟨by show p.1 < (d.safe ++ [b]).length; simp; omega, this.2⟩
  · have hfr : Fr F w (w2.setCell ⟨l, 5, none⟩ sv'.val) := ((hf.mono (fun _ x => x.elim)).trans (fg.mono (fun k hk => show F k from (h.foot k).2 (.inr (.inl hk)))) (fun k hk => .inl hk)).trans (fs.mono (fun k hk => show F k from by subst hk; exact (h.foot _).2 (.inl rfl))) (fun k hk => .inl hk)
    refine ⟨hfr, ?_⟩
    rintro k (rfl | hk | rfl | ⟨t, ht, hk⟩ | ⟨n, s, hs', hk⟩)
    · exact .inl ((h.foot _).2 (.inl rfl))
    · rcases hat with hat | hat
      · exact .inl ((h.foot _).2 (.inr (.inl (hat ▸ hk))))
      · rw [hat] at hk; cases hk; exact .inr hsz
    · exact .inl ((h.foot _).2 (.inr (.inr (.inl rfl))))
    · rcases List.mem_append.1 ht with ht | ht
      · exact .inl ((h.foot _).2 (.inr (.inr (.inr (.inl ⟨t, ht, hk⟩)))))
      · simp at ht; subst ht; exact .inr (hnew k hk)
    · exact .inl ((h.foot _).2 (.inr (.inr (.inr (.inr ⟨n, s, hs', hk⟩)))))

theorem bytes_made (w : World) (n : Nat) (hn : n ≤ maxLen) : RowAt 5 ByteR (w.alloc (.cells (madeCells #[.int .u8 0] n) 5)) (.slice (some ⟨w.heap.size, 0, none⟩) n n) (List.replicate n 0) := by
  have h := RowAt.of_block (E := 5) (R := ByteR) (w := w.alloc (.cells (madeCells #[.int .u8 0] n) 5)) (g := w.heap.size) (cap := n) (xs := List.replicate n 0) (heap_new w _) (by simp) hn (by rw [byteK]; simp [size_madeCells]) (by
    rw [byteK, flat_bytes]
    have hl : (madeCells #[Value.int .u8 0] n).toList = List.replicate n (.int .u8 0) := toList_madeCells_one _ _
    rw [hl]
    simp [List.take_replicate, byteV])
  simpa using h

def newOk (sectors size : Int) : Bool := decide (1 ≤ sectors) && decide (sectors ≤ 4096) && decide (64 ≤ size) && decide (size ≤ 4096)
def NewP (sectors size : Int) (w : World) (e : Ending) (w' : World) : Prop := ∃ l F, e = .returned (.tuple #[.pointer (some ⟨l, 0, none⟩), .int .i64 0]) ∧ DiskAt l (DK.new sectors.toNat size.toNat) w' F ∧ Fr noBlock w w' ∧ ∀ k, F k → w.heap.size ≤ k
theorem new_no (sectors size : Int) (w : World) (h : newOk sectors size = false) : Calls Tryz.prog 17 #[.int .i64 sectors, .int .i64 size] w fun e w' => e = .returned (.tuple #[.pointer none, .int .i64 1]) ∧ w = w' := by
  have hcs : sectors < 1 ∨ (1 ≤ sectors ∧ 4096 < sectors) ∨ (1 ≤ sectors ∧ sectors ≤ 4096 ∧ size < 64) ∨ (1 ≤ sectors ∧ sectors ≤ 4096 ∧ 64 ≤ size ∧ 4096 < size) := by
    simp [newOk] at h; omega
  clear h
  rcases hcs with h1 | ⟨h1, h2⟩ | ⟨h1, h2, h3⟩ | ⟨h1, h2, h3, h4⟩
  all_goals
    go_enter Tryz.func17, Tryz.ntmps17
    go_wp2
    go_ret2
    exact ⟨rfl, rfl⟩

set_option maxRecDepth 100000 in
set_option maxHeartbeats 1600000 in
theorem new_ok (sectors size : Int) (w : World) (h : newOk sectors size = true) : Calls Tryz.prog 17 #[.int .i64 sectors, .int .i64 size] w (NewP sectors size w) := by
  simp only [newOk, Bool.and_eq_true, decide_eq_true_eq] at h
  obtain ⟨⟨⟨h1, h2⟩, h3⟩, h4⟩ := h
  obtain ⟨n, rfl⟩ : ∃ n : Nat, sectors = n := ⟨sectors.toNat, by omega⟩
  obtain ⟨m, rfl⟩ : ∃ m : Nat, size = m := ⟨size.toNat, by omega⟩
  have hmm := @run_makeMap Tryz.prog
  have hmk := fun W => run_make_row' (P := Tryz.prog) 28 5 (.int .u8 0) 1 Tryz.underlying28 infoB rfl .i64 .i64 m (by omega) (by omega) W
  have hmade := fun W => bytes_made W m (by unfold maxLen; omega)
  obtain ⟨Z, hZ⟩ : ∃ Z, madeCells #[.int .u8 0] m = Z := ⟨_, rfl⟩
  rw [hZ] at hmk hmade
  have Hmade := Lib.hid hmade
  clear hZ hmade
  go_enter Tryz.func17, Tryz.ntmps17
  go_wp2_with fail
  have hstart : DiskIn (w.heap.size + 1) (DK.new 0 m) ((w.alloc (.map #[] 0)).alloc (.cells #[.bool false, .bool false, .int .i64 0, .int .i64 0, .int .i64 m, .slice none 0 0, .map (some w.heap.size)] 46)) (fun k => k = w.heap.size + 1 ∨ k = w.heap.size) 0 0 ⟨none, 0, 0⟩ [] w.heap.size (fun _ => none) := by
    refine ⟨?_, (fun a p h => by cases h), RowAt.nil, rfl, (fun i s b h => by simp at h), (fun i j s t k h => by simp at h), ?_, (fun n => rfl), (fun n s b h => by cases h), (fun n s t k h => by cases h), ?_, DK.Good.new (by omega) (by omega) (by omega)⟩
    · have := heap_new (w.alloc (.map #[] 0)) (.cells #[.bool false, .bool false, .int .i64 0, .int .i64 0, .int .i64 m, .slice none 0 0, .map (some w.heap.size)] 46)
      have e : (w.alloc (.map #[] 0)).heap.size = w.heap.size + 1 := by simp
      rw [e] at this
      exact this
    · exact ((MapV.made kI w).fr ((Fr.refl noBlock _).alloc _) (fun h => h)).congr (fun s => rfl)
    · intro k
      constructor
      · rintro (rfl | rfl)
        · exact .inl rfl
        · exact .inr (.inr (.inl rfl))
      · rintro (rfl | h | rfl | ⟨t, ht, _⟩ | ⟨_, _, h, _⟩)
        · exact .inl rfl
        · cases h
        · exact .inr rfl
        · cases ht
        · cases h
  have Hstart := Lib.hid (Mine.mk (w0 := w) (A := DiskAt (w.heap.size + 1) (DK.new 0 m)) ⟨_, _, _, _, _, _, hstart⟩ (fun k hk => by omega) (((Fr.refl noBlock w).alloc _).alloc _ |>.below (Nat.le_refl _) (fun _ h => h.elim)))
  clear hstart
  go_loopw [26] (fun s26 wr => ∃ (i : Nat) (G : Nat → Prop), i ≤ n ∧ s26 = .int .i64 i ∧ Mine w (DiskAt (w.heap.size + 1) (DK.new i m)) wr G) (fun s26 _ => n - (intOf s26).toNat)
  case atStart => exact ⟨0, _, Nat.zero_le _, rfl, Hstart.out⟩
  case round =>
    obtain ⟨i, G, hi, rfl, hM⟩ := hrel
    clear hmm Hstart
    have HM := Lib.hid hM
    obtain ⟨acts, part, sv, ss, bm, g, hin⟩ := hM.it
    clear hM
    by_cases hlt : i < n
    · have q1 : (i : Int) < (n : Int) := by omega
      have hsl : ss.length = i := by rw [hin.len]; simp [DK.new]
      obtain ⟨c0, c1, c2, c3, c4, c5, c6⟩ := hin.cells
      have z5 := free_of hin.box 5
      have hlw := heap_lt hin.box
      have hrow := hin.rows
      have hln := hin.sv_len
      obtain ⟨ao, k, cap⟩ := sv
      have hk : k = i := by simp at hln; rw [hln]; simp [DK.new]
      subst hk
      unfold SV.val at c5 hrow
      simp only at c5 hrow
      have Hnl := Lib.hid (show (Value.slice ao k cap).ownBlock ≠ some (w.heap.size + 1) from hin.l_rows)
      have Hin := Lib.hid hin
      have Hsl := Lib.hid hsl
      have Hrow := Lib.hid (show wr.ownsRow 0 28 SliceR.k (.slice ao k cap) k (SliceR.flat ss) by have := hrow; unfold RowAt at this; rwa [hsl] at this)
      have Hone := Lib.hid (show RowRd SliceR ((wr.alloc (.cells Z 5)).alloc (.cells #[.slice (some ⟨wr.heap.size, 0, none⟩) m m] 28)) (some ⟨wr.heap.size + 1, 0, none⟩) [(⟨some ⟨wr.heap.size, 0, none⟩, m, m⟩ : SV)] from RowRd.one (by
        have := heap_new (wr.alloc (.cells Z 5)) (.cells #[.slice (some ⟨wr.heap.size, 0, none⟩) m m] 28)
        have e : (wr.alloc (.cells Z 5)).heap.size = wr.heap.size + 1 := by simp
        rw [e] at this
        exact this) _ rfl)
      have hA1 := fun o1 => (World.cell?_alloc_lt wr o1 ⟨w.heap.size + 1, 5, none⟩ hlw).trans c5
      have hA2 := fun o1 o2 => ((((Fr.refl noBlock wr).alloc o1).alloc o2).cell (p := ⟨w.heap.size + 1, 5, none⟩) hlw (fun x => x)).trans c5
      clear hin hrow hln c0 c1 c2 c3 c4 c6 hlt
      go_wp2_with fail
      go_region_law
        ((refine step_app (by rfl) _ _ (by rfl) el_rows (v := .slice ao k cap) ss [(⟨some ⟨wr.heap.size, 0, none⟩, m, m⟩ : SV)] (ss ++ [(⟨some ⟨wr.heap.size, 0, none⟩, m, m⟩ : SV)]) rfl 0 k (k + 1) (by simp [Hsl.out]) (by rfl) (((Hrow.out.alloc _).alloc _).drew) (by rfl) (Hone.out.fr0 ((Fr.refl _ _).drew)) rfl (by unfold maxLen; omega) (by omega) (Nat.zero_le _) ?_; intro ao2 cap2 w2 o2 g2 a2; have hfa : Fr noBlock wr (((wr.alloc (.cells Z 5)).alloc (.cells #[.slice (some ⟨wr.heap.size, 0, none⟩) m m] 28)).drew) := (((Fr.refl noBlock wr).alloc _).alloc _).drew; have hl5 := hfa.size; have hc5 := (g2.cell_far ⟨w.heap.size + 1, 5, none⟩ (by simp; omega) (fun e => Hnl.out e.symm)).trans ((hfa.cell (p := ⟨w.heap.size + 1, 5, none⟩) hlw (fun x => x)).trans c5); have hz5 := (g2.frozen_far ⟨w.heap.size + 1, 5, none⟩ (by simp; omega) (fun e => Hnl.out e.symm)).trans ((hfa.frozen (p := ⟨w.heap.size + 1, 5, none⟩) hlw (fun x => x)).trans z5)))
      all_goals
        have HG := Lib.hid (Hin.out.grow (b := List.replicate m 0) (s' := ⟨some ⟨wr.heap.size, 0, none⟩, m, m⟩) (w1 := wr.alloc (.cells Z 5)) (w1' := ((wr.alloc (.cells Z 5)).alloc (.cells #[.slice (some ⟨wr.heap.size, 0, none⟩) m m] 28)).drew) (w2 := w2) (sv' := ⟨ao2, k + 1, cap2⟩) ((Fr.refl noBlock wr).alloc _) (by simp [DK.new]) (Hmade.out wr) (fun q hq => by cases hq; exact Nat.le_refl _) (((Fr.refl noBlock _).alloc _).drew) (RowAt.of_own o2 (by simp [Hsl.out])) g2 (a2.imp (fun e => e) (fun e => e)) (by simp [DK.new]; omega))
        clear o2 g2 a2 hA1 hA2
        go_wp2_with fail
        go_roundw
        case rel =>
          obtain ⟨F', hD, hS⟩ := HG.out
          have e : ({ DK.new k m with safe := (DK.new k m).safe ++ [List.replicate m 0] } : DK) = DK.new (k + 1) m := by simp [DK.new, List.replicate_succ']
          have hD' : DiskIn (w.heap.size + 1) (DK.new (k + 1) m) _ F' acts part _ _ bm g := e ▸ hD
          exact ⟨k + 1, F', by omega, by go_num, HM.out.step (A' := DiskAt (w.heap.size + 1) (DK.new (k + 1) m)) ⟨_, _, _, _, _, _, hD'⟩ hS⟩
        case measure => simp [intOf]; omega
    · have q1 : (n : Int) ≤ (i : Int) := by omega
      have e : i = n := by omega
      clear hin hlt
      subst e
      go_wp2_with fail
      go_ret2
      exact ⟨_, G, rfl, HM.out.it, Fr.of_below HM.out.below, HM.out.base⟩
end Go.Proofs.YthabllnhlhkejaaGreatDoor
