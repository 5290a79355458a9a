/-
  THE WALK of the disk laws' Tells: both disks tell the same.
-/
import Derived.Test.YtmcckppmciflmaaRdRead
import Derived.Test.YtmcckppmciflmaaLaw01
import Derived.Test.YtmcckppmciflmaaDkFlush
namespace Go.Proofs.Ytmcckppmciflmaa
open Go.RowKit

/-- rows beside things, while these make steps -/
structure Bes {α : Type} (R : Rec α) (ao : Option Addr) (xs : List α) (w : World) (F : Nat → Prop) : Prop where
  rd : RowRd R w ao xs
  ap : 0 < xs.length → ∀ a, ao = some a → ¬ F a.block ∧ a.block < w.heap.size
namespace Bes
variable {α : Type} {R : Rec α} {ao : Option Addr} {xs : List α} {w w' : World} {F F' : Nat → Prop}
theorem step (h : Bes R ao xs w F) (s : Step F F' w w') : Bes R ao xs w' F' := by
  rcases Nat.eq_zero_or_pos xs.length with h0 | h0
  · have e : xs = [] := List.eq_nil_of_length_eq_zero h0
    subst e
    exact ⟨RowRd.nil, fun h => by simp at h⟩
  · exact ⟨h.rd.fr s.fr (fun _ _ e => (h.ap h0 _ e).1), fun _ a e => ⟨(s.keep (h.ap h0 a e).2 (h.ap h0 a e).1).2.2, (s.keep (h.ap h0 a e).2 (h.ap h0 a e).1).2.1⟩⟩
theorem fr (h : Bes R ao xs w F) (f : Fr noBlock w w') : Bes R ao xs w' F := h.step (Step.same f)
theorem arg {w0 : World} {A : Thing} (h : RowRd R w0 ao xs) (m : Mine w0 A w F) : Bes R ao xs w F :=
  ⟨h.below m.below, fun h0 a e => by
    obtain ⟨b, off, e', h1, _⟩ := h.at' 0 h0
    rw [e] at e'
    cases e'
    exact ⟨fun hf => by have h2 : w0.heap.size ≤ b := m.base _ hf; omega, Nat.lt_of_lt_of_le h1 m.size⟩⟩
theorem sub (h : Bes R ao xs w F) {G : Nat → Prop} (hg : ∀ k, G k → F k) : Bes R ao xs w G := ⟨h.rd, fun h0 a e => ⟨fun hk => (h.ap h0 a e).1 (hg _ hk), (h.ap h0 a e).2⟩⟩
/-- a new row -/
theorem new {E : TypeId} {n cap : Nat} {w0 : World} (h : RowAt E R w (.slice ao n cap) xs) (hn : ∀ k, (Value.slice ao n cap).ownBlock = some k → w0.heap.size ≤ k) (hF : ∀ k, F k → k < w0.heap.size) : Bes R ao xs w F :=
  ⟨RowAt.rd h, fun _ a e => by
    subst e
    exact ⟨fun hf => by have := hn a.block rfl; have := hF _ hf; omega, h.lt a.block rfl⟩⟩
end Bes
theorem Beside.of {ao : Option Addr} {xs : List Int} {w : World} {F : Nat → Prop} (h : Bes IntR ao xs w F) : Beside ao xs w F := ⟨h.rd, h.ap⟩

theorem int_set {w : World} {g n cap : Nat} {xs : List Int} (h : RowAt 3 IntR w (.slice (some ⟨g, 0, none⟩) n cap) xs) {i : Nat} (hi : i < xs.length) (c : Int) : RowAt 3 IntR (w.setCell ⟨g, i, none⟩ (.int .i64 c)) (.slice (some ⟨g, 0, none⟩) n cap) (xs.set i c) := by
  have hk : IntR.k = 1 := rfl
  have := h.set (u := .int .i64 c) hi (j := 0) (by decide) c rfl
  simpa [hk] using this
theorem int_at {w : World} {g n cap : Nat} {xs : List Int} (h : RowAt 3 IntR w (.slice (some ⟨g, 0, none⟩) n cap) xs) {i : Nat} (hi : i < xs.length) : w.cell? ⟨g, i, none⟩ = some (.int .i64 xs[i]) ∧ w.frozen? ⟨g, i, none⟩ = false := by
  obtain ⟨g', e, _, _, _, h3, h4⟩ := h.elem hi
  cases e
  have hk : IntR.k = 1 := rfl
  have := h3 0 (.int .i64 xs[i]) rfl
  exact ⟨by simpa [hk] using this, h4 _⟩

/-- one row of one's own is owned: laid in a box ahead -/
def OwnedOneP (s : SV) (w : World) (e : Ending) (w' : World) : Prop := e = .returned (.bool true) ∧ Fr (fun k => s.val.ownBlock = some k) w w'
theorem owned_box {w : World} {s : SV} {b : Bs} {t : TypeId} {f : Nat × Nat} (h : RowAt 5 ByteR w s.val b) (cap : Nat) :
    Calls Try.prog 44 #[.slice (some ⟨w.heap.size, 0, none⟩) 1 cap] (w.alloc (.cells #[s.val] t f)) (OwnedOneP s w) := by
  have ha := (Fr.refl noBlock w).alloc (.cells #[s.val] t f)
  refine (owned_one (heap_new w (.cells #[s.val] t f)) rfl (h.fr0 ha) (fun e => Nat.lt_irrefl _ (h.lt _ e)) cap).mono ?_
  rintro e w' ⟨rfl, hf⟩
  refine ⟨rfl, (ha.mono (fun _ x => x.elim)).trans hf ?_⟩
  rintro k ⟨s', hs', hk⟩
  simp at hs'
  subst hs'
  exact .inl hk
set_option maxRecDepth 100000 in
set_option maxHeartbeats 1600000 in
theorem tells_any {l l2 : Nat} {d : DK} {w : World} {F G : Nat → Prop} (h : DiskAt l d w F) (h2 : RDiskAt l2 d w G) : Calls Try.prog 25 #[.pointer (some ⟨l, 0, none⟩), .pointer (some ⟨l2, 0, none⟩)] w fun e w' => e = .returned (.bool true) ∧ Fr noBlock w w' := by
  have H := Lib.hid h
  have H2 := Lib.hid h2
  have hdl := dirt_len h.good
  have hn1 := h.good.n1
  have hnl : (dirtNs d.dirty).length = d.dirty.length := by simp [dirtNs]
  have Hnl := Lib.hid hnl
  have hne : ((!d.off) == d.off) = false := by cases d.off <;> rfl
  clear h h2 hnl
  go_enter Try.func25, Try.ntmps25
  go_wp2_with fail
  refine (dirty_any H.out).mono ?_
  rintro e w1 ⟨ao, cap, rfl, r1, f1, n1⟩
  have R1 := Lib.hid r1
  have N1 := Lib.hid n1
  have F1 := Lib.hid f1
  clear r1 n1 f1
  go_wp2_with fail
  refine (numbers_any (RDiskAt.ok.fr0 H2.out F1.out)).mono ?_
  rintro e w2 ⟨ao2, cap2, rfl, r2, f2, n2⟩
  have R1' := Lib.hid (R1.out.fr0 f2)
  have R2 := Lib.hid r2
  have N2 := Lib.hid n2
  have F2 := Lib.hid (F1.out.trans' f2)
  have F12 := Lib.hid f2
  clear r2 n2 f2
  obtain ⟨acts, part, sv, dv, ss, ps, hin⟩ := RDiskAt.ok.fr0 H2.out F2.out
  obtain ⟨c0, -, c2, c3, -, -, -⟩ := hin.cells
  have hsl := hin.len
  obtain ⟨sa, sc, da, dc, rfl, rfl, -, -, -, -⟩ := hin.forms
  unfold SV.val at c0
  simp only at c0
  rw [hsl] at c0
  clear hin hsl
  go_wp2_with fail
  go_quiet (first
    | (go_at_call 17; exact Calls.quiet_of_same ((up_any (DiskAt.ok.fr0 H.out (F2.out.drewN _))).mono fun _ _ ⟨a, b⟩ => ⟨a, b.symm⟩))
    | (go_at_call 51; exact Calls.quiet_of_same ((sectors_any (DiskAt.ok.fr0 H.out (F2.out.drewN _))).mono fun _ _ ⟨a, b⟩ => ⟨a, b.symm⟩))
    | (go_at_call 52; exact Calls.quiet_of_same ((size_any (DiskAt.ok.fr0 H.out (F2.out.drewN _))).mono fun _ _ ⟨a, b⟩ => ⟨a, b.symm⟩)))
  go_wp2_with fail
  obtain ⟨w3, hw3⟩ : ∃ w3 : World, w2.drewN nq = w3 := ⟨_, rfl⟩
  rw [hw3]
  have F3 := Lib.hid (show Fr noBlock w2 w3 from hw3 ▸ (Fr.refl _ _).drewN _)
  clear hw3 c0 c2 c3 hne
  go_loopw [7] (fun s7 wr => ∃ (i : Nat) (ys : List Int), i ≤ d.dirty.length ∧ s7 = .int .i64 i ∧ RowAt 3 IntR wr (.slice ao d.dirty.length cap) ys ∧ Hid (∀ j, i ≤ j → ys[j]? = (dirtNs d.dirty)[j]?) ∧ Fr (fun k => (Value.slice ao d.dirty.length cap).ownBlock = some k) w2 wr) (fun s7 _ => d.dirty.length - (intOf s7).toNat)
  case atStart => exact ⟨0, dirtNs d.dirty, Nat.zero_le _, rfl, R1'.out.fr0 F3.out, Lib.hid (fun _ _ => rfl), F3.out.mono (fun _ x => x.elim)⟩
  case round =>
    obtain ⟨i, ys, hi, rfl, hR, HY, hf⟩ := hrel
    have HR := Lib.hid hR
    have Hf := Lib.hid hf
    clear hf
    by_cases hlt : i < d.dirty.length
    · have q1 : (i : Int) < (d.dirty.length : Int) := by omega
      have q0 : (0 : Int) ≤ (i : Int) := by omega
      have hyl : ys.length = d.dirty.length := (RowAt.len hR).symm
      have hiy : i < ys.length := by omega
      have hin : i < (dirtNs d.dirty).length := by rw [Hnl.out]; exact hlt
      obtain ⟨g, cap', e, -, -⟩ := hR.block' (by omega)
      simp only [Value.slice.injEq] at e
      obtain ⟨rfl, -, rfl⟩ := e
      obtain ⟨y0, z0⟩ := int_at hR hiy
      have Hset := Lib.hid (int_set hR hiy (-7))
      have hyi : ys[i] = (dirtNs d.dirty)[i] := by
        have := HY.out i (Nat.le_refl _)
        rw [List.getElem?_eq_getElem hiy, List.getElem?_eq_getElem hin] at this
        exact Option.some.inj this
      have hg1 : w.heap.size ≤ g := N1.out g rfl
      have hg2 : g < w1.heap.size := R1.out.lt g rfl
      have hW : RowRd IntR wr ao2 (dirtNs d.dirty) := (RowAt.rd R2.out).fr Hf.out (fun b off e hk => by
        have h1 := N2.out b (by rw [e]; rfl)
        have hk' : g = b := by simpa [Value.ownBlock] using hk
        omega)
      obtain ⟨b2, o2, rfl, -, -⟩ := hW.at' i hin
      have x0 := int_rd hW hin
      rw [← hyi] at x0
      generalize ys[i] = c at *
      have hcc : (c != c) = false := by simp
      have HYn := Lib.hid hyl
      have hgi : 0 < d.dirty.length := by omega
      clear hR hlt hyl hin hyi hW hg1 hg2
      go_wp2_with fail
      go_quiet (fail)
      go_wp2_with fail
      go_roundw
      case rel =>
        refine ⟨i + 1, ys.set i (-7), by omega, by go_num, Hset.out.fr0 ((Fr.refl _ _).drewN _), Lib.hid (fun j hj => ?_), (Hf.out.setCell (p := ⟨g, i, none⟩) (.inl rfl) _).drewN _⟩
        rw [List.getElem?_set_ne (by omega)]
        exact HY.out j (by omega)
      case measure => simp [intOf]; omega
    · have q1 : (d.dirty.length : Int) ≤ (i : Int) := by omega
      have hdec : decide (i < d.dirty.length) = false := by simp; omega
      have FA := Lib.hid (show Fr noBlock w wr from F2.out.trans Hf.out (fun k hk => .inr (N1.out k hk)))
      clear hlt hR HY
      go_wp2_with fail
      obtain ⟨wo, hwo⟩ : ∃ wo : World, wo = wr := ⟨_, rfl⟩
      subst hwo
      clear HR Hf hdec
      go_loopw [8] (fun s8 wr => ∃ z : Int, -1 ≤ z ∧ z ≤ 20 ∧ s8 = .int .i64 z ∧ Fr noBlock w wr) (fun s8 _ => (20 - intOf s8).toNat)
      case atStart => exact ⟨-1, by omega, by omega, rfl, FA.out⟩
      case round =>
        obtain ⟨z, hz0, hz1, rfl, hf⟩ := hrel
        have Hf := Lib.hid hf
        clear FA
        obtain ⟨acts, part, sv, dv, ss, ps, hin⟩ := RDiskAt.ok.fr0 H2.out hf
        obtain ⟨c0, -, -, -, -, -, -⟩ := hin.cells
        have hsl := hin.len
        have Hin := Lib.hid hin
        obtain ⟨sa, sc, da, dc, rfl, rfl, -, -, hsr, -⟩ := hin.forms
        unfold SV.val at c0
        simp only at c0
        rw [hsl] at c0
        clear hin hf
        by_cases hlt : z ≤ d.safe.length ∧ z < 20
        · obtain ⟨hl1, hl2⟩ := hlt
          have q2 : z < 20 := by omega
          cases his : d.isS (z) with
          | false =>
            have Hsf := Lib.hid (show d.safeB (z) = [] by simp [DK.safeB, his])
            have hcs : z < 0 ∨ (0 ≤ z ∧ (d.safe.length : Int) ≤ z) := by simp [DK.isS] at his; omega
            clear his
            rcases hcs with q | ⟨q, q'⟩
            all_goals
              go_wp2_with fail
              refine (safe_any (DiskAt.ok.fr0 H.out Hf.out) _).mono ?_
              rintro e w5 ⟨s, rfl, hls, hrs, hfs, hns⟩
              rw [Hsf.out] at hls hrs
              have c5 := (hfs.cell (p := ⟨l2, 0, none⟩) (heap_lt Hin.out.box) (fun x => x)).trans c0
              have k5 : (convert 23 9 (.slice s.ao 0 s.cap)).run Try.prog w5 = .ok (.string (strB [])) w5 := conv_rd (bs := []) (RowAt.rd hrs) s.cap
              have HR := Lib.hid hrs
              have HF := Lib.hid (Hf.out.trans' hfs)
              have hsv : s.val = .slice s.ao 0 s.cap := by unfold SV.val; rw [hls]; rfl
              rw [hsv]
              have ks : (strB ([] : Bs)).toList = [] := strB_list []
              have kz : (strB ([] : Bs)) = ⟨#[]⟩ := rfl
              rw [kz] at k5
              have Hsv := Lib.hid hsv
              have HN := Lib.hid hns
              clear hls hrs hfs hns hsv c0 kz ks
              go_wp2_with fail
              rw [← Hsv.out]
              refine (owned_box HR.out 1).mono ?_
              rintro e w6 ⟨rfl, fo⟩
              have HF6 := Lib.hid (HF.out.trans fo (fun k hk => .inr (Nat.le_trans Hf.out.size (HN.out k hk))))
              rw [Hsv.out]
              clear fo c5 k5
              go_wp2_with fail
              go_roundw
              case rel => exact ⟨_, by omega, by omega, rfl, HF6.out⟩
              case measure => simp [intOf]; omega
          | true =>
            obtain ⟨q, q'⟩ := DK.isS_iff.1 his
            obtain ⟨m, rfl⟩ : ∃ m : Nat, z = (m : Int) := ⟨z.toNat, by omega⟩
            have hmd : m < d.safe.length := by omega
            have hms : m < ss.length := by omega
            have hsf : d.safeB m = d.safe[m] := by
              simp only [DK.safeB, his, if_true]
              simp [List.getD, List.getElem?_eq_getElem hmd]
            have hbuf := Hin.out.bufs m ss[m] d.safe[m] (List.getElem?_eq_getElem hms) (List.getElem?_eq_getElem hmd)
            obtain ⟨bb, off, rfl, hbl, -⟩ := hsr.at' m hms
            have y0 := slice_rd hsr hms
            generalize ss[m] = so at *
            generalize d.safe[m] = ob at *
            obtain ⟨a2, n2, c2⟩ := so
            have hn2 : n2 = ob.length := RowAt.len hbuf.row
            subst hn2
            unfold SV.val at y0
            simp only at y0
            have Hsf := Lib.hid hsf
            have Hbuf := Lib.hid hbuf
            clear his hsf hbuf
            go_wp2_with fail
            refine (safe_any (DiskAt.ok.fr0 H.out Hf.out) _).mono ?_
            rintro e w5 ⟨s, rfl, hls, hrs, hfs, hns⟩
            rw [Hsf.out] at hls hrs
            have c5 := (hfs.cell (p := ⟨l2, 0, none⟩) (heap_lt Hin.out.box) (fun x => x)).trans c0
            have y5 := (hfs.cell (p := ⟨bb, off + m, none⟩) hbl (fun x => x)).trans y0
            have k5 := conv_rd (RowAt.rd hrs) s.cap
            have k6 := conv_rd (RowAt.rd (Hbuf.out.row.fr0 hfs)) c2
            have HR := Lib.hid hrs
            have HF := Lib.hid (Hf.out.trans' hfs)
            have hsv : s.val = .slice s.ao ob.length s.cap := by unfold SV.val; rw [hls]
            rw [hsv]
            have Hsv := Lib.hid hsv
            have HN := Lib.hid hns
            clear hls hrs hfs hns hsv c0 y0
            go_wp2_with fail
            rw [← Hsv.out]
            refine (owned_box HR.out 1).mono ?_
            rintro e w6 ⟨rfl, fo⟩
            have HF6 := Lib.hid (HF.out.trans fo (fun k hk => .inr (Nat.le_trans Hf.out.size (HN.out k hk))))
            rw [Hsv.out]
            clear fo c5 k5 k6 y5
            go_wp2_with fail
            go_roundw
            case rel => exact ⟨_, by omega, by omega, rfl, HF6.out⟩
            case measure => simp [intOf]; omega
        · have hcs : ((d.safe.length : Int) < z) ∨ (z ≤ d.safe.length ∧ 20 ≤ z) := by omega
          clear hlt
          rcases hcs with q | ⟨q, q'⟩
          all_goals
            go_wp2_with fail
            go_ret
            exact ⟨rfl, Hf.out⟩
end Go.Proofs.Ytmcckppmciflmaa
