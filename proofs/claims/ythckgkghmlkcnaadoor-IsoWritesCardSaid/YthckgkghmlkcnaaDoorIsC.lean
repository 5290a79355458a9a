/-
  THE WALKS of slices.Grow (from nil) and slices.Concat at bytes.
-/
import Derived.Lib.Hide
import Derived.Deep.LoopGhost
import Derived.Deep.CutBlock
import Derived.IntWalk
import Derived.Lib.SliceRun
import Derived.Lib.AppendZerosOnto
import Derived.OwnWalk
import Derived.Test.YthckgkghmlkcnaaDoorOwnB
namespace Go.Proofs.YthckgkghmlkcnaaDoor
open Go.RowKit Go.Lib

set_option maxRecDepth 100000 in
set_option maxHeartbeats 1600000 in
theorem grow_nil (n : Nat) (w : World) (hn : n ≤ 140737488355328) : Calls Tryd.prog 58 #[.slice none 0 0, .int .i64 n] w fun e w' => ∃ ao cap, e = .returned (.slice ao 0 cap) ∧ OwnB w w' ao 0 cap [] := by
  rcases Nat.eq_zero_or_pos n with h0 | hp
  · subst h0
    go_enter Tryd.func58, Tryd.ntmps58
    go_wp2_with fail
    go_ret
    exact ⟨none, 0, rfl, OwnB.nil (Fr.refl _ _)⟩
  · obtain ⟨i0, hi0, hz0, hz1, hz2⟩ := info_parts infoB
    have hrz : ∀ ty, (Builtin.append_ #[22, 3] ty #[.slice none 0 0, .int .i64 (n : Int)]).run Tryd.prog w =
        .ok (.slice (some ⟨w.heap.size, 0, none⟩) n (grownCap w n 0 5)) (w.drew.alloc (.cells (#[] ++ Builtin.zeroCells (Value.int .u8 0).cells n ++ Builtin.zeroCells (Value.int .u8 0).cells (grownCap w n 0 5 - n)) 5)) := fun ty => by
      have h := Lib.run_append_grow_zeros w 22 3 ty 5 i0 (.int .u8 0) .i64 .i64 Tryd.underlying22 Tryd.underlying3 hi0 hz0 none 0 0 [] (by rw [hz1]; exact run_firstCells_none w.drew 1 0 0 0) n (by omega) (by omega) (by omega) (by omega) (by rw [hz2]; omega)
        (by rw [hz2]; exact growslice_fits (by omega) (by omega))
      simpa using h
    have hGn := grownCap_ge w n 0 5
    have hG63 := grownCap_le_maxLen w n 0 5 (by unfold maxLen; omega)
    obtain ⟨G, hG⟩ : ∃ G, grownCap w n 0 5 = G := ⟨_, rfl⟩
    rw [hG] at hrz hGn hG63
    obtain ⟨C, hC⟩ : ∃ C, (#[] ++ Builtin.zeroCells (Value.int .u8 0).cells n ++ Builtin.zeroCells (Value.int .u8 0).cells (G - n) : Array Value) = C := ⟨_, rfl⟩
    have hCs : C.size = G := by
      rw [← hC]
      have h1 : (Value.int IntKind.u8 0).cells.size = 1 := rfl
      simp only [Array.size_append, size_zeroCells, h1, Nat.mul_one, List.size_toArray, List.length_nil]
      omega
    rw [hC] at hrz
    have HO := Lib.hid (show OwnB w (w.drew.alloc (.cells C 5)) (some ⟨w.heap.size, 0, none⟩) 0 G [] from
      ⟨⟨rfl, .inr ⟨w.heap.size, G, C, rfl, Nat.le_refl _, heap_new w.drew _, Nat.zero_le _, hG63, by rw [byteK, Nat.mul_one]; exact hCs, by simp; rfl⟩⟩, rfl, ((Fr.refl noBlock w).drew).alloc _⟩)
    have hnI : (0 : Int) < (n : Int) := by omega
    have hG0 : 0 ≤ G := Nat.zero_le _
    unfold maxLen at hG63
    clear hC hCs hG hz0 hz1 hz2 hi0
    go_enter Tryd.func58, Tryd.ntmps58
    go_wp2_with (at_builtin; refine Lib.wpList_append_run _ rfl _ _ _ _ rfl _ _ rfl rfl _ _ (hrz _) ?_)
    go_ret
    exact ⟨_, G, rfl, HO.out⟩
/-- rows of bytes, each in its place -/
structure Rows3 (w : World) (ao : Option Addr) (ss : List SV) (bs : List Bs) : Prop where
  rd : RowRd SliceR w ao ss
  len : ss.length = bs.length
  each : ∀ (i : Nat) (s : SV) (b : Bs), ss[i]? = some s → bs[i]? = some b → s.n = b.length ∧ RowRd ByteR w s.ao b
theorem Rows3.fr {w w' : World} {ao : Option Addr} {ss : List SV} {bs : List Bs} (h : Rows3 w ao ss bs) (f : Fr noBlock w w') : Rows3 w' ao ss bs :=
  ⟨h.rd.fr0 f, h.len, fun i s b x y => ⟨(h.each i s b x y).1, (h.each i s b x y).2.fr0 f⟩⟩
theorem Rows3.at' {w : World} {ao : Option Addr} {ss : List SV} {bs : List Bs} (h : Rows3 w ao ss bs) {i : Nat} (hi : i < bs.length) : ∃ b off sa sc, ao = some ⟨b, off, none⟩ ∧ b < w.heap.size ∧ w.cell? ⟨b, off + i, none⟩ = some (.slice sa bs[i].length sc) ∧ RowRd ByteR w sa bs[i] := by
  have hi' : i < ss.length := by rw [h.len]; exact hi
  obtain ⟨b, off, e, hb, h3⟩ := h.rd.at' i hi'
  obtain ⟨e1, e2⟩ := h.each i ss[i] bs[i] (List.getElem?_eq_getElem hi') (List.getElem?_eq_getElem hi)
  refine ⟨b, off, ss[i].ao, ss[i].cap, e, hb, ?_, e2⟩
  have h4 := h3 0 ss[i].val rfl
  have hk : SliceR.k = 1 := rfl
  rw [hk, Nat.mul_one, Nat.add_zero] at h4
  rw [h4]
  unfold SV.val
  rw [e1]
def sumL (bs : List Bs) : Nat := bs.flatten.length
theorem sumL_snoc (bs : List Bs) (b : Bs) : sumL (bs ++ [b]) = sumL bs + b.length := by unfold sumL; simp
theorem sumL_take (bs : List Bs) (i : Nat) : sumL (bs.take i) ≤ sumL bs := by
  have : sumL bs = sumL (bs.take i) + sumL (bs.drop i) := by
    unfold sumL
    rw [← List.length_append, ← List.flatten_append, List.take_append_drop]
  omega
set_option maxRecDepth 100000 in
set_option maxHeartbeats 1600000 in
theorem concat_any {w : World} {ao : Option Addr} {ss : List SV} {bs : List Bs} (h : Rows3 w ao ss bs) (cap : Nat) (hl : bs.length ≤ maxLen) (hs : sumL bs ≤ 140737488355328) : Calls Tryd.prog 34 #[.slice ao bs.length cap] w (CloneP bs.flatten w) := by
  have H := Lib.hid h
  unfold maxLen at hl
  have hsI : ((sumL bs : Nat) : Int) ≤ 140737488355328 := by omega
  have HS := Lib.hid hs
  clear h hs
  go_enter Tryd.func34, Tryd.ntmps34
  go_wp2_with fail
  go_loop [3, 11] (fun s3 s11 => ∃ i : Nat, i ≤ bs.length ∧ s11 = .int .i64 i ∧ s3 = .int .i64 ((sumL (bs.take i) : Nat) : Int)) (fun _ s11 => bs.length - (intOf s11).toNat)
  case atStart => exact ⟨0, Nat.zero_le _, rfl, rfl⟩
  case round =>
    obtain ⟨i, hi, rfl, rfl⟩ := hrel
    by_cases hlt : i < bs.length
    · have q1 : (i : Int) < (bs.length : Int) := by omega
      have q0 : (0 : Int) ≤ (i : Int) := by omega
      have hi1 : i + 1 ≤ bs.length := hlt
      obtain ⟨b, off, sa, sc, rfl, hb, y0, -⟩ := H.out.at' hlt
      have hsn := sumL_snoc (bs.take i) bs[i]
      rw [← List.take_succ_eq_append_getElem hlt] at hsn
      have hle := sumL_take bs (i + 1)
      have hle2 : ((sumL (bs.take (i + 1)) : Nat) : Int) ≤ 140737488355328 := by omega
      generalize bs[i] = x at *
      have hsnI : ((sumL (bs.take (i + 1)) : Nat) : Int) = ((sumL (bs.take i) : Nat) : Int) + (x.length : Int) := by omega
      generalize sumL (bs.take i) = s0 at *
      have Hsn := Lib.hid hsnI
      have hs1 : (s0 : Int) + (x.length : Int) ≤ 140737488355328 := by omega
      clear hsn hle hle2 hsnI hlt
      go_wp2_with fail
      go_round
      case rel => exact ⟨i + 1, hi1, by go_num, by rw [Hsn.out]⟩
      case measure => simp [intOf]; omega
    · have q1 : (bs.length : Int) ≤ (i : Int) := by omega
      have e : i = bs.length := by omega
      subst e
      rw [List.take_length]
      clear hlt
      go_wp2_with fail
      refine (grow_nil (sumL bs) _ HS.out).mono ?_
      rintro e w1 ⟨go, gc, rfl, hO1⟩
      have H1 := Lib.hid hO1
      clear hO1
      go_wp2_with fail
      go_loopw [6, 27] (fun s6 s27 wx => ∃ (i : Nat) (xo : Option Addr) (m xc : Nat), i ≤ bs.length ∧ s27 = .int .i64 i ∧ s6 = .slice xo m xc ∧ Hid (OwnB w wx xo m xc (bs.take i).flatten)) (fun _ s27 _ => bs.length - (intOf s27).toNat)
      case atStart => exact ⟨0, _, _, _, Nat.zero_le _, rfl, rfl, H1⟩
      case round =>
        obtain ⟨i, xo, m, xc, hi, rfl, rfl, HO⟩ := hrel
        by_cases hlt : i < bs.length
        · have q1 : (i : Int) < (bs.length : Int) := by omega
          have q0 : (0 : Int) ≤ (i : Int) := by omega
          have hi1 : i + 1 ≤ bs.length := hlt
          obtain ⟨b, off, sa, sc, rfl, hb, y0, hr⟩ := (H.out.fr HO.out.fr).at' hlt
          have hfl : (bs.take (i + 1)).flatten = (bs.take i).flatten ++ bs[i] := by rw [List.take_succ_eq_append_getElem hlt, List.flatten_append, List.flatten_singleton]
          have hle := sumL_take bs (i + 1)
          have hol := HO.out.len
          have hxl : m + bs[i].length ≤ 140737488355328 := by
            have : sumL (bs.take (i + 1)) = m + bs[i].length := by unfold sumL; rw [hfl, List.length_append, hol]
            omega
          generalize bs[i] = x at *
          have HR := Lib.hid hr
          have Hfl := Lib.hid hfl
          clear hr hfl hle hlt
          go_wp2_with (at_builtin; apply stop_here)
          refine ⟨?_, trivial⟩
          refine wpList_app rfl _ _ rfl el_bytes (v := .slice xo m xc) (bs.take i).flatten x (bs.take (i + 1)).flatten Hfl.out.symm w.heap.size m (m + x.length) (by rw [Hfl.out, List.length_append, HO.out.len]) rfl HO.out.own rfl HR.out rfl (by unfold maxLen; omega) (by omega) HO.out.fr.size ?_
          intro ao6 cap6 w6 o6 g6 a6
          go_frame
          have HG := Lib.hid (HO.out.grown (Fr.refl _ _) o6 (by rw [Hfl.out, List.length_append, HO.out.len]) g6)
          clear o6 g6 a6
          go_wp2_with fail
          go_roundw
          case rel => exact ⟨i + 1, _, _, _, hi1, by go_num, rfl, HG⟩
          case measure => simp [intOf]; omega
        · have q1 : (bs.length : Int) ≤ (i : Int) := by omega
          have e : i = bs.length := by omega
          subst e
          rw [List.take_length] at HO
          clear hlt
          go_wp2_with fail
          go_ret
          exact ⟨⟨xo, m, xc⟩, rfl, HO.out.len.symm, HO.out.row, HO.out.fr, HO.out.new⟩
end Go.Proofs.YthckgkghmlkcnaaDoor
