/-
  A MAKER OF TAGS in memory; THE WALK of its halves.
-/
import Derived.Deep.CutBlock
import Derived.Deep.DeepCutAuto
import Derived.Deep.CutRange
import Derived.Laws.MakeOwn
import Derived.Laws.CopyRow
import Derived.Laws.CopyOwn
import Derived.Test.YtajhgejhdalobaaGreatDoorShD
import Derived.Test.YtajhgejhdalobaaGreatDoorOwnB
namespace Go.Proofs.YtajhgejhdalobaaGreatDoor
open Go.RowKit

theorem byte_set {w : World} {g n cap : Nat} {xs : List UInt8} (h : RowAt 5 ByteR w (.slice (some ⟨g, 0, none⟩) n cap) xs) {i : Nat} (hi : i < xs.length) (c : UInt8) : RowAt 5 ByteR (w.setCell ⟨g, i, none⟩ (byteV c)) (.slice (some ⟨g, 0, none⟩) n cap) (xs.set i c) := by
  have := h.set (u := byteV c) hi (j := 0) (by decide) c rfl
  simpa [byteK] using this
end Go.Proofs.YtajhgejhdalobaaGreatDoor
namespace Go.Proofs.YtajhgejhdalobaaGreatDoor
open Go.RowKit

theorem mk_bytes (n c : Nat) (h : n ≤ c) (hc : c ≤ 140737488355328) : ∃ Z : Array Value, Z.toList = List.replicate c (.int .u8 0) ∧ ∀ W : World, (Instr.makeSlice 34 (.int .i64 (n : Int)) (.int .i64 (c : Int))).run Tryz.prog W = .ok (.slice (some ⟨W.heap.size, 0, none⟩) n c) (W.alloc (.cells Z 5)) := by
  obtain ⟨i, z, hi, hz, hs, hby, hzs⟩ := el_bytes.info
  have hz' : z = .int .u8 0 := by
    have := infoB
    rw [hi] at this
    simp at this
    rw [hz] at this
    simpa using this.1
  subst hz'
  refine ⟨madeCells #[.int .u8 0] c, toList_madeCells_one _ _, fun W => ?_⟩
  have := run_make W 34 5 i _ Tryz.underlying34 hi hz .i64 .i64 n c (by omega) (by omega) (by rw [hby]; omega) (by omega)
  rw [this, hs, byteK, Int.toNat_natCast, Int.toNat_natCast, Nat.mul_one]
  rfl
theorem OwnB.room (w : World) {Z : Array Value} {n c : Nat} (hZ : Z.toList = List.replicate c (.int .u8 0)) (h : n ≤ c) (hc : c ≤ maxLen) : OwnB w (w.alloc (.cells Z 5)) (some ⟨w.heap.size, 0, none⟩) n c (List.replicate n 0) := by
  have hl : Z.size = c := by have := congrArg List.length hZ; simpa using this
  refine ⟨⟨by rw [ByteR.flat_len, List.length_replicate], .inr ⟨w.heap.size, c, Z, rfl, Nat.le_refl _, heap_new w _, h, hc, by rw [byteK, Nat.mul_one]; exact hl, ?_⟩⟩, by simp, (Fr.refl _ _).alloc _⟩
  rw [byteK, Nat.mul_one, flat_bytes, hZ, List.take_replicate, Nat.min_eq_left h, List.map_replicate]
  rfl
theorem box10 {W : World} {b : Nat} {t : TypeId} {x0 x1 x2 x3 x4 x5 x6 x7 x8 x9 : Value} (h : W.heap[b]? = some (.cells #[x0, x1, x2, x3, x4, x5, x6, x7, x8, x9] t (0, 0))) : W.cell? ⟨b, 0, none⟩ = some x0 ∧ W.cell? ⟨b, 1, none⟩ = some x1 ∧ W.cell? ⟨b, 2, none⟩ = some x2 ∧ W.cell? ⟨b, 3, none⟩ = some x3 ∧ W.cell? ⟨b, 4, none⟩ = some x4 ∧ W.cell? ⟨b, 5, none⟩ = some x5 ∧ W.cell? ⟨b, 6, none⟩ = some x6 ∧ W.cell? ⟨b, 7, none⟩ = some x7 ∧ W.cell? ⟨b, 8, none⟩ = some x8 ∧ W.cell? ⟨b, 9, none⟩ = some x9 ∧ W.frozen? ⟨b, 0, none⟩ = false ∧ W.frozen? ⟨b, 1, none⟩ = false ∧ W.frozen? ⟨b, 2, none⟩ = false ∧ W.frozen? ⟨b, 3, none⟩ = false ∧ W.frozen? ⟨b, 4, none⟩ = false ∧ W.frozen? ⟨b, 5, none⟩ = false ∧ W.frozen? ⟨b, 6, none⟩ = false ∧ W.frozen? ⟨b, 7, none⟩ = false ∧ W.frozen? ⟨b, 8, none⟩ = false ∧ W.frozen? ⟨b, 9, none⟩ = false := by
  have c := fun i => cell_of h i
  have f := fun i => free_of h i
  exact ⟨c 0, c 1, c 2, c 3, c 4, c 5, c 6, c 7, c 8, c 9, f 0, f 1, f 2, f 3, f 4, f 5, f 6, f 7, f 8, f 9⟩
theorem set10 {W : World} {b : Nat} {t : TypeId} {x0 x1 x2 x3 x4 x5 x6 x7 x8 x9 : Value} (h : W.heap[b]? = some (.cells #[x0, x1, x2, x3, x4, x5, x6, x7, x8, x9] t (0, 0))) (v0 v1 v2 v3 v4 v5 v6 v7 v8 v9 : Value) : (((((((((((W).setCell ⟨b, 0, none⟩ v0).setCell ⟨b, 1, none⟩ v1).setCell ⟨b, 2, none⟩ v2).setCell ⟨b, 3, none⟩ v3).setCell ⟨b, 4, none⟩ v4).setCell ⟨b, 5, none⟩ v5).setCell ⟨b, 6, none⟩ v6).setCell ⟨b, 7, none⟩ v7).setCell ⟨b, 8, none⟩ v8).setCell ⟨b, 9, none⟩ v9).heap[b]? = some (.cells #[v0, v1, v2, v3, v4, v5, v6, v7, v8, v9] t (0, 0)) := by
  have h0 : ((W).setCell ⟨b, 0, none⟩ v0).heap[b]? = some (.cells #[v0, x1, x2, x3, x4, x5, x6, x7, x8, x9] t (0, 0)) := heap_set_eq (i := 0) (u := v0) h
  have h1 : (((W).setCell ⟨b, 0, none⟩ v0).setCell ⟨b, 1, none⟩ v1).heap[b]? = some (.cells #[v0, v1, x2, x3, x4, x5, x6, x7, x8, x9] t (0, 0)) := heap_set_eq (i := 1) (u := v1) h0
  have h2 : ((((W).setCell ⟨b, 0, none⟩ v0).setCell ⟨b, 1, none⟩ v1).setCell ⟨b, 2, none⟩ v2).heap[b]? = some (.cells #[v0, v1, v2, x3, x4, x5, x6, x7, x8, x9] t (0, 0)) := heap_set_eq (i := 2) (u := v2) h1
  have h3 : (((((W).setCell ⟨b, 0, none⟩ v0).setCell ⟨b, 1, none⟩ v1).setCell ⟨b, 2, none⟩ v2).setCell ⟨b, 3, none⟩ v3).heap[b]? = some (.cells #[v0, v1, v2, v3, x4, x5, x6, x7, x8, x9] t (0, 0)) := heap_set_eq (i := 3) (u := v3) h2
  have h4 : ((((((W).setCell ⟨b, 0, none⟩ v0).setCell ⟨b, 1, none⟩ v1).setCell ⟨b, 2, none⟩ v2).setCell ⟨b, 3, none⟩ v3).setCell ⟨b, 4, none⟩ v4).heap[b]? = some (.cells #[v0, v1, v2, v3, v4, x5, x6, x7, x8, x9] t (0, 0)) := heap_set_eq (i := 4) (u := v4) h3
  have h5 : (((((((W).setCell ⟨b, 0, none⟩ v0).setCell ⟨b, 1, none⟩ v1).setCell ⟨b, 2, none⟩ v2).setCell ⟨b, 3, none⟩ v3).setCell ⟨b, 4, none⟩ v4).setCell ⟨b, 5, none⟩ v5).heap[b]? = some (.cells #[v0, v1, v2, v3, v4, v5, x6, x7, x8, x9] t (0, 0)) := heap_set_eq (i := 5) (u := v5) h4
  have h6 : ((((((((W).setCell ⟨b, 0, none⟩ v0).setCell ⟨b, 1, none⟩ v1).setCell ⟨b, 2, none⟩ v2).setCell ⟨b, 3, none⟩ v3).setCell ⟨b, 4, none⟩ v4).setCell ⟨b, 5, none⟩ v5).setCell ⟨b, 6, none⟩ v6).heap[b]? = some (.cells #[v0, v1, v2, v3, v4, v5, v6, x7, x8, x9] t (0, 0)) := heap_set_eq (i := 6) (u := v6) h5
  have h7 : (((((((((W).setCell ⟨b, 0, none⟩ v0).setCell ⟨b, 1, none⟩ v1).setCell ⟨b, 2, none⟩ v2).setCell ⟨b, 3, none⟩ v3).setCell ⟨b, 4, none⟩ v4).setCell ⟨b, 5, none⟩ v5).setCell ⟨b, 6, none⟩ v6).setCell ⟨b, 7, none⟩ v7).heap[b]? = some (.cells #[v0, v1, v2, v3, v4, v5, v6, v7, x8, x9] t (0, 0)) := heap_set_eq (i := 7) (u := v7) h6
  have h8 : ((((((((((W).setCell ⟨b, 0, none⟩ v0).setCell ⟨b, 1, none⟩ v1).setCell ⟨b, 2, none⟩ v2).setCell ⟨b, 3, none⟩ v3).setCell ⟨b, 4, none⟩ v4).setCell ⟨b, 5, none⟩ v5).setCell ⟨b, 6, none⟩ v6).setCell ⟨b, 7, none⟩ v7).setCell ⟨b, 8, none⟩ v8).heap[b]? = some (.cells #[v0, v1, v2, v3, v4, v5, v6, v7, v8, x9] t (0, 0)) := heap_set_eq (i := 8) (u := v8) h7
  have h9 : (((((((((((W).setCell ⟨b, 0, none⟩ v0).setCell ⟨b, 1, none⟩ v1).setCell ⟨b, 2, none⟩ v2).setCell ⟨b, 3, none⟩ v3).setCell ⟨b, 4, none⟩ v4).setCell ⟨b, 5, none⟩ v5).setCell ⟨b, 6, none⟩ v6).setCell ⟨b, 7, none⟩ v7).setCell ⟨b, 8, none⟩ v8).setCell ⟨b, 9, none⟩ v9).heap[b]? = some (.cells #[v0, v1, v2, v3, v4, v5, v6, v7, v8, v9] t (0, 0)) := heap_set_eq (i := 9) (u := v9) h8
  exact h9
theorem fr_set_at {b : Nat} {w0 w : World} (h : Fr (fun k => k = b) w0 w) (i : Nat) (v : Value) : Fr (fun k => k = b) w0 (w.setCell ⟨b, i, none⟩ v) := h.setCell (p := ⟨b, i, none⟩) (.inl rfl) v
theorem fr_set_new {b : Nat} {w0 w : World} (hb : w0.heap.size ≤ b) (h : Fr noBlock w0 w) (i : Nat) (v : Value) : Fr noBlock w0 (w.setCell ⟨b, i, none⟩ v) := h.setCell (p := ⟨b, i, none⟩) (.inr hb) v
def EndIn (w : World) (eb : Nat) (s : S8) (xa : Option Addr) (r : List UInt8) (xc : Nat) (W : World) : Prop :=
  HashIn eb s xa r.length xc r 0 W ∧ Fr noBlock w W ∧ w.heap.size ≤ eb ∧ ∀ k, (Value.slice xa r.length xc).ownBlock = some k → w.heap.size ≤ k
theorem OwnB.put {w0 w : World} {g n cap i : Nat} {x : List UInt8} (h : OwnB w0 w (some ⟨g, 0, none⟩) n cap x) (hi : i < x.length) (c : UInt8) : OwnB w0 (w.setCell ⟨g, i, none⟩ (.int .u8 (c.toNat : Int))) (some ⟨g, 0, none⟩) n cap (x.set i c) :=
  OwnB.of_row (byte_set h.row hi c) h.new (h.fr.setCell (p := ⟨g, i, none⟩) (.inr (h.new g rfl)) _)
theorem be8_cell (n i : Nat) (hi : i < 8) : ((n : Int) * 8 / 2 ^ (56 - 8 * i)) % 256 = (((be8 (8 * n)).getD i 0).toNat : Int) := by
  have e : (be8 (8 * n)).getD i 0 = UInt8.ofNat ((8 * n) >>> (56 - 8 * i)) := by
    unfold be8
    rw [List.getD_eq_getElem?_getD, List.getElem?_map, List.getElem?_range hi]
    rfl
  rw [e, u8_shift, Nat.mul_comm 8 n]
  generalize 56 - 8 * i = k
  rw [show (2 : Int) ^ k = ((2 ^ k : Nat) : Int) from (Int.natCast_pow 2 k).symm]
  rfl
theorem be8_take (n i : Nat) (hi : i < 8) : (be8 n).take (i + 1) = (be8 n).take i ++ [(be8 n).getD i 0] := by
  have hl := be8_len n
  rw [List.take_add_one, List.getD_eq_getElem?_getD, List.getElem?_eq_getElem (by omega)]
  rfl
theorem idx8 (E : S8) {i : Nat} {x : W32} (hx : E.list[i]? = some x) (W : World) : (Instr.index 437 (.agg #[.int .u32 (E.a.toNat : Int), .int .u32 (E.b.toNat : Int), .int .u32 (E.c.toNat : Int), .int .u32 (E.d.toNat : Int), .int .u32 (E.e.toNat : Int), .int .u32 (E.f.toNat : Int), .int .u32 (E.g.toNat : Int), .int .u32 (E.h.toNat : Int)]) (.int .i64 (i : Int))).run Tryz.prog W = .ok (.int .u32 (x.toNat : Int)) W := by
  have hi : i < 8 := (List.getElem?_eq_some_iff.1 hx).1
  rcases (show i = 0 ∨ i = 1 ∨ i = 2 ∨ i = 3 ∨ i = 4 ∨ i = 5 ∨ i = 6 ∨ i = 7 by omega) with rfl | rfl | rfl | rfl | rfl | rfl | rfl | rfl <;>
    (obtain rfl := Option.some.inj hx
     first | (show _ = _; kernel_rfl) | rfl | (simp [go_sem]; rfl))
theorem bytes4_flat (x : W32) : [.int .u8 ((x.toNat : Int) / 16777216), .int .u8 ((x.toNat : Int) / 65536 % 256), .int .u8 ((x.toNat : Int) / 256 % 256), .int .u8 ((x.toNat : Int) % 256)] = ByteR.flat (bytes4 x) := by
  rw [flat_bytes]
  unfold bytes4 byteV
  simp only [List.map_cons, List.map_nil, UInt8.toNat_ofNat', BitVec.toNat_ushiftRight, Nat.shiftRight_eq_div_pow]
  have hx := x.isLt
  have e : (x.toNat : Int) / 16777216 = ((x.toNat / 2 ^ 24 % 2 ^ 8 : Nat) : Int) := by omega
  rw [e]
  rfl
theorem bytes4_take (E : S8) {i : Nat} {x : W32} (hx : E.list[i]? = some x) : (E.list.take (i + 1)).flatMap bytes4 = (E.list.take i).flatMap bytes4 ++ bytes4 x := by
  rw [List.take_add_one, hx, List.flatMap_append]
  simp
def ShaP (x : List UInt8) (w : World) (e : Ending) (w' : World) : Prop := ∃ sv : SV, e = .returned sv.val ∧ sv.n = x.length ∧ RowAt 5 ByteR w' sv.val x ∧ Fr noBlock w w' ∧ ∀ k, sv.val.ownBlock = some k → w.heap.size ≤ k
set_option maxRecDepth 100000 in
set_option maxHeartbeats 3200000 in
theorem hsum_any {h m cap n : Nat} {s : S8} {ao : Option Addr} {r : List UInt8} {w : World} (hh : HashIn h s ao m cap r (n : Int) w) (hr : r.length < 64) (hn : n ≤ 1099511627776) : Calls Tryz.prog 356 #[.pointer (some ⟨h, 0, none⟩)] w (ShaP (shaEnd s r n) w) := by
  have hlt := hh.lt h (.inl rfl)
  obtain rfl : r.length = m := hh.off.len
  have hcm := hh.off.nc
  obtain ⟨c8, c9, -, -⟩ := hh.cells
  have a0 := (head_cell hh.box (i := 0) rfl).1
  have a1 := (head_cell hh.box (i := 1) rfl).1
  have a2 := (head_cell hh.box (i := 2) rfl).1
  have a3 := (head_cell hh.box (i := 3) rfl).1
  have a4 := (head_cell hh.box (i := 4) rfl).1
  have a5 := (head_cell hh.box (i := 5) rfl).1
  have a6 := (head_cell hh.box (i := 6) rfl).1
  have a7 := (head_cell hh.box (i := 7) rfl).1
  have HH := Lib.hid hh
  have HCl := Lib.hid (fun (W : World) (hf : Fr noBlock w W) => sclone_any (hh.off.fr0 hf).rd cap (by omega))
  unfold CloneP at HCl
  clear hh
  have HKs := Lib.hid (show ∀ W, Fr noBlock w W → W.cell? ⟨h, 0, none⟩ = some (.int .u32 (s.a.toNat : Int)) ∧ W.cell? ⟨h, 1, none⟩ = some (.int .u32 (s.b.toNat : Int)) ∧ W.cell? ⟨h, 2, none⟩ = some (.int .u32 (s.c.toNat : Int)) ∧ W.cell? ⟨h, 3, none⟩ = some (.int .u32 (s.d.toNat : Int)) ∧ W.cell? ⟨h, 4, none⟩ = some (.int .u32 (s.e.toNat : Int)) ∧ W.cell? ⟨h, 5, none⟩ = some (.int .u32 (s.f.toNat : Int)) ∧ W.cell? ⟨h, 6, none⟩ = some (.int .u32 (s.g.toNat : Int)) ∧ W.cell? ⟨h, 7, none⟩ = some (.int .u32 (s.h.toNat : Int)) ∧ W.cell? ⟨h, 8, none⟩ = some (.slice ao r.length cap) from fun W hf =>
    have hb := hf.obj HH.out.box (fun z => z)
    ⟨(head_cell hb (i := 0) rfl).1, (head_cell hb (i := 1) rfl).1, (head_cell hb (i := 2) rfl).1, (head_cell hb (i := 3) rfl).1, (head_cell hb (i := 4) rfl).1, (head_cell hb (i := 5) rfl).1, (head_cell hb (i := 6) rfl).1, (head_cell hb (i := 7) rfl).1, (HH.out.fr0 hf).cells.1⟩)
  unfold ShaP
  go_enter Tryz.func356, Tryz.ntmps356
  go_upto_region 1 with fail
  go_cut [3] from 10 to 19 (fun s3 wx => ∃ (eb : Nat) (xa : Option Addr) (xc : Nat), s3 = .pointer (some ⟨eb, 0, none⟩) ∧ Hid (EndIn w eb s xa r xc wx))
  case first =>
   go_region_held3 (fun W => W.cell? ⟨h, 0, none⟩ = some (.int .u32 (s.a.toNat : Int)) ∧ W.cell? ⟨h, 1, none⟩ = some (.int .u32 (s.b.toNat : Int)) ∧ W.cell? ⟨h, 2, none⟩ = some (.int .u32 (s.c.toNat : Int)) ∧ W.cell? ⟨h, 3, none⟩ = some (.int .u32 (s.d.toNat : Int)) ∧ W.cell? ⟨h, 4, none⟩ = some (.int .u32 (s.e.toNat : Int)) ∧ W.cell? ⟨h, 5, none⟩ = some (.int .u32 (s.f.toNat : Int)) ∧ W.cell? ⟨h, 6, none⟩ = some (.int .u32 (s.g.toNat : Int)) ∧ W.cell? ⟨h, 7, none⟩ = some (.int .u32 (s.h.toNat : Int)) ∧ W.cell? ⟨h, 8, none⟩ = some (.slice ao r.length cap))
     (exact HKs.out _ (by repeat (first | (with_reducible exact Fr.refl _ _) | (with_reducible refine Fr.drew ?_) | (with_reducible refine Fr.alloc ?_ _) | (with_reducible refine fr_set_new (Nat.le_refl _) ?_ _ _) | (with_reducible refine Fr.trans' ?_ h3))))
     (first
      | (go_at_call 389; (with_reducible refine (HCl.out _ (by repeat (first | (with_reducible exact Fr.refl _ _) | (with_reducible refine Fr.drew ?_) | (with_reducible refine Fr.alloc ?_ _)))).mono ?_); rintro e w2 ⟨⟨xa, xn, xc⟩, rfl, h1, h2, h3, h4⟩; unfold SV.val at h2 h4 ⊢; dsimp only at h1 h2 h4 ⊢; subst h1; (try (have hbx := h3.obj (heap_new w _) (fun z => z); obtain ⟨t0, t1, t2, t3, t4, t5, t6, t7, t8, t9, f0, f1, f2, f3, f4, f5, f6, f7, f8, f9⟩ := box10 hbx)))
      | fail "noarm")
   · have ht := h2.lt
     have hz := h3.size
     go_wp2_with fail
     go_meet
     refine ⟨w2.heap.size, xa, xc, rfl, Lib.hid ⟨⟨heap_new w2 _, (OffB.of_row h2).fr0 ((Fr.refl noBlock w2).alloc _), fun e => Nat.lt_irrefl _ (ht _ e)⟩, ?_, hz, h4⟩⟩
     exact (((Fr.refl noBlock w).drew.trans' h3).alloc _)
   · have hb := set10 hbx (.int .u32 (s.a.toNat : Int)) (.int .u32 (s.b.toNat : Int)) (.int .u32 (s.c.toNat : Int)) (.int .u32 (s.d.toNat : Int)) (.int .u32 (s.e.toNat : Int)) (.int .u32 (s.f.toNat : Int)) (.int .u32 (s.g.toNat : Int)) (.int .u32 (s.h.toNat : Int)) (.slice xa r.length xc) (.int .i64 0)
     go_wp2_with fail
     go_meet
     refine ⟨w.heap.size, xa, xc, rfl, Lib.hid ⟨⟨hb, (OffB.of_row h2).fr (S := fun k => k = w.heap.size) ?_ ?_, ?_⟩, ?_, Nat.le_refl _, ?_⟩⟩
     · repeat (first | (with_reducible exact Fr.refl _ _) | (with_reducible refine Fr.drew ?_) | (with_reducible refine fr_set_at ?_ _ _))
     · intro k hk e
       have := h4 k hk
       simp at this
       omega
     · intro e
       have := h4 _ e
       simp at this
       omega
     · repeat (first | (with_reducible exact Fr.refl _ _) | (with_reducible refine Fr.drew ?_) | (with_reducible refine Fr.alloc ?_ _) | (with_reducible refine fr_set_new (Nat.le_refl _) ?_ _ _) | (with_reducible refine Fr.trans' ?_ h3))
     · intro k hk
       have := h4 k hk
       simp at this
       omega
  obtain ⟨eb, xa, xc, rfl, HE⟩ := hcut
  generalize wc = w2 at *
  clear HCl HKs a0 a1 a2 a3 a4 a5 a6 a7 c8 c9
  have HH2 := Lib.hid (HH.out.fr0 HE.out.2.1)
  obtain ⟨c8, c9, -, -⟩ := HH2.out.cells
  obtain ⟨q, hq⟩ : ∃ q, (119 - r.length) % 64 = q := ⟨_, rfl⟩
  have hq64 : q < 64 := by rw [← hq]; exact Nat.mod_lt _ (by omega)
  have hmk : ∃ Z : Array Value, Z.toList = List.replicate 72 (.int .u8 0) ∧ ∀ W : World, (Instr.makeSlice 34 (.int .i64 (1 + (q : Int))) (.int .i64 72)).run Tryz.prog W = .ok (.slice (some ⟨W.heap.size, 0, none⟩) (1 + q) 72) (W.alloc (.cells Z 5)) := by
    obtain ⟨Z, hZ, hmk⟩ := mk_bytes (1 + q) 72 (by omega) (by omega)
    exact ⟨Z, hZ, fun W => by have := hmk W; rwa [show ((1 + q : Nat) : Int) = 1 + (q : Int) by omega] at this⟩
  obtain ⟨Z, hZ, hmk⟩ := hmk
  have HZ := Lib.hid hZ
  have q1 : wrap64 (119 - (r.length : Int)) = 119 - (r.length : Int) := by unfold wrap64; omega
  have q2 : Int.tmod (119 - (r.length : Int)) 64 = (q : Int) := by
    rw [← hq, Int.tmod_eq_emod_of_nonneg (by omega)]
    omega
  have q3 : wrap64 (1 + (q : Int)) = 1 + (q : Int) := by unfold wrap64; omega
  have Hq := Lib.hid hq
  have HN := Lib.hid (And.intro hn (And.intro hlt (And.intro hcm hq64)))
  clear hq hZ
  go_upto_region 3 with fail
  have hr' := Lib.hid hr
  clear hn hlt hcm hq64 c9 hr
  go_upto_region 4 with fail
  refine wp_at (fun W => OwnB w2 W (some ⟨w2.heap.size, 0, none⟩) (1 + q) 72 (List.replicate (1 + q) 0)) (OwnB.room w2 HZ.out (by have := HN.out.2.2.2; omega) (by unfold maxLen; omega)) ?_
  clear c8 q1 q2 q3 hmk
  obtain ⟨p, hp⟩ : ∃ p, w2.heap.size = p := ⟨_, rfl⟩
  rw [hp]
  rintro w3 ho
  obtain ⟨y0, y1⟩ := byte_at ho.row (i := 0) (by rw [List.length_replicate]; omega)
  have HO := Lib.hid (show OwnB w2 (w3.setCell ⟨p, 0, none⟩ (.int .u8 128)) (some ⟨p, 0, none⟩) (1 + q) 72 (128 :: List.replicate q 0) by
    have h := ho.put (i := 0) (by rw [List.length_replicate]; omega) 128
    rw [Nat.add_comm 1 q, List.replicate_succ, List.set_cons_zero] at h
    rw [Nat.add_comm 1 q]
    exact h)
  clear ho
  have p0 : (0 : Int) < 1 + (q : Int) := by omega
  go_wp2_with fail
  clear y0 y1 p0
  go_loopw [5, 37] (fun s5 s37 W => ∃ (i : Nat) (po : Option Addr) (pn pc : Nat), i ≤ 8 ∧ s37 = .int .i64 i ∧ s5 = .slice po pn pc ∧ pn = 1 + q + i ∧ Hid (OwnB w2 W po pn pc ((128 :: List.replicate q 0) ++ (be8 (8 * n)).take i))) (fun _ s37 _ => 8 - (intOf s37).toNat)
  case atStart => exact ⟨0, some ⟨p, 0, none⟩, 1 + q, 72, by omega, rfl, rfl, rfl, Lib.hid (by simpa using HO.out)⟩
  case round =>
    clear HO
    obtain ⟨i, po, pn, pc, hi, rfl, rfl, hpn, HO⟩ := hrel
    by_cases hlt : i < 8
    · have q1 : (i : Int) < 8 := by omega
      have q2 : wrap64 (8 * (i : Int)) = 8 * (i : Int) := by unfold wrap64; omega
      have q3 : wrap64 (56 - 8 * (i : Int)) = ((56 - 8 * i : Nat) : Int) := by unfold wrap64; omega
      obtain ⟨b, hb⟩ : ∃ b, (be8 (8 * n)).getD i 0 = b := ⟨_, rfl⟩
      have HV := Lib.hid (be8_cell n i hlt)
      have HTk := Lib.hid (be8_take (8 * n) i hlt)
      rw [hb] at HV HTk
      clear hb
      have hq64 := HN.out.2.2.2
      go_wp2_with (at_builtin; apply stop_here)
      refine ⟨?_, trivial⟩
      refine wpList_app rfl _ _ rfl el_bytes _ [b] _ rfl w2.heap.size pn (pn + 1) (by rw [List.length_append, HO.out.len]; rfl) rfl (HO.out.own' ((Fr.refl noBlock wr).alloc _)) rfl (RowRd.one (heap_new wr _) b (by rw [HV.out]; rfl)) rfl (by unfold maxLen; omega) (by omega) (HO.out.base ((Fr.refl noBlock wr).alloc _)) ?_
      intro ao2 cap2 w5 o5 g5 a5
      go_frame
      have HO5 := Lib.hid (HO.out.grown ((Fr.refl noBlock wr).alloc _) o5 (by rw [List.length_append, HO.out.len]; rfl) g5)
      rw [List.append_assoc, ← HTk.out] at HO5
      clear o5 g5 a5 HO HV HTk
      go_wp2_with fail
      go_roundw
      case rel => exact ⟨i + 1, ao2, pn + 1, cap2, hlt, by go_num, rfl, by omega, HO5⟩
      case measure => simp [intOf]; omega
    · have q1 : (8 : Int) ≤ (i : Int) := by omega
      obtain rfl : i = 8 := by omega
      clear hlt
      rw [List.take_of_length_le (by rw [be8_len]; omega)] at HO
      subst hpn
      have HPd := Lib.hid HO
      obtain ⟨pad, hpad⟩ : ∃ pad, 128 :: List.replicate q 0 ++ be8 (8 * n) = pad := ⟨_, rfl⟩
      rw [hpad] at HO
      have Hpad := Lib.hid hpad
      clear HPd hpad
      have hfa := (Fr.refl noBlock wr).alloc (.cells #[.slice po (1 + q + 8) pc] 34)
      have hEw := HE.out.1.fr0 (HO.out.fr.trans' hfa)
      have hFl := HE.out.1.lt
      have hwz := HO.out.fr.size
      have hPB : PBes (wr.alloc (.cells #[.slice po (1 + q + 8) pc] 34)) (hashF eb xa r.length xc) (some ⟨wr.heap.size, 0, none⟩) [⟨po, 1 + q + 8, pc⟩] [pad] := by
        refine ⟨⟨RowRd.one (heap_new wr _) _ rfl, fun _ a e => ?_⟩, rfl, fun i sv b h1 h2 => ?_⟩
        · cases e
          exact ⟨fun hf => by have h := hFl _ hf; dsimp only at h; omega, by simp⟩
        · obtain rfl : i = 0 := by
            have := (List.getElem?_eq_some_iff.1 h1).1
            simpa using this
          simp at h1 h2
          subst h1 h2
          refine ⟨HO.out.len.symm, HO.out.rd.fr0 hfa, fun _ a e => ?_⟩
          have e' : po = some a := e
          have h1 := HO.out.new a.block (by rw [e']; rfl)
          have h2 := HO.out.lt a.block (by rw [e']; rfl)
          exact ⟨fun hf => by have := hFl _ hf; omega, by have := hfa.size; omega⟩
      have hq64 := HN.out.2.2.2
      have hpl := HO.out.len
      have HWr := Lib.hid (hwrite_any hEw hr'.out hPB 1 (by simp only [List.flatten_cons, List.flatten_nil, List.append_nil]; omega) (by simp) (by omega) (by omega))
      unfold HWriteP at HWr
      clear hPB hEw hfa
      go_wp2_with fail
      refine HWr.out.mono ?_
      rintro e w5 ⟨ea, em, ec, rfl, h1, h2⟩
      have HE5 := Lib.hid (show Fr noBlock w w5 from (((HE.out.2.1.trans' HO.out.fr).alloc (.cells #[.slice po (1 + q + 8) pc] 34)).trans h2.fr (fun k hk => .inr (by
        rcases hk with rfl | hk
        · exact HE.out.2.2.1
        · exact HE.out.2.2.2 k hk))))
      have hfin : (eat s (r ++ [pad].flatten)).1.list.flatMap bytes4 = shaEnd s r n := by
        unfold shaEnd shaPad
        rw [Hq.out, ← Hpad.out]
        simp
      obtain ⟨E, hE⟩ : ∃ E, (eat s (r ++ [pad].flatten)).1 = E := ⟨_, rfl⟩
      rw [hE] at h1 hfin
      have Hfin := Lib.hid hfin
      have e0 := (head_cell h1.box (i := 0) rfl).1
      have e1 := (head_cell h1.box (i := 1) rfl).1
      have e2 := (head_cell h1.box (i := 2) rfl).1
      have e3 := (head_cell h1.box (i := 3) rfl).1
      have e4 := (head_cell h1.box (i := 4) rfl).1
      have e5 := (head_cell h1.box (i := 5) rfl).1
      have e6 := (head_cell h1.box (i := 6) rfl).1
      have e7 := (head_cell h1.box (i := 7) rfl).1
      clear h1 h2 hE hfin HWr HO HE HH HH2 HZ Hq HN Hpad hFl hwz hq64 hpl hr'
      go_wp2_with fail
      clear e0 e1 e2 e3 e4 e5 e6 e7
      go_loopw [7, 55] (fun s7 s55 W => ∃ (i : Nat) (po : Option Addr) (pc : Nat), i ≤ 8 ∧ s55 = .int .i64 i ∧ s7 = .slice po (4 * i) pc ∧ Hid (OwnB w5 W po (4 * i) pc ((E.list.take i).flatMap bytes4))) (fun _ s55 _ => 8 - (intOf s55).toNat)
      case atStart => exact ⟨0, none, 0, by omega, rfl, rfl, Lib.hid (OwnB.nil (Fr.refl _ _))⟩
      case round =>
        obtain ⟨i, po, pc, hi, rfl, rfl, HO⟩ := hrel
        by_cases hlt : i < 8
        · have hix : E.list.length = 8 := rfl
          obtain ⟨x, hx⟩ : ∃ x, E.list[i]? = some x := ⟨_, List.getElem?_eq_getElem (by rw [hix]; exact hlt)⟩
          have hidx := idx8 E hx
          obtain ⟨m, hm⟩ : ∃ m, 4 * i = m := ⟨_, rfl⟩
          rw [hm] at HO ⊢
          have Hm := Lib.hid hm
          have HTk := Lib.hid (bytes4_take E hx)
          have hmb : m ≤ 32 := by omega
          clear hm
          obtain ⟨X, hX⟩ : ∃ X, (E.list.take i).flatMap bytes4 = X := ⟨_, rfl⟩
          rw [hX] at HO HTk
          clear hX hx hix
          go_wp2_with (at_builtin; apply stop_here)
          refine ⟨?_, trivial⟩
          refine wpList_app rfl _ _ rfl el_bytes _ (bytes4 x) _ rfl w5.heap.size m (m + 4) (by rw [List.length_append, HO.out.len]; rfl) rfl (HO.out.own' ((Fr.refl noBlock wr).alloc _)) rfl (RowRd.of_flat (heap_new wr _) (bytes4_flat x) (by unfold maxLen; simp [bytes4])) rfl (by unfold maxLen; omega) (by omega) (HO.out.base ((Fr.refl noBlock wr).alloc _)) ?_
          intro ao2 cap2 w6 o6 g6 a6
          go_frame
          have HO6 := Lib.hid (HO.out.grown ((Fr.refl noBlock wr).alloc _) o6 (by rw [List.length_append, HO.out.len]; rfl) g6)
          rw [← HTk.out] at HO6
          clear o6 g6 a6 HO HTk
          go_wp2_with fail
          go_roundw
          case rel =>
            refine ⟨i + 1, ao2, cap2, hlt, by go_num, ?_, ?_⟩
            · rw [show 4 * (i + 1) = m + 4 by have := Hm.out; omega]
            · rw [show 4 * (i + 1) = m + 4 by have := Hm.out; omega]
              exact HO6
          case measure => simp [intOf]; omega
        · have q1 : (8 : Int) ≤ (i : Int) := by omega
          obtain rfl : i = 8 := by omega
          have e : (E.list.take 8).flatMap bytes4 = shaEnd s r n := Hfin.out
          rw [e] at HO
          have hl := HO.out.len
          go_wp2_with fail
          go_ret
          exact ⟨⟨po, 4 * 8, pc⟩, rfl, hl.symm, HO.out.row, HE5.out.trans' HO.out.fr, fun k hk => Nat.le_trans HE5.out.size (HO.out.new k hk)⟩
end Go.Proofs.YtajhgejhdalobaaGreatDoor
namespace Go.Proofs.YtajhgejhdalobaaGreatDoor
open Go.RowKit

theorem RowRd.lt' {α : Type} {R : Rec α} {w : World} {ao : Option Addr} {xs : List α} (h : RowRd R w ao xs) (h0 : 0 < xs.length) : ∀ a, ao = some a → a.block < w.heap.size := by
  intro a e
  obtain ⟨b, off, e2, h1, _⟩ := h.at' 0 h0
  rw [e] at e2
  cases e2
  exact h1
theorem PBes.arg {w w' : World} {F : Nat → Prop} {pa : Option Addr} {ss : List SV} {ps : List Bs} (hr : RowRd SliceR w pa ss) (hp : PartsRd w ss ps) (hf : Fr noBlock w w') (hF : ∀ k, F k → w.heap.size ≤ k) : PBes w' F pa ss ps := by
  refine ⟨⟨hr.fr0 hf, fun h0 a e => ?_⟩, hp.1, fun i s p h1 h2 => ⟨(hp.2 i s p h1 h2).1, (hp.2 i s p h1 h2).2.fr0 hf, fun h0 a e => ?_⟩⟩
  · have h1 := hr.lt' h0 a e
    exact ⟨fun hk => by have := hF _ hk; omega, Nat.lt_of_lt_of_le h1 hf.size⟩
  · have h3 := (hp.2 i s p h1 h2).2.lt' h0 a e
    exact ⟨fun hk => by have := hF _ hk; omega, Nat.lt_of_lt_of_le h3 hf.size⟩
theorem hashF_new {h : Nat} : ∀ k, hashF h none 0 0 k → k = h := by
  rintro k (rfl | hk)
  · rfl
  · simp [Value.ownBlock] at hk
theorem sha_eq (l : List UInt8) : shaEnd (eat sha0 ([] ++ l)).1 (eat sha0 ([] ++ l)).2 l.length = sha l := rfl
set_option maxHeartbeats 800000 in
theorem shasum_any {w : World} {pa : Option Addr} {ss : List SV} {ps : List Bs} (hr : RowRd SliceR w pa ss) (hp : PartsRd w ss ps) (pc : Nat) (hb : ps.flatten.length ≤ 1099511627776) (hss : ps.length ≤ 1000000) : Calls Tryz.prog 355 #[.slice pa ps.length pc] w (ShaP (sha ps.flatten) w) := by
  have HR := Lib.hid (And.intro hr hp)
  have HN := Lib.hid (newhash_any w)
  unfold NewHashP at HN
  clear hr hp
  unfold ShaP
  go_enter Tryz.func355, Tryz.ntmps355
  go_wp2_with fail
  refine HN.out.mono ?_
  rintro e w1 ⟨h, rfl, h1, h2, h3⟩
  have HW := Lib.hid (hwrite_any h1 (by simp) (PBes.arg HR.out.1 HR.out.2 h2 (fun k hk => by rw [hashF_new k hk]; exact h3)) pc hb hss (by omega) (by omega))
  unfold HWriteP at HW
  have H1 := Lib.hid (And.intro h2 h3)
  clear h1 h2 h3
  go_wp2_with fail
  refine HW.out.mono ?_
  rintro e w2 ⟨ao, m, cap, rfl, h1, h2⟩
  have HF := Lib.hid (show Fr noBlock w w2 from H1.out.1.trans h2.fr (fun k hk => .inr (by rw [hashF_new k hk]; exact H1.out.2)))
  rw [Int.zero_add] at h1
  have HS := Lib.hid (hsum_any h1 (eat_rest _ _) hb)
  rw [sha_eq] at HS
  unfold ShaP at HS
  clear h1 h2 HW
  go_wp2_with fail
  refine HS.out.mono ?_
  rintro e w3 ⟨sv, rfl, k1, k2, k3, k4⟩
  have HE := Lib.hid (And.intro k1 (And.intro k2 (And.intro k3 k4)))
  clear k1 k2 k3 k4
  go_wp2_with fail
  go_ret
  exact ⟨sv, rfl, HE.out.1, HE.out.2.1, HF.out.trans' HE.out.2.2.1, fun k hk => Nat.le_trans HF.out.size (HE.out.2.2.2 k hk)⟩
end Go.Proofs.YtajhgejhdalobaaGreatDoor
namespace Go.Proofs.YtajhgejhdalobaaGreatDoor
open Go.RowKit

theorem wpList_copyB {ops : Array Oper} {rest : List Oper} {o : Oper} {a : Act} {w : World} {Q : Exit → Act → World → Prop} (hgd : o.guard = none) (d s : Operand) (ho : o.op = .call { callee := .builtin .copy, args := #[d, s], argTypes := #[34, 34] })
    {g off n cap : Nat} {cur : Array Value} {t : TypeId} (hg : w.heap[g]? = some (.cells cur t (0, 0))) {sp : Option Addr} {ys : List UInt8} {m c : Nat} (ed : a.eval d = .slice (some ⟨g, off, none⟩) n cap) (es : a.eval s = .slice sp m c) (hs : RowRd ByteR w sp ys) (hm : m = ys.length) (hle : m ≤ n) (hfit : off + n ≤ cur.size)
    (h : ∀ w', w'.heap[g]? = some (.cells (cur.toList.take off ++ ys.map byteV ++ cur.toList.drop (off + m)).toArray t (0, 0)) → Fr (fun k => k = g) w w' → wpList Tryz.prog ops Q rest (a.put o.dst (.int .i64 (m : Int))) w') : wpList Tryz.prog ops Q (o :: rest) a w := by
  refine wpList_plain hgd fun _ hK => ?_
  have hsz : (Tryz.prog.info? 5).map (·.size) = some 1 := by kernel_rfl
  have hrun : ∃ w', (Builtin.copy_ #[34, 34] o.type #[.slice (some ⟨g, off, none⟩) n cap, .slice sp m c]).run Tryz.prog w = .ok (.int .i64 (m : Int)) w' ∧ w'.heap[g]? = some (.cells (cur.toList.take off ++ ys.map byteV ++ cur.toList.drop (off + m)).toArray t (0, 0)) ∧ Fr (fun k => k = g) w w' := by
    cases sp with
    | none =>
      have hy : ys = [] := by
        cases ys with
        | nil => rfl
        | cons y ys => obtain ⟨b, o, e, _⟩ := hs.at' 0 (by simp); cases e
      subst hy
      have h0 : m = 0 := hm
      subst h0
      refine ⟨w, run_copy_none w 34 34 o.type 5 _ _ n cap 0 c Tryz.underlying34 hsz (by simp), ?_, Fr.refl _ _⟩
      rw [hg]
      simp
    | some b =>
      have hcl : (ys.map byteV).length = m := by rw [List.length_map, hm]
      have hr := run_copy_row (P := Tryz.prog) w 34 34 o.type 5 g off n cap b m c cur t (ys.map byteV) Tryz.underlying34 hsz hg (by rw [hcl]; exact (Nat.min_eq_left hle).symm)
        (fun j u hu => hs.cells j u (by rw [flat_bytes]; exact hu)) (by rw [hcl]; omega) (by intro v hv; obtain ⟨q, _, rfl⟩ := List.mem_map.1 hv; rfl)
      rw [hcl] at hr
      exact ⟨_, hr, setRow_heap w g cur _ t _ hg, fr_setRow g _⟩
  obtain ⟨w', hr, h1, h2⟩ := hrun
  unfold Oper.wp execOp
  simp only [ho, resolve, invoke, builtin, Sem.run_bind, Sem.run_pure, Result.andThen_ok, List.map_toArray, List.map_cons, List.map_nil, ed, es, hr]
  exact hK _ _ (h w' h1 h2)

def makerL (v : Value) (d s q : Int) (X Y : List UInt8) : List Value := [v, .int .u32 d, .int .i32 s, .int .u32 q] ++ X.map byteV ++ Y.map byteV
def makerO (v : Value) (d s q : Int) (X Y : List UInt8) : Obj := .cells (makerL v d s q X Y).toArray 405 (0, 0)
def xorP (x : UInt8) (l : List UInt8) (i : Nat) : List UInt8 := (l.take i).map (· ^^^ x) ++ l.drop i
theorem xorP_len (x : UInt8) (l : List UInt8) {i : Nat} (h : i ≤ l.length) : (xorP x l i).length = l.length := by simp [xorP]; omega
theorem xorP_zero (x : UInt8) (l : List UInt8) : xorP x l 0 = l := by simp [xorP]
theorem xorP_all (x : UInt8) {l : List UInt8} {i : Nat} (h : l.length ≤ i) : xorP x l i = l.map (· ^^^ x) := by simp [xorP, List.take_of_length_le h, List.drop_of_length_le h]
theorem xorP_get (x : UInt8) (l : List UInt8) {i : Nat} (h : i < l.length) : (xorP x l i)[i]? = some l[i] := by
  unfold xorP
  rw [List.getElem?_append_right (by simp <;> omega)]
  simp [Nat.min_eq_left (Nat.le_of_lt h)]
theorem xorP_set (x : UInt8) (l : List UInt8) {i : Nat} (h : i < l.length) : (xorP x l i).set i (l[i] ^^^ x) = xorP x l (i + 1) := by
  unfold xorP
  have e : ((l.take i).map (· ^^^ x)).length = i := by simp; omega
  rw [List.set_append_right _ _ (by omega), e, Nat.sub_self, List.take_succ_eq_append_getElem h, List.map_append, List.append_assoc]
  rw [List.drop_eq_getElem_cons h, List.set_cons_zero]
  rfl
section
variable {w : World} {b : Nat} {v : Value} {d s q : Int} {X Y : List UInt8}
theorem makerX (h : w.heap[b]? = some (makerO v d s q X Y)) (_hX : X.length = 64) {i : Nat} {c : UInt8} (hc : X[i]? = some c) : w.cell? ⟨b, 4 + i, none⟩ = some (byteV c) ∧ w.frozen? ⟨b, 4 + i, none⟩ = false := by
  refine ⟨?_, free_of h _⟩
  have hi := (List.getElem?_eq_some_iff.1 hc).1
  rw [cell_of h, List.getElem?_toArray]
  unfold makerL
  rw [List.append_assoc, List.getElem?_append_right (by simp), List.getElem?_append_left (by simp <;> omega)]
  simp [hc]
theorem makerY (h : w.heap[b]? = some (makerO v d s q X Y)) (hX : X.length = 64) {i : Nat} {c : UInt8} (hc : Y[i]? = some c) : w.cell? ⟨b, 68 + i, none⟩ = some (byteV c) ∧ w.frozen? ⟨b, 68 + i, none⟩ = false := by
  refine ⟨?_, free_of h _⟩
  rw [cell_of h, List.getElem?_toArray]
  unfold makerL
  rw [List.getElem?_append_right (by simp [hX] <;> omega)]
  have e : 68 + i - ([v, .int .u32 d, .int .i32 s, .int .u32 q] ++ X.map byteV).length = i := by simp [hX]
  rw [e]
  simp [hc]
theorem maker_setX (h : w.heap[b]? = some (makerO v d s q X Y)) (hX : X.length = 64) {i : Nat} (hi : i < 64) (c : UInt8) : (w.setCell ⟨b, 4 + i, none⟩ (byteV c)).heap[b]? = some (makerO v d s q (X.set i c) Y) := by
  rw [heap_set_eq h]
  unfold makerO makerL
  congr 2
  rw [List.setIfInBounds_toArray, List.append_assoc, List.set_append_right _ _ (by simp), List.set_append_left _ _ (by simp <;> omega), List.map_set, List.append_assoc]
  congr 3
  simp
theorem maker_setY (h : w.heap[b]? = some (makerO v d s q X Y)) (hX : X.length = 64) {i : Nat} (_hi : i < 64) (c : UInt8) : (w.setCell ⟨b, 68 + i, none⟩ (byteV c)).heap[b]? = some (makerO v d s q X (Y.set i c)) := by
  rw [heap_set_eq h]
  unfold makerO makerL
  congr 2
  rw [List.setIfInBounds_toArray, List.set_append_right _ _ (by simp [hX] <;> omega), List.map_set]
  congr 2
  simp [hX]
theorem maker_head (h : w.heap[b]? = some (makerO v d s q X Y)) : w.cell? ⟨b, 0, none⟩ = some v ∧ w.cell? ⟨b, 1, none⟩ = some (.int .u32 d) ∧ w.cell? ⟨b, 2, none⟩ = some (.int .i32 s) ∧ w.frozen? ⟨b, 1, none⟩ = false ∧ w.frozen? ⟨b, 2, none⟩ = false :=
  ⟨cell_of h 0, cell_of h 1, cell_of h 2, free_of h 1, free_of h 2⟩
end
theorem xor36_u8 (c : UInt8) : bits .xor .u8 (c.toNat : Int) 54 = ((c ^^^ 0x36).toNat : Int) := by
  rw [show (54 : Int) = ((0x36 : UInt8).toNat : Int) from rfl, u8x]
theorem xor5c_u8 (c : UInt8) : bits .xor .u8 (c.toNat : Int) 92 = ((c ^^^ 0x5c).toNat : Int) := by
  rw [show (92 : Int) = ((0x5c : UInt8).toNat : Int) from rfl, u8x]
theorem maker_over {v : Value} {d s q : Int} {X Y k : List UInt8} (hX : X.length = 64) (hk : k.length ≤ 64) :
    ((makerL v d s q X Y).toArray.toList.take 4 ++ k.map byteV ++ (makerL v d s q X Y).toArray.toList.drop (4 + k.length)) = makerL v d s q (k ++ X.drop k.length) Y := by
  unfold makerL
  simp only [List.append_assoc]
  rw [List.take_append_of_le_length (by simp), List.drop_append]
  have e1 : List.take 4 [v, Value.int .u32 d, Value.int .i32 s, Value.int .u32 q] = [v, .int .u32 d, .int .i32 s, .int .u32 q] := rfl
  have e2 : List.drop (4 + k.length) [v, Value.int .u32 d, Value.int .i32 s, Value.int .u32 q] = [] := List.drop_of_length_le (by simp)
  rw [e1, e2, List.nil_append]
  have e3 : 4 + k.length - [v, Value.int .u32 d, Value.int .i32 s, Value.int .u32 q].length = k.length := by simp
  rw [e3, List.drop_append_of_le_length (by simp [hX]; exact hk), List.map_append, List.map_drop, List.append_assoc]
theorem maker_over2 {v : Value} {d s q : Int} {X Y k : List UInt8} (hX : X.length = 64) (_hY : Y.length = 64) (hk : k.length ≤ 64) :
    ((makerL v d s q X Y).toArray.toList.take 68 ++ k.map byteV ++ (makerL v d s q X Y).toArray.toList.drop (68 + k.length)) = makerL v d s q X (k ++ Y.drop k.length) := by
  unfold makerL
  have e0 : ([v, Value.int .u32 d, Value.int .i32 s, Value.int .u32 q] ++ X.map byteV).length = 68 := by simp [hX]
  show List.take 68 (([v, Value.int .u32 d, Value.int .i32 s, Value.int .u32 q] ++ X.map byteV) ++ Y.map byteV) ++ k.map byteV ++ List.drop (68 + k.length) (([v, Value.int .u32 d, Value.int .i32 s, Value.int .u32 q] ++ X.map byteV) ++ Y.map byteV) = _
  rw [List.take_append_of_le_length (by rw [e0]; exact Nat.le_refl _), List.take_of_length_le (by rw [e0]; exact Nat.le_refl _), List.drop_append, List.drop_of_length_le (by rw [e0]; omega), List.nil_append, e0, show 68 + k.length - 68 = k.length by omega, List.map_append, List.map_drop, List.append_assoc]
theorem RowRd.keep {α : Type} {R : Rec α} {w w' : World} {ao : Option Addr} {xs : List α} {b : Nat} (h : RowRd R w ao xs) (hf : Fr (fun k => k = b) w w') (hn : 0 < xs.length → ∀ a, ao = some a → a.block ≠ b) : RowRd R w' ao xs := by
  cases xs with
  | nil => exact RowRd.nil
  | cons x xs => exact h.fr hf (fun b' off e => hn (by simp) _ e)
def KIn (w : World) (b : Nat) (key : List UInt8) (ko : Option Addr) (kn : Nat) (X : World) : Prop :=
  RowRd ByteR X ko (macK key) ∧ kn = (macK key).length ∧ (0 < (macK key).length → ∀ a, ko = some a → a.block ≠ b) ∧ Fr noBlock w X
set_option maxRecDepth 100000 in
set_option maxHeartbeats 3200000 in
theorem halves_any {w : World} {b : Nat} {ko : Option Addr} {kn kc : Nat} {d s q : Int} {key : List UInt8} (hb : w.heap[b]? = some (makerO (.slice ko kn kc) d s q (List.replicate 64 0) (List.replicate 64 0))) (hk : RowRd ByteR w ko key) (hn : kn = key.length) (hne : 0 < key.length → ∀ a, ko = some a → a.block ≠ b) (hl : key.length ≤ 1099511627776) :
    Calls Tryz.prog 352 #[.pointer (some ⟨b, 0, none⟩)] w fun e w' => e = .returned (.tuple #[]) ∧ w'.heap[b]? = some (makerO (.slice ko kn kc) d s q (macX 0x36 key) (macX 0x5c key)) ∧ Fr (fun k => k = b) w w' := by
  have h0 := (maker_head hb).1
  have hblt := heap_lt hb
  subst hn
  have HB := Lib.hid hb
  have HK := Lib.hid hk
  have HNe := Lib.hid hne
  clear hb hk hne
  go_enter Tryz.func352, Tryz.ntmps352
  go_upto_if 10 with fail
  go_cut [2] from 11 to 13 (fun s2 wx => ∃ (xo : Option Addr) (xn xc : Nat), s2 = .slice xo xn xc ∧ Hid (KIn w b key xo xn wx))
  case first =>
    by_cases hg : 64 < key.length
    · have q1 : (64 : Int) < (key.length : Int) := by omega
      have hmk : macK key = sha key := by unfold macK; rw [if_pos hg]
      have HKs := Lib.hid (show Calls Tryz.prog 355 #[.slice (some ⟨w.heap.size, 0, none⟩) 1 1] (w.alloc (.cells #[.slice ko key.length kc] 34)) (ShaP (sha key) (w.alloc (.cells #[.slice ko key.length kc] 34))) by
        have ha := (Fr.refl noBlock w).alloc (.cells #[.slice ko key.length kc] 34)
        have h := shasum_any (ss := [⟨ko, key.length, kc⟩]) (ps := [key]) (RowRd.one (heap_new w (.cells #[.slice ko key.length kc] 34)) (⟨ko, key.length, kc⟩ : SV) rfl) ⟨rfl, fun i sv p h1 h2 => by
          obtain rfl : i = 0 := by
            have := (List.getElem?_eq_some_iff.1 h1).1
            simpa using this
          simp at h1 h2
          subst h1 h2
          exact ⟨rfl, HK.out.fr0 ha⟩⟩ 1 (by simpa using hl) (by simp)
        simpa using h)
      unfold ShaP at HKs
      go_wp2_with fail
      refine HKs.out.mono ?_
      rintro e w2 ⟨⟨xa, xn, xc⟩, rfl, h1, h2, h3, h4⟩
      unfold SV.val at h2 h4 ⊢
      dsimp only at h1 h2 h4 ⊢
      have HI := Lib.hid (show KIn w b key xa xn w2 from ⟨by rw [hmk]; exact RowAt.rd h2, by rw [hmk]; exact h1, fun _ a e eb => by
        subst e
        have h5 := h4 a.block rfl
        simp at h5
        omega, (((Fr.refl noBlock w).alloc _).trans' h3)⟩)
      clear h1 h2 h3 h4 HKs
      go_wp2_with fail
      go_meet
      exact ⟨xa, xn, xc, rfl, HI⟩
    · have q1 : (key.length : Int) ≤ 64 := by omega
      have hmk : macK key = key := by unfold macK; rw [if_neg hg]
      have HI := Lib.hid (show KIn w b key ko key.length w from ⟨by rw [hmk]; exact HK.out, by rw [hmk], by rw [hmk]; exact HNe.out, Fr.refl _ _⟩)
      go_wp2_with fail
      go_meet
      exact ⟨ko, _, kc, rfl, HI⟩
  obtain ⟨xo, xn, xc, rfl, HI⟩ := hcut
  generalize wc = w2 at *
  have hkl := macK_len key
  obtain ⟨kk, hkk⟩ : ∃ kk, macK key = kk := ⟨_, rfl⟩
  have HKK := Lib.hid hkk
  have HI2 := Lib.hid (show RowRd ByteR w2 xo kk ∧ xn = kk.length ∧ (0 < kk.length → ∀ a, xo = some a → a.block ≠ b) ∧ Fr noBlock w w2 by rw [← hkk]; exact HI.out)
  rw [hkk] at hkl
  obtain rfl := HI2.out.2.1
  have HB2 := Lib.hid (HI2.out.2.2.2.obj HB.out (fun z => z))
  clear hkk HI h0
  go_upto_region 4 with (refine wpList_copyB rfl _ _ rfl HB2.out rfl rfl HI2.out.1 rfl (by omega) (by simp [makerL]) ?_; intro w3 h3 f3; go_frame)
  obtain ⟨P0, hP0⟩ : ∃ P0, kk ++ List.replicate (64 - kk.length) (0 : UInt8) = P0 := ⟨_, rfl⟩
  have hPl : P0.length = 64 := by rw [← hP0]; simp; omega
  have hov : kk ++ (List.replicate 64 (0 : UInt8)).drop kk.length = P0 := by rw [← hP0, List.drop_replicate]
  rw [maker_over (by simp) hkl, hov] at h3
  have HB3 := Lib.hid (show w3.heap[b]? = some (makerO (.slice ko key.length kc) d s q P0 (List.replicate 64 0)) from h3)
  have HK3 := Lib.hid (HI2.out.1.keep f3 HI2.out.2.2.1)
  have HF3 := Lib.hid ((HI2.out.2.2.2.mono (fun _ z => z.elim)).trans' f3)
  clear h3 f3 HB2
  go_upto_region 5 with (refine wpList_copyB rfl _ _ rfl HB3.out rfl rfl HK3.out rfl (by omega) (by simp [makerL, hPl]) ?_; intro w4 h4 f4; go_frame)
  rw [maker_over2 hPl (by simp) hkl, hov] at h4
  have HB4 := Lib.hid (show w4.heap[b]? = some (makerO (.slice ko key.length kc) d s q (xorP 0x36 P0 0) (xorP 0x5c P0 0)) by rw [xorP_zero, xorP_zero]; exact h4)
  have HF4 := Lib.hid (HF3.out.trans' f4)
  have HMx := Lib.hid (show macX 0x36 key = P0.map (· ^^^ 0x36) ∧ macX 0x5c key = P0.map (· ^^^ 0x5c) by
    unfold macX
    rw [HKK.out, hP0]
    exact ⟨rfl, rfl⟩)
  clear h4 f4 HB3 HF3 HK3 HI2 HKK hP0 hov hkl
  go_wp2_with fail
  go_loopw [26] (fun s26 wr => ∃ i : Nat, i ≤ 64 ∧ s26 = .int .i64 i ∧ Hid (wr.heap[b]? = some (makerO (.slice ko key.length kc) d s q (xorP 0x36 P0 i) (xorP 0x5c P0 i))) ∧ Hid (Fr (fun k => k = b) w wr)) (fun s26 _ => 64 - (intOf s26).toNat)
  case atStart => exact ⟨0, by omega, rfl, HB4, HF4⟩
  case round =>
    clear HB4 HF4
    obtain ⟨i, hi, rfl, HBi, HFi⟩ := hrel
    by_cases hlt : i < 64
    · have q1 : (i : Int) < 64 := by omega
      have q0 : (0 : Int) ≤ (i : Int) := by omega
      have hiP : i < P0.length := by omega
      have hlX : (xorP 0x36 P0 i).length = 64 := by rw [xorP_len _ _ (by omega), hPl]
      obtain ⟨x0, x1⟩ := makerX HBi.out hlX (xorP_get 0x36 P0 hiP)
      have HB5 := Lib.hid (maker_setX ((Fr.refl noBlock wr).drew.obj HBi.out (fun z => z)) hlX (i := i) hlt (P0[i] ^^^ 0x36))
      rw [xorP_set 0x36 P0 hiP] at HB5
      have hlX2 : (xorP 0x36 P0 (i + 1)).length = 64 := by rw [xorP_len _ _ (by omega), hPl]
      have HF5 := Lib.hid (HFi.out.drew.setCell (p := ⟨b, 4 + i, none⟩) (.inl rfl) (byteV (P0[i] ^^^ 0x36)))
      unfold byteV at x0 HB5 HF5
      obtain ⟨c, hc⟩ : ∃ c, P0[i] = c := ⟨_, rfl⟩
      have HX36 := Lib.hid (xor36_u8 c)
      rw [hc] at x0 HB5 HF5
      rw [← HX36.out] at HB5 HF5
      go_wp2_with fail
      go_still_tail 10, (by kernel_rfl)
      change wpList _ _ _ _ _ wr.drew
      go_upto_region 9 with fail
      refine wp_at (fun W => W.heap[b]? = some (makerO (.slice ko key.length kc) d s q (xorP 0x36 P0 (i + 1)) (xorP 0x5c P0 i)) ∧ Fr (fun k => k = b) w W) ⟨HB5.out, HF5.out⟩ ?_
      clear HB5 HF5 HX36 x0 x1 HBi HFi
      rintro w6 ⟨h6, f6⟩
      obtain ⟨y0, y1⟩ := makerY h6 hlX2 (xorP_get 0x5c P0 hiP)
      have HB7 := Lib.hid (maker_setY ((Fr.refl noBlock w6).drew.obj h6 (fun z => z)) hlX2 (i := i) hlt (P0[i] ^^^ 0x5c))
      rw [xorP_set 0x5c P0 hiP] at HB7
      have HF7 := Lib.hid (f6.drew.setCell (p := ⟨b, 68 + i, none⟩) (.inl rfl) (byteV (P0[i] ^^^ 0x5c)))
      unfold byteV at y0 HB7 HF7
      have HX5 := Lib.hid (xor5c_u8 c)
      rw [hc] at y0 HB7 HF7
      rw [← HX5.out] at HB7 HF7
      clear h6 f6
      go_wp2_with fail
      go_still_tail 10, (by kernel_rfl)
      change wpList _ _ _ _ _ w6.drew
      go_wp2_with fail
      go_roundw
      case rel => exact ⟨i + 1, hlt, by go_num, HB7, HF7⟩
      case measure => simp [intOf]; omega
    · have q1 : (64 : Int) ≤ (i : Int) := by omega
      obtain rfl : i = 64 := by omega
      go_wp2_with fail
      go_end0
      refine ⟨rfl, ?_, HFi.out⟩
      rw [HBi.out, xorP_all _ (by omega), xorP_all _ (by omega), HMx.out.1, HMx.out.2]
end Go.Proofs.YtajhgejhdalobaaGreatDoor
