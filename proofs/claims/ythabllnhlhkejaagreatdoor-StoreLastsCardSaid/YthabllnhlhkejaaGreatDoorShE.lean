/-
  THE WALK of the digest's Sum.
-/
import Derived.Deep.CutBlock
import Derived.Deep.DeepCutAuto
import Derived.Deep.CutRange
import Derived.Laws.MakeOwn
import Derived.Test.YthabllnhlhkejaaGreatDoorShD
import Derived.Test.YthabllnhlhkejaaGreatDoorOwnB
import Derived.Test.YthabllnhlhkejaaGreatDoorByteS
namespace Go.Proofs.YthabllnhlhkejaaGreatDoor
open Go.RowKit

/-- make([]byte, n, c) -/
theorem mk_bytes (n c : Nat) (h : n ≤ c) (hc : c ≤ 140737488355328) : ∃ Z : Array Value, Z.toList = List.replicate c (.int .u8 0) ∧ ∀ W : World, (Instr.makeSlice 28 (.int .i64 (n : Int)) (.int .i64 (c : Int))).run Tryz.prog W = .ok (.slice (some ⟨W.heap.size, 0, none⟩) n c) (W.alloc (.cells Z 5)) := by
  obtain ⟨i, z, hi, hz, hs, hby, hzs⟩ := el_bytes.info
  have hz' : z = .int .u8 0 := by
    have := infoB
    rw [hi] at this
    simp at this
    rw [hz] at this
    simpa using this.1
  subst hz'
  refine ⟨madeCells #[.int .u8 0] c, toList_madeCells_one _ _, fun W => ?_⟩
  have := run_make W 28 5 i _ Tryz.underlying28 hi hz .i64 .i64 n c (by omega) (by omega) (by rw [hby]; omega) (by omega)
  rw [this, hs, byteK, Int.toNat_natCast, Int.toNat_natCast, Nat.mul_one]
  rfl
theorem OwnB.room (w : World) {Z : Array Value} {n c : Nat} (hZ : Z.toList = List.replicate c (.int .u8 0)) (h : n ≤ c) (hc : c ≤ maxLen) : OwnB w (w.alloc (.cells Z 5)) (some ⟨w.heap.size, 0, none⟩) n c (List.replicate n 0) := by
  have hl : Z.size = c := by have := congrArg List.length hZ; simpa using this
  refine ⟨⟨by rw [ByteR.flat_len, List.length_replicate], .inr ⟨w.heap.size, c, Z, rfl, Nat.le_refl _, heap_new w _, h, hc, by rw [byteK, Nat.mul_one]; exact hl, ?_⟩⟩, by simp, (Fr.refl _ _).alloc _⟩
  rw [byteK, Nat.mul_one, flat_bytes, hZ, List.take_replicate, Nat.min_eq_left h, List.map_replicate]
  rfl
theorem box10 {W : World} {b : Nat} {t : TypeId} {x0 x1 x2 x3 x4 x5 x6 x7 x8 x9 : Value} (h : W.heap[b]? = some (.cells #[x0, x1, x2, x3, x4, x5, x6, x7, x8, x9] t (0, 0))) : W.cell? ⟨b, 0, none⟩ = some x0 ∧ W.cell? ⟨b, 1, none⟩ = some x1 ∧ W.cell? ⟨b, 2, none⟩ = some x2 ∧ W.cell? ⟨b, 3, none⟩ = some x3 ∧ W.cell? ⟨b, 4, none⟩ = some x4 ∧ W.cell? ⟨b, 5, none⟩ = some x5 ∧ W.cell? ⟨b, 6, none⟩ = some x6 ∧ W.cell? ⟨b, 7, none⟩ = some x7 ∧ W.cell? ⟨b, 8, none⟩ = some x8 ∧ W.cell? ⟨b, 9, none⟩ = some x9 ∧ W.frozen? ⟨b, 0, none⟩ = false ∧ W.frozen? ⟨b, 1, none⟩ = false ∧ W.frozen? ⟨b, 2, none⟩ = false ∧ W.frozen? ⟨b, 3, none⟩ = false ∧ W.frozen? ⟨b, 4, none⟩ = false ∧ W.frozen? ⟨b, 5, none⟩ = false ∧ W.frozen? ⟨b, 6, none⟩ = false ∧ W.frozen? ⟨b, 7, none⟩ = false ∧ W.frozen? ⟨b, 8, none⟩ = false ∧ W.frozen? ⟨b, 9, none⟩ = false := by
  have c := fun i => cell_of h i
  have f := fun i => free_of h i
  exact ⟨c 0, c 1, c 2, c 3, c 4, c 5, c 6, c 7, c 8, c 9, f 0, f 1, f 2, f 3, f 4, f 5, f 6, f 7, f 8, f 9⟩
theorem set10 {W : World} {b : Nat} {t : TypeId} {x0 x1 x2 x3 x4 x5 x6 x7 x8 x9 : Value} (h : W.heap[b]? = some (.cells #[x0, x1, x2, x3, x4, x5, x6, x7, x8, x9] t (0, 0))) (v0 v1 v2 v3 v4 v5 v6 v7 v8 v9 : Value) : (((((((((((W).setCell ⟨b, 0, none⟩ v0).setCell ⟨b, 1, none⟩ v1).setCell ⟨b, 2, none⟩ v2).setCell ⟨b, 3, none⟩ v3).setCell ⟨b, 4, none⟩ v4).setCell ⟨b, 5, none⟩ v5).setCell ⟨b, 6, none⟩ v6).setCell ⟨b, 7, none⟩ v7).setCell ⟨b, 8, none⟩ v8).setCell ⟨b, 9, none⟩ v9).heap[b]? = some (.cells #[v0, v1, v2, v3, v4, v5, v6, v7, v8, v9] t (0, 0)) := by
  have h0 : ((W).setCell ⟨b, 0, none⟩ v0).heap[b]? = some (.cells #[v0, x1, x2, x3, x4, x5, x6, x7, x8, x9] t (0, 0)) := heap_set_eq (i := 0) (u := v0) h
  have h1 : (((W).setCell ⟨b, 0, none⟩ v0).setCell ⟨b, 1, none⟩ v1).heap[b]? = some (.cells #[v0, v1, x2, x3, x4, x5, x6, x7, x8, x9] t (0, 0)) := heap_set_eq (i := 1) (u := v1) h0
  have h2 : ((((W).setCell ⟨b, 0, none⟩ v0).setCell ⟨b, 1, none⟩ v1).setCell ⟨b, 2, none⟩ v2).heap[b]? = some (.cells #[v0, v1, v2, x3, x4, x5, x6, x7, x8, x9] t (0, 0)) := heap_set_eq (i := 2) (u := v2) h1
  have h3 : (((((W).setCell ⟨b, 0, none⟩ v0).setCell ⟨b, 1, none⟩ v1).setCell ⟨b, 2, none⟩ v2).setCell ⟨b, 3, none⟩ v3).heap[b]? = some (.cells #[v0, v1, v2, v3, x4, x5, x6, x7, x8, x9] t (0, 0)) := heap_set_eq (i := 3) (u := v3) h2
  have h4 : ((((((W).setCell ⟨b, 0, none⟩ v0).setCell ⟨b, 1, none⟩ v1).setCell ⟨b, 2, none⟩ v2).setCell ⟨b, 3, none⟩ v3).setCell ⟨b, 4, none⟩ v4).heap[b]? = some (.cells #[v0, v1, v2, v3, v4, x5, x6, x7, x8, x9] t (0, 0)) := heap_set_eq (i := 4) (u := v4) h3
  have h5 : (((((((W).setCell ⟨b, 0, none⟩ v0).setCell ⟨b, 1, none⟩ v1).setCell ⟨b, 2, none⟩ v2).setCell ⟨b, 3, none⟩ v3).setCell ⟨b, 4, none⟩ v4).setCell ⟨b, 5, none⟩ v5).heap[b]? = some (.cells #[v0, v1, v2, v3, v4, v5, x6, x7, x8, x9] t (0, 0)) := heap_set_eq (i := 5) (u := v5) h4
  have h6 : ((((((((W).setCell ⟨b, 0, none⟩ v0).setCell ⟨b, 1, none⟩ v1).setCell ⟨b, 2, none⟩ v2).setCell ⟨b, 3, none⟩ v3).setCell ⟨b, 4, none⟩ v4).setCell ⟨b, 5, none⟩ v5).setCell ⟨b, 6, none⟩ v6).heap[b]? = some (.cells #[v0, v1, v2, v3, v4, v5, v6, x7, x8, x9] t (0, 0)) := heap_set_eq (i := 6) (u := v6) h5
  have h7 : (((((((((W).setCell ⟨b, 0, none⟩ v0).setCell ⟨b, 1, none⟩ v1).setCell ⟨b, 2, none⟩ v2).setCell ⟨b, 3, none⟩ v3).setCell ⟨b, 4, none⟩ v4).setCell ⟨b, 5, none⟩ v5).setCell ⟨b, 6, none⟩ v6).setCell ⟨b, 7, none⟩ v7).heap[b]? = some (.cells #[v0, v1, v2, v3, v4, v5, v6, v7, x8, x9] t (0, 0)) := heap_set_eq (i := 7) (u := v7) h6
  have h8 : ((((((((((W).setCell ⟨b, 0, none⟩ v0).setCell ⟨b, 1, none⟩ v1).setCell ⟨b, 2, none⟩ v2).setCell ⟨b, 3, none⟩ v3).setCell ⟨b, 4, none⟩ v4).setCell ⟨b, 5, none⟩ v5).setCell ⟨b, 6, none⟩ v6).setCell ⟨b, 7, none⟩ v7).setCell ⟨b, 8, none⟩ v8).heap[b]? = some (.cells #[v0, v1, v2, v3, v4, v5, v6, v7, v8, x9] t (0, 0)) := heap_set_eq (i := 8) (u := v8) h7
  have h9 : (((((((((((W).setCell ⟨b, 0, none⟩ v0).setCell ⟨b, 1, none⟩ v1).setCell ⟨b, 2, none⟩ v2).setCell ⟨b, 3, none⟩ v3).setCell ⟨b, 4, none⟩ v4).setCell ⟨b, 5, none⟩ v5).setCell ⟨b, 6, none⟩ v6).setCell ⟨b, 7, none⟩ v7).setCell ⟨b, 8, none⟩ v8).setCell ⟨b, 9, none⟩ v9).heap[b]? = some (.cells #[v0, v1, v2, v3, v4, v5, v6, v7, v8, v9] t (0, 0)) := heap_set_eq (i := 9) (u := v9) h8
  exact h9
theorem fr_set_at {b : Nat} {w0 w : World} (h : Fr (fun k => k = b) w0 w) (i : Nat) (v : Value) : Fr (fun k => k = b) w0 (w.setCell ⟨b, i, none⟩ v) := h.setCell (p := ⟨b, i, none⟩) (.inl rfl) v
theorem fr_set_new {b : Nat} {w0 w : World} (hb : w0.heap.size ≤ b) (h : Fr noBlock w0 w) (i : Nat) (v : Value) : Fr noBlock w0 (w.setCell ⟨b, i, none⟩ v) := h.setCell (p := ⟨b, i, none⟩) (.inr hb) v
/-- what is at hand behind 'end := Hash{..}' -/
def EndIn (w : World) (eb : Nat) (s : S8) (xa : Option Addr) (r : List UInt8) (xc : Nat) (W : World) : Prop :=
  HashIn eb s xa r.length xc r 0 W ∧ Fr noBlock w W ∧ w.heap.size ≤ eb ∧ ∀ k, (Value.slice xa r.length xc).ownBlock = some k → w.heap.size ≤ k
theorem OwnB.put {w0 w : World} {g n cap i : Nat} {x : List UInt8} (h : OwnB w0 w (some ⟨g, 0, none⟩) n cap x) (hi : i < x.length) (c : UInt8) : OwnB w0 (w.setCell ⟨g, i, none⟩ (.int .u8 (c.toNat : Int))) (some ⟨g, 0, none⟩) n cap (x.set i c) :=
  OwnB.of_row (byte_set h.row hi c) h.new (h.fr.setCell (p := ⟨g, i, none⟩) (.inr (h.new g rfl)) _)
theorem be8_cell (n i : Nat) (hi : i < 8) : ((n : Int) * 8 / 2 ^ (56 - 8 * i)) % 256 = (((be8 (8 * n)).getD i 0).toNat : Int) := by
  have e : (be8 (8 * n)).getD i 0 = UInt8.ofNat ((8 * n) >>> (56 - 8 * i)) := by
    unfold be8
    rw [List.getD_eq_getElem?_getD, List.getElem?_map, List.getElem?_range hi]
    rfl
  rw [e, u8_shift, Nat.mul_comm 8 n]
  generalize 56 - 8 * i = k
  rw [show (2 : Int) ^ k = ((2 ^ k : Nat) : Int) from (Int.natCast_pow 2 k).symm]
  rfl
theorem be8_take (n i : Nat) (hi : i < 8) : (be8 n).take (i + 1) = (be8 n).take i ++ [(be8 n).getD i 0] := by
  have hl := be8_len n
  rw [List.take_add_one, List.getD_eq_getElem?_getD, List.getElem?_eq_getElem (by omega)]
  rfl
theorem idx8 (E : S8) {i : Nat} {x : W32} (hx : E.list[i]? = some x) (W : World) : (Instr.index 207 (.agg #[.int .u32 (E.a.toNat : Int), .int .u32 (E.b.toNat : Int), .int .u32 (E.c.toNat : Int), .int .u32 (E.d.toNat : Int), .int .u32 (E.e.toNat : Int), .int .u32 (E.f.toNat : Int), .int .u32 (E.g.toNat : Int), .int .u32 (E.h.toNat : Int)]) (.int .i64 (i : Int))).run Tryz.prog W = .ok (.int .u32 (x.toNat : Int)) W := by
  have hi : i < 8 := (List.getElem?_eq_some_iff.1 hx).1
  rcases (show i = 0 ∨ i = 1 ∨ i = 2 ∨ i = 3 ∨ i = 4 ∨ i = 5 ∨ i = 6 ∨ i = 7 by omega) with rfl | rfl | rfl | rfl | rfl | rfl | rfl | rfl <;>
    (obtain rfl := Option.some.inj hx
     first | (show _ = _; kernel_rfl) | rfl | (simp [go_sem]; rfl))
theorem bytes4_flat (x : W32) : [.int .u8 ((x.toNat : Int) / 16777216), .int .u8 ((x.toNat : Int) / 65536 % 256), .int .u8 ((x.toNat : Int) / 256 % 256), .int .u8 ((x.toNat : Int) % 256)] = ByteR.flat (bytes4 x) := by
  rw [flat_bytes]
  unfold bytes4 byteV
  simp only [List.map_cons, List.map_nil, UInt8.toNat_ofNat', BitVec.toNat_ushiftRight, Nat.shiftRight_eq_div_pow]
  have hx := x.isLt
  have e : (x.toNat : Int) / 16777216 = ((x.toNat / 2 ^ 24 % 2 ^ 8 : Nat) : Int) := by omega
  rw [e]
  rfl
theorem bytes4_take (E : S8) {i : Nat} {x : W32} (hx : E.list[i]? = some x) : (E.list.take (i + 1)).flatMap bytes4 = (E.list.take i).flatMap bytes4 ++ bytes4 x := by
  rw [List.take_add_one, hx, List.flatMap_append]
  simp
def ShaP (x : List UInt8) (w : World) (e : Ending) (w' : World) : Prop := ∃ sv : SV, e = .returned sv.val ∧ sv.n = x.length ∧ RowAt 5 ByteR w' sv.val x ∧ Fr noBlock w w' ∧ ∀ k, sv.val.ownBlock = some k → w.heap.size ≤ k
set_option maxRecDepth 100000 in
set_option maxHeartbeats 3200000 in
theorem hsum_any {h m cap n : Nat} {s : S8} {ao : Option Addr} {r : List UInt8} {w : World} (hh : HashIn h s ao m cap r (n : Int) w) (hr : r.length < 64) (hn : n ≤ 1099511627776) : Calls Tryz.prog 118 #[.pointer (some ⟨h, 0, none⟩)] w (ShaP (shaEnd s r n) w) := by
  have hlt := hh.lt h (.inl rfl)
  obtain rfl : r.length = m := hh.off.len
  have hcm := hh.off.nc
  obtain ⟨c8, c9, -, -⟩ := hh.cells
  have a0 := (head_cell hh.box (i := 0) rfl).1
  have a1 := (head_cell hh.box (i := 1) rfl).1
  have a2 := (head_cell hh.box (i := 2) rfl).1
  have a3 := (head_cell hh.box (i := 3) rfl).1
  have a4 := (head_cell hh.box (i := 4) rfl).1
  have a5 := (head_cell hh.box (i := 5) rfl).1
  have a6 := (head_cell hh.box (i := 6) rfl).1
  have a7 := (head_cell hh.box (i := 7) rfl).1
  have HH := Lib.hid hh
  have HCl := Lib.hid (fun (W : World) (hf : Fr noBlock w W) => sclone_any (hh.off.fr0 hf).rd cap (by omega))
  unfold CloneP at HCl
  clear hh
  have HKs := Lib.hid (show ∀ W, Fr noBlock w W → W.cell? ⟨h, 0, none⟩ = some (.int .u32 (s.a.toNat : Int)) ∧ W.cell? ⟨h, 1, none⟩ = some (.int .u32 (s.b.toNat : Int)) ∧ W.cell? ⟨h, 2, none⟩ = some (.int .u32 (s.c.toNat : Int)) ∧ W.cell? ⟨h, 3, none⟩ = some (.int .u32 (s.d.toNat : Int)) ∧ W.cell? ⟨h, 4, none⟩ = some (.int .u32 (s.e.toNat : Int)) ∧ W.cell? ⟨h, 5, none⟩ = some (.int .u32 (s.f.toNat : Int)) ∧ W.cell? ⟨h, 6, none⟩ = some (.int .u32 (s.g.toNat : Int)) ∧ W.cell? ⟨h, 7, none⟩ = some (.int .u32 (s.h.toNat : Int)) ∧ W.cell? ⟨h, 8, none⟩ = some (.slice ao r.length cap) from fun W hf =>
    have hb := hf.obj HH.out.box (fun z => z)
    ⟨(head_cell hb (i := 0) rfl).1, (head_cell hb (i := 1) rfl).1, (head_cell hb (i := 2) rfl).1, (head_cell hb (i := 3) rfl).1, (head_cell hb (i := 4) rfl).1, (head_cell hb (i := 5) rfl).1, (head_cell hb (i := 6) rfl).1, (head_cell hb (i := 7) rfl).1, (HH.out.fr0 hf).cells.1⟩)
  unfold ShaP
  go_enter Tryz.func118, Tryz.ntmps118
  go_upto_region 1 with fail
  go_cut [3] from 10 to 19 (fun s3 wx => ∃ (eb : Nat) (xa : Option Addr) (xc : Nat), s3 = .pointer (some ⟨eb, 0, none⟩) ∧ Hid (EndIn w eb s xa r xc wx))
  case first =>
   go_region_held3 (fun W => W.cell? ⟨h, 0, none⟩ = some (.int .u32 (s.a.toNat : Int)) ∧ W.cell? ⟨h, 1, none⟩ = some (.int .u32 (s.b.toNat : Int)) ∧ W.cell? ⟨h, 2, none⟩ = some (.int .u32 (s.c.toNat : Int)) ∧ W.cell? ⟨h, 3, none⟩ = some (.int .u32 (s.d.toNat : Int)) ∧ W.cell? ⟨h, 4, none⟩ = some (.int .u32 (s.e.toNat : Int)) ∧ W.cell? ⟨h, 5, none⟩ = some (.int .u32 (s.f.toNat : Int)) ∧ W.cell? ⟨h, 6, none⟩ = some (.int .u32 (s.g.toNat : Int)) ∧ W.cell? ⟨h, 7, none⟩ = some (.int .u32 (s.h.toNat : Int)) ∧ W.cell? ⟨h, 8, none⟩ = some (.slice ao r.length cap))
     (exact HKs.out _ (by repeat (first | (with_reducible exact Fr.refl _ _) | (with_reducible refine Fr.drew ?_) | (with_reducible refine Fr.alloc ?_ _) | (with_reducible refine fr_set_new (Nat.le_refl _) ?_ _ _) | (with_reducible refine Fr.trans' ?_ h3))))
     (first
      | (go_at_call 145; (with_reducible refine (HCl.out _ (by repeat (first | (with_reducible exact Fr.refl _ _) | (with_reducible refine Fr.drew ?_) | (with_reducible refine Fr.alloc ?_ _)))).mono ?_); rintro e w2 ⟨⟨xa, xn, xc⟩, rfl, h1, h2, h3, h4⟩; unfold SV.val at h2 h4 ⊢; dsimp only at h1 h2 h4 ⊢; subst h1; (try (have hbx := h3.obj (heap_new w _) (fun z => z); obtain ⟨t0, t1, t2, t3, t4, t5, t6, t7, t8, t9, f0, f1, f2, f3, f4, f5, f6, f7, f8, f9⟩ := box10 hbx)))
      | fail "noarm")
   · have ht := h2.lt
     have hz := h3.size
     go_wp2_with fail
     go_meet
     refine ⟨w2.heap.size, xa, xc, rfl, Lib.hid ⟨⟨heap_new w2 _, (OffB.of_row h2).fr0 ((Fr.refl noBlock w2).alloc _), fun e => Nat.lt_irrefl _ (ht _ e)⟩, ?_, hz, h4⟩⟩
     exact (((Fr.refl noBlock w).drew.trans' h3).alloc _)
   · have hb := set10 hbx (.int .u32 (s.a.toNat : Int)) (.int .u32 (s.b.toNat : Int)) (.int .u32 (s.c.toNat : Int)) (.int .u32 (s.d.toNat : Int)) (.int .u32 (s.e.toNat : Int)) (.int .u32 (s.f.toNat : Int)) (.int .u32 (s.g.toNat : Int)) (.int .u32 (s.h.toNat : Int)) (.slice xa r.length xc) (.int .i64 0)
     go_wp2_with fail
     go_meet
     refine ⟨w.heap.size, xa, xc, rfl, Lib.hid ⟨⟨hb, (OffB.of_row h2).fr (S := fun k => k = w.heap.size) ?_ ?_, ?_⟩, ?_, Nat.le_refl _, ?_⟩⟩
     · repeat (first | (with_reducible exact Fr.refl _ _) | (with_reducible refine Fr.drew ?_) | (with_reducible refine fr_set_at ?_ _ _))
     · intro k hk e
       have := h4 k hk
       simp at this
       omega
     · intro e
       have := h4 _ e
       simp at this
       omega
     · repeat (first | (with_reducible exact Fr.refl _ _) | (with_reducible refine Fr.drew ?_) | (with_reducible refine Fr.alloc ?_ _) | (with_reducible refine fr_set_new (Nat.le_refl _) ?_ _ _) | (with_reducible refine Fr.trans' ?_ h3))
     · intro k hk
       have := h4 k hk
       simp at this
       omega
  obtain ⟨eb, xa, xc, rfl, HE⟩ := hcut
  generalize wc = w2 at *
  clear HCl HKs a0 a1 a2 a3 a4 a5 a6 a7 c8 c9
  have HH2 := Lib.hid (HH.out.fr0 HE.out.2.1)
  obtain ⟨c8, c9, -, -⟩ := HH2.out.cells
  obtain ⟨q, hq⟩ : ∃ q, (119 - r.length) % 64 = q := ⟨_, rfl⟩
  have hq64 : q < 64 := by rw [← hq]; exact Nat.mod_lt _ (by omega)
  have hmk : ∃ Z : Array Value, Z.toList = List.replicate 72 (.int .u8 0) ∧ ∀ W : World, (Instr.makeSlice 28 (.int .i64 (1 + (q : Int))) (.int .i64 72)).run Tryz.prog W = .ok (.slice (some ⟨W.heap.size, 0, none⟩) (1 + q) 72) (W.alloc (.cells Z 5)) := by
    obtain ⟨Z, hZ, hmk⟩ := mk_bytes (1 + q) 72 (by omega) (by omega)
    exact ⟨Z, hZ, fun W => by have := hmk W; rwa [show ((1 + q : Nat) : Int) = 1 + (q : Int) by omega] at this⟩
  obtain ⟨Z, hZ, hmk⟩ := hmk
  have HZ := Lib.hid hZ
  have q1 : wrap64 (119 - (r.length : Int)) = 119 - (r.length : Int) := by unfold wrap64; omega
  have q2 : Int.tmod (119 - (r.length : Int)) 64 = (q : Int) := by
    rw [← hq, Int.tmod_eq_emod_of_nonneg (by omega)]
    omega
  have q3 : wrap64 (1 + (q : Int)) = 1 + (q : Int) := by unfold wrap64; omega
  have Hq := Lib.hid hq
  have HN := Lib.hid (And.intro hn (And.intro hlt (And.intro hcm hq64)))
  clear hq hZ
  go_upto_region 3 with fail
  have hr' := Lib.hid hr
  clear hn hlt hcm hq64 c9 hr
  go_upto_region 4 with fail
  refine wp_at (fun W => OwnB w2 W (some ⟨w2.heap.size, 0, none⟩) (1 + q) 72 (List.replicate (1 + q) 0)) (OwnB.room w2 HZ.out (by have := HN.out.2.2.2; omega) (by unfold maxLen; omega)) ?_
  clear c8 q1 q2 q3 hmk
  obtain ⟨p, hp⟩ : ∃ p, w2.heap.size = p := ⟨_, rfl⟩
  rw [hp]
  rintro w3 ho
  obtain ⟨y0, y1⟩ := byte_at ho.row (i := 0) (by rw [List.length_replicate]; omega)
  have HO := Lib.hid (show OwnB w2 (w3.setCell ⟨p, 0, none⟩ (.int .u8 128)) (some ⟨p, 0, none⟩) (1 + q) 72 (128 :: List.replicate q 0) by
    have h := ho.put (i := 0) (by rw [List.length_replicate]; omega) 128
    rw [Nat.add_comm 1 q, List.replicate_succ, List.set_cons_zero] at h
    rw [Nat.add_comm 1 q]
    exact h)
  clear ho
  have p0 : (0 : Int) < 1 + (q : Int) := by omega
  go_wp2_with fail
  clear y0 y1 p0
  go_loopw [5, 37] (fun s5 s37 W => ∃ (i : Nat) (po : Option Addr) (pn pc : Nat), i ≤ 8 ∧ s37 = .int .i64 i ∧ s5 = .slice po pn pc ∧ pn = 1 + q + i ∧ Hid (OwnB w2 W po pn pc ((128 :: List.replicate q 0) ++ (be8 (8 * n)).take i))) (fun _ s37 _ => 8 - (intOf s37).toNat)
  case atStart => exact ⟨0, some ⟨p, 0, none⟩, 1 + q, 72, by omega, rfl, rfl, rfl, Lib.hid (by simpa using HO.out)⟩
  case round =>
    clear HO
    obtain ⟨i, po, pn, pc, hi, rfl, rfl, hpn, HO⟩ := hrel
    by_cases hlt : i < 8
    · have q1 : (i : Int) < 8 := by omega
      have q2 : wrap64 (8 * (i : Int)) = 8 * (i : Int) := by unfold wrap64; omega
      have q3 : wrap64 (56 - 8 * (i : Int)) = ((56 - 8 * i : Nat) : Int) := by unfold wrap64; omega
      obtain ⟨b, hb⟩ : ∃ b, (be8 (8 * n)).getD i 0 = b := ⟨_, rfl⟩
      have HV := Lib.hid (be8_cell n i hlt)
      have HTk := Lib.hid (be8_take (8 * n) i hlt)
      rw [hb] at HV HTk
      clear hb
      have hq64 := HN.out.2.2.2
      go_wp2_with (at_builtin; apply stop_here)
      refine ⟨?_, trivial⟩
      refine wpList_app rfl _ _ rfl el_bytes _ [b] _ rfl w2.heap.size pn (pn + 1) (by rw [List.length_append, HO.out.len]; rfl) rfl (HO.out.own' ((Fr.refl noBlock wr).alloc _)) rfl (RowRd.one (heap_new wr _) b (by rw [HV.out]; rfl)) rfl (by unfold maxLen; omega) (by omega) (HO.out.base ((Fr.refl noBlock wr).alloc _)) ?_
      intro ao2 cap2 w5 o5 g5 a5
      go_frame
      have HO5 := Lib.hid (HO.out.grown ((Fr.refl noBlock wr).alloc _) o5 (by rw [List.length_append, HO.out.len]; rfl) g5)
      rw [List.append_assoc, ← HTk.out] at HO5
      clear o5 g5 a5 HO HV HTk
      go_wp2_with fail
      go_roundw
      case rel => exact ⟨i + 1, ao2, pn + 1, cap2, hlt, by go_num, rfl, by omega, HO5⟩
      case measure => simp [intOf]; omega
    · have q1 : (8 : Int) ≤ (i : Int) := by omega
      obtain rfl : i = 8 := by omega
      clear hlt
      rw [List.take_of_length_le (by rw [be8_len]; omega)] at HO
      subst hpn
      have HPd := Lib.hid HO
      obtain ⟨pad, hpad⟩ : ∃ pad, 128 :: List.replicate q 0 ++ be8 (8 * n) = pad := ⟨_, rfl⟩
      rw [hpad] at HO
      have Hpad := Lib.hid hpad
      clear HPd hpad
      have hfa := (Fr.refl noBlock wr).alloc (.cells #[.slice po (1 + q + 8) pc] 28)
      have hEw := HE.out.1.fr0 (HO.out.fr.trans' hfa)
      have hFl := HE.out.1.lt
      have hwz := HO.out.fr.size
      have hPB : PBes (wr.alloc (.cells #[.slice po (1 + q + 8) pc] 28)) (hashF eb xa r.length xc) (some ⟨wr.heap.size, 0, none⟩) [⟨po, 1 + q + 8, pc⟩] [pad] := by
        refine ⟨⟨RowRd.one (heap_new wr _) _ rfl, fun _ a e => ?_⟩, rfl, fun i sv b h1 h2 => ?_⟩
        · cases e
          exact ⟨fun hf => by have h := hFl _ hf; dsimp only at h; omega, by simp⟩
        · obtain rfl : i = 0 := by
            have := (List.getElem?_eq_some_iff.1 h1).1
            simpa using this
          simp at h1 h2
          subst h1 h2
          refine ⟨HO.out.len.symm, HO.out.rd.fr0 hfa, fun _ a e => ?_⟩
          have e' : po = some a := e
          have h1 := HO.out.new a.block (by rw [e']; rfl)
          have h2 := HO.out.lt a.block (by rw [e']; rfl)
          exact ⟨fun hf => by have := hFl _ hf; omega, by have := hfa.size; omega⟩
      have hq64 := HN.out.2.2.2
      have hpl := HO.out.len
      have HWr := Lib.hid (hwrite_any hEw hr'.out hPB 1 (by simp only [List.flatten_cons, List.flatten_nil, List.append_nil]; omega) (by simp) (by omega) (by omega))
      unfold HWriteP at HWr
      clear hPB hEw hfa
      go_wp2_with fail
      refine HWr.out.mono ?_
      rintro e w5 ⟨ea, em, ec, rfl, h1, h2⟩
      have HE5 := Lib.hid (show Fr noBlock w w5 from (((HE.out.2.1.trans' HO.out.fr).alloc (.cells #[.slice po (1 + q + 8) pc] 28)).trans h2.fr (fun k hk => .inr (by
        rcases hk with rfl | hk
        · exact HE.out.2.2.1
        · exact HE.out.2.2.2 k hk))))
      have hfin : (eat s (r ++ [pad].flatten)).1.list.flatMap bytes4 = shaEnd s r n := by
        unfold shaEnd shaPad
        rw [Hq.out, ← Hpad.out]
        simp
      obtain ⟨E, hE⟩ : ∃ E, (eat s (r ++ [pad].flatten)).1 = E := ⟨_, rfl⟩
      rw [hE] at h1 hfin
      have Hfin := Lib.hid hfin
      have e0 := (head_cell h1.box (i := 0) rfl).1
      have e1 := (head_cell h1.box (i := 1) rfl).1
      have e2 := (head_cell h1.box (i := 2) rfl).1
      have e3 := (head_cell h1.box (i := 3) rfl).1
      have e4 := (head_cell h1.box (i := 4) rfl).1
      have e5 := (head_cell h1.box (i := 5) rfl).1
      have e6 := (head_cell h1.box (i := 6) rfl).1
      have e7 := (head_cell h1.box (i := 7) rfl).1
      clear h1 h2 hE hfin HWr HO HE HH HH2 HZ Hq HN Hpad hFl hwz hq64 hpl hr'
      go_wp2_with fail
      clear e0 e1 e2 e3 e4 e5 e6 e7
      go_loopw [7, 55] (fun s7 s55 W => ∃ (i : Nat) (po : Option Addr) (pc : Nat), i ≤ 8 ∧ s55 = .int .i64 i ∧ s7 = .slice po (4 * i) pc ∧ Hid (OwnB w5 W po (4 * i) pc ((E.list.take i).flatMap bytes4))) (fun _ s55 _ => 8 - (intOf s55).toNat)
      case atStart => exact ⟨0, none, 0, by omega, rfl, rfl, Lib.hid (OwnB.nil (Fr.refl _ _))⟩
      case round =>
        obtain ⟨i, po, pc, hi, rfl, rfl, HO⟩ := hrel
        by_cases hlt : i < 8
        · have hix : E.list.length = 8 := rfl
          obtain ⟨x, hx⟩ : ∃ x, E.list[i]? = some x := ⟨_, List.getElem?_eq_getElem (by rw [hix]; exact hlt)⟩
          have hidx := idx8 E hx
          obtain ⟨m, hm⟩ : ∃ m, 4 * i = m := ⟨_, rfl⟩
          rw [hm] at HO ⊢
          have Hm := Lib.hid hm
          have HTk := Lib.hid (bytes4_take E hx)
          have hmb : m ≤ 32 := by omega
          clear hm
          obtain ⟨X, hX⟩ : ∃ X, (E.list.take i).flatMap bytes4 = X := ⟨_, rfl⟩
          rw [hX] at HO HTk
          clear hX hx hix
          go_wp2_with (at_builtin; apply stop_here)
          refine ⟨?_, trivial⟩
          refine wpList_app rfl _ _ rfl el_bytes _ (bytes4 x) _ rfl w5.heap.size m (m + 4) (by rw [List.length_append, HO.out.len]; rfl) rfl (HO.out.own' ((Fr.refl noBlock wr).alloc _)) rfl (RowRd.of_flat (heap_new wr _) (bytes4_flat x) (by unfold maxLen; simp [bytes4])) rfl (by unfold maxLen; omega) (by omega) (HO.out.base ((Fr.refl noBlock wr).alloc _)) ?_
          intro ao2 cap2 w6 o6 g6 a6
          go_frame
          have HO6 := Lib.hid (HO.out.grown ((Fr.refl noBlock wr).alloc _) o6 (by rw [List.length_append, HO.out.len]; rfl) g6)
          rw [← HTk.out] at HO6
          clear o6 g6 a6 HO HTk
          go_wp2_with fail
          go_roundw
          case rel =>
            refine ⟨i + 1, ao2, cap2, hlt, by go_num, ?_, ?_⟩
            · rw [show 4 * (i + 1) = m + 4 by have := Hm.out; omega]
            · rw [show 4 * (i + 1) = m + 4 by have := Hm.out; omega]
              exact HO6
          case measure => simp [intOf]; omega
        · have q1 : (8 : Int) ≤ (i : Int) := by omega
          obtain rfl : i = 8 := by omega
          have e : (E.list.take 8).flatMap bytes4 = shaEnd s r n := Hfin.out
          rw [e] at HO
          have hl := HO.out.len
          go_wp2_with fail
          go_ret
          exact ⟨⟨po, 4 * 8, pc⟩, rfl, hl.symm, HO.out.row, HE5.out.trans' HO.out.fr, fun k hk => Nat.le_trans HE5.out.size (HO.out.new k hk)⟩
end Go.Proofs.YthabllnhlhkejaaGreatDoor
