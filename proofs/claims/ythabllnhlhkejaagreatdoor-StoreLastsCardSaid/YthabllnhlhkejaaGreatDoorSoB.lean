/-
  THE WALK of a store's closure: a tenant's seals.
-/
import Derived.Deep.RegionWith
import Derived.Test.YthabllnhlhkejaaGreatDoorSoA
namespace Go.Proofs.YthabllnhlhkejaaGreatDoor
open Go.RowKit

def XIn (G R : Nat → Prop) (sp sg : Nat) : Nat → Prop := fun k => G k ∧ ¬ R k ∧ k ≠ sp ∧ k ≠ sg
/-- a new row of bytes is stored into the seals, behind a step of the ring -/
theorem SealsIn.keyStep {sp j rg tenants pages n sg sc c : Nat} {master x : List UInt8} {W W' : World} {G R R' : Nat → Prop} {ls : List Sl} {v : SV} {y : Sl} (h : SealsIn sp j rg master tenants pages n W G R sg sc ls) (hr : RingT rg master W' R') (hs : Step R R' W W') (hrow : RowRd ByteR W' v.ao x) (hn : ∀ a, v.ao = some a → W.heap.size ≤ a.block ∧ ¬ R' a.block ∧ a.block < W'.heap.size)
    (hx : n < ls.length) (hc : c < 6) (hy : SealR.cells y = (SealR.cells ls[n]).set c v.val) :
    ∃ G', SealsIn sp j rg master tenants pages n (W'.setCell ⟨sg, n * 6 + c, none⟩ v.val) G' R' sg sc (ls.set n y) ∧ (∀ k, G' k → G k ∨ W.heap.size ≤ k) ∧ RowRd ByteR (W'.setCell ⟨sg, n * 6 + c, none⟩ v.val) v.ao x ∧ (∀ a, v.ao = some a → XIn G' R' sp sg a.block) ∧ (∀ k, XIn G R sp sg k → XIn G' R' sp sg k) ∧ Fr (fun k => R k ∨ k = sg) W (W'.setCell ⟨sg, n * 6 + c, none⟩ v.val) := by
  have h1 := h.ringStep hr hs
  have hsg := h.low _ h.self.2
  have hsp := h.low _ h.self.1
  have h2 := h1.mono (G' := fun k => (G k ∨ R' k) ∨ ∃ a, v.ao = some a ∧ a.block = k) (fun k hk => .inl hk) (fun k hk => hk.elim (h1.low k) (by rintro ⟨a, e, rfl⟩; exact (hn a e).2.2))
  have hf : Fr (fun k => k = sg) W' (W'.setCell ⟨sg, n * 6 + c, none⟩ v.val) := fr_set_at (Fr.refl _ W') _ _
  refine ⟨_, h2.put hx hc v.val y hy, ?_, hrow.fr hf (fun b off e => by have := (hn _ e).1; simp only at this; omega), fun a e => ⟨.inr ⟨a, e, rfl⟩, (hn a e).2.1, by have := (hn a e).1; omega, by have := (hn a e).1; omega⟩, fun k hk => ⟨.inl (.inl hk.1), fun e => (hs.foot k e).elim hk.2.1 (fun hle => by have := h.low k hk.1; omega), hk.2.2⟩, ?_⟩
  · rintro k ((hk | hk) | ⟨a, e, rfl⟩)
    · exact .inl hk
    · exact (hs.foot k hk).imp (h.sub k) id
    · exact .inr (hn a e).1
  · exact (hs.fr.mono (fun _ z => .inl z)).trans' (hf.mono (fun _ z => .inr z))
theorem strbytes_rd (W : World) (s : ByteArray) (c : Nat) (f : Nat × Nat) (hs : s.size ≤ maxLen) : RowRd ByteR (W.alloc (.cells (bytesRow s c) 5 f)) (some ⟨W.heap.size, 0, none⟩) (labB s) := by
  refine ⟨by rw [labB_len]; exact hs, fun i hi => ⟨W.heap.size, 0, rfl, heap_lt (heap_new W _), fun j u hu => ?_⟩⟩
  have hj : j = 0 := by
    have := (List.getElem?_eq_some_iff.1 hu).1
    have e : (ByteR.cells (labB s)[i]).length = 1 := rfl
    omega
  subst hj
  rw [byteK, Nat.mul_one, Nat.zero_add, Nat.add_zero]
  have hsz : i < s.data.size := by have := hi; rw [labB_len] at this; exact this
  have c := cell_of (heap_new W (.cells (bytesRow s c) 5 f)) i
  rw [bytesRow_at s _ i hsz] at c
  have hu2 : u = .int .u8 (s.data[i].toNat : Int) := (Option.some.inj hu).symm
  rw [hu2]
  exact c
/-- what the seals are about is stored -/
theorem SealsIn.aboutStep {sp j rg tenants pages n sg sc c cr m : Nat} {master : List UInt8} {W W2 : World} {G R : Nat → Prop} {ls : List Sl} {y : Sl} {s : ByteArray} {f : Nat × Nat} (h : SealsIn sp j rg master tenants pages n W G R sg sc ls) (hx : n < ls.length) (hs : labB s = aboutB n) (hsz : s.size ≤ maxLen)
    (hW : W2 = ((W.setCell ⟨sg, n * 6 + 5, none⟩ (.slice (some ⟨W.heap.size, 0, none⟩) m c)).alloc (.cells (bytesRow s cr) 5 f)).drew.drew) (hy : SealR.cells y = (SealR.cells ls[n]).set 5 (.slice (some ⟨W.heap.size, 0, none⟩) m c)) :
    ∃ G', SealsIn sp j rg master tenants pages n W2 G' R sg sc (ls.set n y) ∧ (∀ k, G' k → G k ∨ W.heap.size ≤ k) ∧ RowRd ByteR W2 (some ⟨W.heap.size, 0, none⟩) (aboutB n) ∧ XIn G' R sp sg W.heap.size ∧ (∀ k, XIn G R sp sg k → XIn G' R sp sg k) ∧ Fr (fun k => k = sg) W W2 := by
  obtain ⟨W1, hW1⟩ : ∃ W1, W.setCell ⟨sg, n * 6 + 5, none⟩ (.slice (some ⟨W.heap.size, 0, none⟩) m c) = W1 := ⟨_, rfl⟩
  have h1 := h.put hx (c := 5) (by omega) _ y hy
  have hsz1 : W1.heap.size = W.heap.size := by rw [← hW1]; simp
  have hf1 : Fr (fun k => k = sg) W W1 := by rw [← hW1]; exact fr_set_at (Fr.refl _ W) _ _
  rw [hW1] at h1 hW
  have hf : Fr noBlock W1 W2 := by rw [hW]; exact (((Fr.refl noBlock W1).alloc _).drew).drew
  have hrow : RowRd ByteR W2 (some ⟨W.heap.size, 0, none⟩) (labB s) := by
    have := (strbytes_rd W1 s cr f hsz).fr0 ((Fr.refl noBlock _).drew.drew)
    rw [← hW, hsz1] at this
    exact this
  have hsz2 : W.heap.size < W2.heap.size := by
    rw [hW]
    show W.heap.size < (W1.alloc _).heap.size
    simp
    omega
  rw [hs] at hrow
  refine ⟨fun k => G k ∨ k = W.heap.size, (h1.fr0 hf).mono (fun k hk => .inl hk) (fun k hk => hk.elim (fun hk => Nat.lt_of_lt_of_le (h1.low k hk) hf.size) (fun e => by rw [e]; exact hsz2)), fun k hk => hk.imp id (fun e => by omega), hrow, ⟨.inr rfl, fun e => by have := h.low _ (h.sub _ e); omega, fun e => by have := h.low _ h.self.1; omega, fun e => by have := h.low _ h.self.2; omega⟩, fun k hk => ⟨.inl hk.1, hk.2⟩, hf1.trans' (hf.mono (fun _ z => z.elim))⟩
set_option maxRecDepth 100000 in
set_option maxHeartbeats 3200000 in
theorem of1_any {w : World} {sp j rg tenants pages n sg sc p2 p3 p5 : Nat} {master : List UInt8} {G R : Nat → Prop} {ls : List Sl} (h : SealsIn sp j rg master tenants pages n w G R sg sc ls) (hml : master.length ≤ 64) (hn1 : 1 ≤ n) (hn64 : n ≤ 64) (hx : n < ls.length) (hls : ls[n] = ⟨0, 1, 0, SV.none, SV.none, SV.none⟩)
    (h2 : w.cell? ⟨p2, 0, none⟩ = some (.pointer (some ⟨sp, 0, none⟩))) (h3 : w.cell? ⟨p3, 0, none⟩ = some (.int .i64 (n : Int))) (h5 : w.cell? ⟨p5, 0, none⟩ = some (.pointer (some ⟨sg, n * 6, none⟩))) (g2 : ¬ G p2) (g3 : ¬ G p3) (g5 : ¬ G p5) :
    Calls Tryz.prog 34 #[.pointer (some ⟨p2, 0, none⟩), .pointer (some ⟨p3, 0, none⟩), .pointer (some ⟨p5, 0, none⟩)] w fun e w' => e = .returned (.tuple #[]) ∧ ∃ (G' R' : Nat → Prop) (y : Sl), SealsIn sp j rg master tenants pages n w' G' R' sg sc (ls.set n y) ∧ (y.d = 0 ∧ y.s = 1 ∧ y.q = 0) ∧ SlRows w' master (XIn G' R' sp sg) n y ∧ (∀ k, G' k → G k ∨ w.heap.size ≤ k) ∧ Fr (fun k => R k ∨ k = sg) w w' := by
  have HS := Lib.hid h
  have HX := Lib.hid hls
  have HKp := Lib.hid (show ∀ W, Fr (fun k => R k ∨ k = sg) w W → W.cell? ⟨p2, 0, none⟩ = some (.pointer (some ⟨sp, 0, none⟩)) ∧ W.cell? ⟨p3, 0, none⟩ = some (.int .i64 (n : Int)) ∧ W.cell? ⟨p5, 0, none⟩ = some (.pointer (some ⟨sg, n * 6, none⟩)) ∧ W.cell? ⟨sp, 1, none⟩ = some (.pointer (some ⟨rg, 0, none⟩)) from fun W hf => by
    have key : ∀ k, ¬ G k → ¬ (R k ∨ k = sg) := fun k hk e => hk (e.elim (h.sub k) (fun e => by rw [e]; exact h.self.2))
    exact ⟨(hf.cell (p := ⟨p2, 0, none⟩) (World.block_lt_of_cell? _ _ h2) (key _ g2)).trans h2, (hf.cell (p := ⟨p3, 0, none⟩) (World.block_lt_of_cell? _ _ h3) (key _ g3)).trans h3, (hf.cell (p := ⟨p5, 0, none⟩) (World.block_lt_of_cell? _ _ h5) (key _ g5)).trans h5, (hf.cell (p := ⟨sp, 1, none⟩) (World.block_lt_of_cell? _ _ h.head.2.1) (fun e => e.elim h.ap.1 h.ne)).trans h.head.2.1⟩)
  have HK1 := Lib.hid (show ∀ W, Fr noBlock w W → Calls Tryz.prog 35 #[.pointer (some ⟨rg, 0, none⟩), .int .i64 (n : Int), .int .i64 2, .int .i64 1] W (RKeyP rg master (keyK master n 2 1) R W) from fun W hf => rkey_any (v := 1) (RingT.ok.fr0 h.ring hf) hml hn1 hn64 (.inl rfl) (Nat.le_refl _) (by omega))
  unfold RKeyP at HK1
  obtain ⟨c2, c3, c5, c1⟩ := HKp.out _ (Fr.refl _ w)
  have HN := Lib.hid (And.intro hn1 hn64)
  clear h h2 h3 h5 hls
  go_enter Tryz.func34, Tryz.ntmps34
  go_upto_region 0 with fail
  go_region_held3 (fun W => W.cell? ⟨p2, 0, none⟩ = some (.pointer (some ⟨sp, 0, none⟩)) ∧ W.cell? ⟨p3, 0, none⟩ = some (.int .i64 (n : Int)) ∧ W.cell? ⟨p5, 0, none⟩ = some (.pointer (some ⟨sg, n * 6, none⟩)) ∧ W.cell? ⟨sp, 1, none⟩ = some (.pointer (some ⟨rg, 0, none⟩)))
    (first | exact ⟨c2, c3, c5, c1⟩ | exact HKp.out _ (by repeat (first | (with_reducible exact Fr.refl _ _) | (with_reducible refine Fr.drew ?_) | (with_reducible exact F5) | (with_reducible exact F6))) | fail "nokeep")
    (first
      | (go_at_call 35; (with_reducible refine (HK1.out _ (by repeat (first | (with_reducible exact Fr.refl _ _) | (with_reducible refine Fr.drew ?_)))).mono ?_); rintro e w5 ⟨⟨xa, xn, xc⟩, R5, rfl, k1, k2, k3, k4, k5⟩; unfold SV.val at k2 k5 ⊢; dsimp only at k1 k2 k5 ⊢; subst k1;
         have F5 : Fr (fun k => R k ∨ k = sg) w w5 := ((Fr.refl _ w).drew).trans' (k4.fr.mono (fun _ z => .inl z));
         have hi5 := (HS.out.fr0 ((Fr.refl noBlock w).drew)).ringStep k3 k4;
         obtain ⟨z0, z1⟩ := hi5.cell hx (c := 3) rfl;
         obtain ⟨G5, i1, i2, i3, i4, i5, i6⟩ := SealsIn.keyStep (v := ⟨xa, 32, xc⟩) (c := 3) (y := ⟨0, 1, 0, ⟨xa, 32, xc⟩, SV.none, SV.none⟩) (HS.out.fr0 ((Fr.refl noBlock w).drew)) k3 k4 (RowAt.rd k2) (fun a e => by subst e; have := k5 a.block rfl; exact ⟨this.1, this.2, k2.lt a.block rfl⟩) hx (by omega) (by rw [HX.out]; rfl);
         have F6 : Fr (fun k => R k ∨ k = sg) w (w5.setCell ⟨sg, n * 6 + 3, none⟩ (.slice xa 32 xc)) := ((Fr.refl _ w).drew).trans' i6;
         have HI := Lib.hid (And.intro i1 (And.intro i2 (And.intro i3 (And.intro i4 (And.intro i5 F6))))); have k4' := Lib.hid k4; clear k2 k3 k4 k5 hi5 i1 i2 i3 i4 i5 i6)
      | fail "noarm")
  all_goals
    obtain ⟨w6, hw6⟩ : ∃ w6, w5.setCell ⟨sg, n * 6 + 3, none⟩ (.slice xa 32 xc) = w6 := ⟨_, rfl⟩
    have HI2 := Lib.hid HI.out
    dsimp only [SV.val] at HI2
    rw [hw6] at HI2 ⊢
    obtain ⟨y5, hy5⟩ : ∃ y5 : Sl, (⟨0, 1, 0, ⟨xa, 32, xc⟩, SV.none, SV.none⟩ : Sl) = y5 := ⟨_, rfl⟩
    have hx5 : n < (ls.set n y5).length := by rw [List.length_set]; exact hx
    have HXs := Lib.hid (show (ls.set n y5)[n] = ⟨0, 1, 0, ⟨xa, 32, xc⟩, SV.none, SV.none⟩ by rw [List.getElem_set_self, hy5])
    rw [hy5] at HI2
    have hs6 := HI2.out.2.2.2.2.2.size
    have HK2 := Lib.hid (show ∀ W, Fr noBlock w6 W → Calls Tryz.prog 35 #[.pointer (some ⟨rg, 0, none⟩), .int .i64 (n : Int), .int .i64 3, .int .i64 1] W (RKeyP rg master (keyK master n 3 1) R5 W) from fun W hf => rkey_any (v := 1) (RingT.ok.fr0 HI2.out.1.ring hf) hml HN.out.1 HN.out.2 (.inr rfl) (Nat.le_refl _) (by omega))
    unfold RKeyP at HK2
    have HSub := Lib.hid (show ∀ k, R5 k ∨ k = sg → (R k ∨ k = sg) ∨ w.heap.size ≤ k from fun k hk => hk.elim (fun hk => (k4'.out.foot k hk).imp .inl id) (fun e => .inl (.inr e)))
    obtain ⟨c2, c3, c5, c1⟩ := HKp.out _ HI2.out.2.2.2.2.2
    clear F5 F6 z0 z1 HI hw6
    go_upto_region 1 with fail
    go_region_held3 (fun W => W.cell? ⟨p2, 0, none⟩ = some (.pointer (some ⟨sp, 0, none⟩)) ∧ W.cell? ⟨p3, 0, none⟩ = some (.int .i64 (n : Int)) ∧ W.cell? ⟨p5, 0, none⟩ = some (.pointer (some ⟨sg, n * 6, none⟩)) ∧ W.cell? ⟨sp, 1, none⟩ = some (.pointer (some ⟨rg, 0, none⟩)))
      (first | exact ⟨c2, c3, c5, c1⟩ | exact HKp.out _ (by repeat (first | (with_reducible exact F7) | (with_reducible exact F8) | (with_reducible exact HI2.out.2.2.2.2.2) | (with_reducible refine Fr.drew ?_))) | fail "nokeep")
      (first
        | (go_at_call 35; (with_reducible refine (HK2.out _ (by repeat (first | (with_reducible exact Fr.refl _ _) | (with_reducible refine Fr.drew ?_)))).mono ?_); rintro e w7 ⟨⟨ya, yn, yc⟩, R7, rfl, k1, k2, k3, k4, k5⟩; unfold SV.val at k2 k5 ⊢; dsimp only at k1 k2 k5 ⊢; subst k1;
           have F7 : Fr (fun k => R k ∨ k = sg) w w7 := (HI2.out.2.2.2.2.2.drew).trans (k4.fr.mono (T := fun k => R5 k ∨ k = sg) (fun _ z => .inl z)) HSub.out;
           have hi7 := (HI2.out.1.fr0 ((Fr.refl noBlock w6).drew)).ringStep k3 k4;
           obtain ⟨z0, z1⟩ := hi7.cell hx5 (c := 4) rfl;
           obtain ⟨G7, i1, i2, i3, i4, i5, i6⟩ := SealsIn.keyStep (v := ⟨ya, 32, yc⟩) (c := 4) (y := ⟨0, 1, 0, ⟨xa, 32, xc⟩, ⟨ya, 32, yc⟩, SV.none⟩) (HI2.out.1.fr0 ((Fr.refl noBlock w6).drew)) k3 k4 (RowAt.rd k2) (fun a e => by subst e; have := k5 a.block rfl; exact ⟨this.1, this.2, k2.lt a.block rfl⟩) hx5 (by omega) (by rw [HXs.out]; rfl);
           have F8 : Fr (fun k => R k ∨ k = sg) w (w7.setCell ⟨sg, n * 6 + 4, none⟩ (.slice ya 32 yc)) := (HI2.out.2.2.2.2.2.drew).trans i6 HSub.out;
           have F68 : Fr (fun k => R5 k ∨ k = sg) w6 (w7.setCell ⟨sg, n * 6 + 4, none⟩ (.slice ya 32 yc)) := ((Fr.refl _ w6).drew).trans' i6;
           have HJ := Lib.hid (And.intro i1 (And.intro i2 (And.intro i3 (And.intro i4 (And.intro i5 (And.intro F8 F68)))))); have k4'' := Lib.hid k4; clear k2 k3 k4 k5 hi7 i1 i2 i3 i4 i5 i6)
        | fail "noarm")
    all_goals
      obtain ⟨w8, hw8⟩ : ∃ w8, w7.setCell ⟨sg, n * 6 + 4, none⟩ (.slice ya 32 yc) = w8 := ⟨_, rfl⟩
      have HJ2 := Lib.hid HJ.out
      dsimp only [SV.val] at HJ2
      rw [hw8] at HJ2 ⊢
      obtain ⟨y7, hy7⟩ : ∃ y7 : Sl, (⟨0, 1, 0, ⟨xa, 32, xc⟩, ⟨ya, 32, yc⟩, SV.none⟩ : Sl) = y7 := ⟨_, rfl⟩
      rw [hy7, List.set_set] at HJ2
      have hx7 : n < (ls.set n y7).length := by rw [List.length_set]; exact hx
      have HXt := Lib.hid (show (ls.set n y7)[n] = ⟨0, 1, 0, ⟨xa, 32, xc⟩, ⟨ya, 32, yc⟩, SV.none⟩ by rw [List.getElem_set_self, hy7])
      obtain ⟨c2, c3, c5, c1⟩ := HKp.out _ HJ2.out.2.2.2.2.2.1
      have hsl : (storeW ++ itoa n).size ≤ 25 := by rw [ByteArray.size_append]; have h1 := itoa_size (n := n) (by omega); have h2 : storeW.size = 5 := rfl; omega
      have hsl2 : ¬ 9223372036854775807 < storeW.size + (itoa n).size := by rw [ByteArray.size_append] at hsl; omega
      have kc := fun (W : World) (s : ByteArray) => run_bytes_of_string (P := Tryz.prog) W 9 28 5 s Tryz.underlying9 Tryz.underlying28 Tryz.underlying5
      have HIt := Lib.hid (fun W => Tryz.strconv_Itoa_small n (by omega) W)
      have h80 := HJ2.out.1.cell hx7 (c := 5) (u := SV.none.val) (by rw [HXt.out]; rfl)
      have hsg8 := HJ2.out.1.low _ HJ2.out.1.self.2
      have hb80 : ∀ W, Fr noBlock w8 W → W.cell? ⟨sg, n * 6 + 5, none⟩ = some SV.none.val ∧ W.frozen? ⟨sg, n * 6 + 5, none⟩ = false := fun W hf => ⟨(hf.cell (p := ⟨sg, n * 6 + 5, none⟩) hsg8 (fun z => z)).trans h80.1, (hf.frozen (p := ⟨sg, n * 6 + 5, none⟩) hsg8 (fun z => z)).trans h80.2⟩
      have HB8 := Lib.hid hb80
      have HKp8 := Lib.hid (show ∀ W, Fr noBlock w8 W → W.cell? ⟨p2, 0, none⟩ = some (.pointer (some ⟨sp, 0, none⟩)) ∧ W.cell? ⟨p3, 0, none⟩ = some (.int .i64 (n : Int)) ∧ W.cell? ⟨p5, 0, none⟩ = some (.pointer (some ⟨sg, n * 6, none⟩)) ∧ W.cell? ⟨sp, 1, none⟩ = some (.pointer (some ⟨rg, 0, none⟩)) from fun W hf => HKp.out _ (HJ2.out.2.2.2.2.2.1.trans' (hf.mono (fun _ z => z.elim))))
      have za := fun o => (hb80 (w8.alloc o) ((Fr.refl noBlock w8).alloc o)).1
      have zb := fun o => (hb80 (w8.alloc o) ((Fr.refl noBlock w8).alloc o)).2
      have zc := fun o => (hb80 (w8.drew.alloc o) ((Fr.refl noBlock w8).drew.alloc o)).1
      have zd := fun o => (hb80 (w8.drew.alloc o) ((Fr.refl noBlock w8).drew.alloc o)).2
      have ze := fun o => (hb80 (w8.drew.drew.alloc o) ((Fr.refl noBlock w8).drew.drew.alloc o)).1
      have zf := fun o => (hb80 (w8.drew.drew.alloc o) ((Fr.refl noBlock w8).drew.drew.alloc o)).2
      have zg := fun o => (HKp8.out (w8.alloc o) ((Fr.refl noBlock w8).alloc o)).2.2.1
      have zh := fun o => (HKp8.out (w8.drew.alloc o) ((Fr.refl noBlock w8).drew.alloc o)).2.2.1
      have zi := fun o => (HKp8.out (w8.drew.drew.alloc o) ((Fr.refl noBlock w8).drew.drew.alloc o)).2.2.1
      clear F7 F8 F68 z0 z1 HJ hw8 h80 hb80
      go_upto_region 2 with fail
      go_region_with (first
          | (go_at_call 36; (with_reducible refine (HIt.out _).mono ?_); rintro e w' ⟨rfl, rfl⟩)
          | fail "noarm")
      all_goals
        clear za zb zc zd ze zf zg zh zi kc
        go_wp2_with fail
        go_end0
        obtain ⟨G9, l1, l2, l3, l4, l5, l6⟩ := SealsIn.aboutStep (s := storeW ++ itoa n) (y := ⟨0, 1, 0, ⟨xa, 32, xc⟩, ⟨ya, 32, yc⟩, ⟨some ⟨w8.heap.size, 0, none⟩, 5 + (Lib.decDigits n).length, _⟩⟩) HJ2.out.1 hx7 rfl (by unfold maxLen; omega) rfl (by rw [HXt.out]; rfl)
        rw [List.set_set] at l1
        refine ⟨rfl, G9, R7, _, l1, ⟨rfl, rfl, rfl⟩, ⟨⟨rfl, ?_, ?_⟩, ⟨rfl, ?_, ?_⟩, ⟨?_, l3, ?_⟩⟩, ?_, ?_⟩
        · refine (HI2.out.2.2.1.fr HJ2.out.2.2.2.2.2.2 (fun b off e hk => ?_)).fr l6 (fun b off e => (HI2.out.2.2.2.1 _ e).2.2.2)
          exact hk.elim (HI2.out.2.2.2.1 _ e).2.1 (HI2.out.2.2.2.1 _ e).2.2.2
        · exact fun a e => l5 _ (HJ2.out.2.2.2.2.1 _ (HI2.out.2.2.2.1 a e))
        · exact HJ2.out.2.2.1.fr l6 (fun b off e => (HJ2.out.2.2.2.1 _ e).2.2.2)
        · exact fun a e => l5 _ (HJ2.out.2.2.2.1 a e)
        · show 5 + (Lib.decDigits n).length = (labB (storeW ++ itoa n)).length
          rw [labB_len, ByteArray.size_append]
          rfl
        · exact fun a e => by cases e; exact l4
        · intro k hk
          have s6 : w.heap.size ≤ w6.heap.size := hs6
          have s8 : w.heap.size ≤ w8.heap.size := HJ2.out.2.2.2.2.2.1.size
          rcases l2 k hk with hk | hk
          · rcases HJ2.out.2.1 k hk with hk | hk
            · exact HI2.out.2.1 k hk
            · exact .inr (Nat.le_trans s6 hk)
          · exact .inr (by omega)
        · exact HJ2.out.2.2.2.2.2.1.trans' (l6.mono (fun _ z => .inr z))
end Go.Proofs.YthabllnhlhkejaaGreatDoor
