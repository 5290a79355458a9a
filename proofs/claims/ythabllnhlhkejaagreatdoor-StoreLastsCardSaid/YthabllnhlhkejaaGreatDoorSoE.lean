/-
  THE WALK of a store's partition.
-/
import Derived.BigQuiet
import Derived.Test.YthabllnhlhkejaaGreatDoorSoB
namespace Go.Proofs.YthabllnhlhkejaaGreatDoor
open Go.RowKit

/-- a tenant's seals are made -/
def SealsMade (sp j rg : Nat) (master : List UInt8) (tenants pages n : Nat) (W : World) (G : Nat → Prop) (sg : Nat) : Prop := ∃ (R : Nat → Prop) (sc : Nat) (ls : List Sl) (h : n < ls.length), SealsIn sp j rg master tenants pages (tenants + 1) W G R sg sc ls ∧ SlRows W master (XIn G R sp sg) n ls[n]
theorem SealsMade.t {sp j rg tenants pages n sg : Nat} {master : List UInt8} {W : World} {G : Nat → Prop} (h : SealsMade sp j rg master tenants pages n W G sg) : SealsT sp j rg sg master tenants pages W G := by
  obtain ⟨R, sc, ls, _, h, _⟩ := h
  exact ⟨R, sc, ls, h⟩
theorem SealsMade.fr {sp j rg tenants pages n sg : Nat} {master : List UInt8} {S : Nat → Prop} {W W' : World} {G : Nat → Prop} (h : SealsMade sp j rg master tenants pages n W G sg) (hf : Fr S W W') (hs : ∀ k, G k → ¬ S k) : SealsMade sp j rg master tenants pages n W' G sg := by
  obtain ⟨R, sc, ls, hx, h, hr⟩ := h
  exact ⟨R, sc, ls, hx, h.fr hf hs, hr.fr hf (fun k hk => hs k hk.1)⟩
theorem SealsT.head {sp j rg sg tenants pages : Nat} {master : List UInt8} {W : World} {G : Nat → Prop} (h : SealsT sp j rg sg master tenants pages W G) : W.cell? ⟨sp, 0, none⟩ = some (.pointer (some ⟨j, 0, none⟩)) ∧ W.cell? ⟨sp, 3, none⟩ = some (.int .i64 (pages : Int)) ∧ G sp ∧ sp < W.heap.size := by
  obtain ⟨R, sc, ls, h⟩ := h
  exact ⟨h.head.1, h.head.2.2.2.1, h.self.1, h.low _ h.self.1⟩
/-- the three cells of the seals, and what their rows hold -/
theorem SealsMade.cells {sp j rg tenants pages n sg : Nat} {master : List UInt8} {W : World} {G : Nat → Prop} (h : SealsMade sp j rg master tenants pages n W G sg) : ∃ e t a : SV, (W.cell? ⟨sg, n * 6 + 3, none⟩ = some e.val ∧ W.cell? ⟨sg, n * 6 + 4, none⟩ = some t.val ∧ W.cell? ⟨sg, n * 6 + 5, none⟩ = some a.val) ∧ e.n = 32 ∧ RowRd ByteR W e.ao (keyK master n 2 1) ∧ t.n = 32 ∧ RowRd ByteR W t.ao (keyK master n 3 1) ∧ a.n = (aboutB n).length ∧ RowRd ByteR W a.ao (aboutB n) := by
  obtain ⟨R, sc, ls, hx, h, h1, h2, h3⟩ := h
  exact ⟨ls[n].e, ls[n].t, ls[n].a, ⟨(h.cell hx (c := 3) rfl).1, (h.cell hx (c := 4) rfl).1, (h.cell hx (c := 5) rfl).1⟩, h1.1, h1.2.1, h2.1, h2.2.1, h3.1, h3.2.1⟩
theorem SealsIn.free {sp j rg tenants pages sg sc : Nat} {master : List UInt8} {W : World} {G R : Nat → Prop} {ls : List Sl} (h : SealsIn sp j rg master tenants pages (tenants + 1) W G R sg sc ls) (y : Nat) : SealsIn sp j rg master tenants pages y W G R sg sc ls :=
  ⟨h.box, h.row, h.ring, h.ne, h.ap, fun i hi _ => h.each i hi (by have := h.len; omega), h.self, h.sub, h.low⟩
set_option maxHeartbeats 1600000 in
theorem seal_do {w : World} {sp j rg tenants pages n sg sc p2 p3 p5 : Nat} {master : List UInt8} {G R : Nat → Prop} {ls : List Sl} (h : SealsIn sp j rg master tenants pages (tenants + 1) w G R sg sc ls) (hml : master.length ≤ 64) (hn1 : 1 ≤ n) (hn64 : n ≤ 64) (hnt : n ≤ tenants)
    (h2 : w.cell? ⟨p2, 0, none⟩ = some (.pointer (some ⟨sp, 0, none⟩))) (h3 : w.cell? ⟨p3, 0, none⟩ = some (.int .i64 (n : Int))) (h5 : w.cell? ⟨p5, 0, none⟩ = some (.pointer (some ⟨sg, n * 6, none⟩))) (g2 : ¬ G p2) (g3 : ¬ G p3) (g5 : ¬ G p5) :
    Calls Tryz.prog 33 #[.pointer (some ⟨sg, n * 6, none⟩), .func (.func 34) #[] #[.pointer (some ⟨p2, 0, none⟩), .pointer (some ⟨p3, 0, none⟩), .pointer (some ⟨p5, 0, none⟩)]] w fun e w' => e = .returned (.tuple #[]) ∧ ∃ G', SealsMade sp j rg master tenants pages n w' G' sg ∧ (∀ k, G' k → G k ∨ w.heap.size ≤ k) ∧ Fr G w w' := by
  have hlen := h.len
  have hx : n < ls.length := by omega
  have hd0 := h.cell hx (c := 0) rfl
  have hd1 := h.cell hx (c := 1) rfl
  rcases h.each n hx (by omega) with ht | ⟨t1, t2⟩
  · have eg := enters_of Tryz.func34 (by kernel_rfl) rfl
    rw [ht] at hd0 hd1
    have hn := h.free n
    have hl1 := hn.put hx (c := 1) (by omega) (.int .i32 1) ⟨0, 1, 0, SV.none, SV.none, SV.none⟩ (by rw [ht]; rfl)
    have hf1 : Fr (fun k => k = sg) w (w.setCell ⟨sg, n * 6 + 1, none⟩ (.int .i32 1)) := fr_set_at (Fr.refl _ w) (n * 6 + 1) _
    have hx1 : n < (ls.set n ⟨0, 1, 0, SV.none, SV.none, SV.none⟩).length := by rw [List.length_set]; exact hx
    have key : ∀ k, ¬ G k → ¬ (k = sg) := fun k hk e => hk (by rw [e]; exact h.self.2)
    have ho := of1_any hl1 hml hn1 hn64 hx1 (by rw [List.getElem_set_self]) ((hf1.cell (p := ⟨p2, 0, none⟩) (World.block_lt_of_cell? _ _ h2) (key _ g2)).trans h2) ((hf1.cell (p := ⟨p3, 0, none⟩) (World.block_lt_of_cell? _ _ h3) (key _ g3)).trans h3) ((hf1.cell (p := ⟨p5, 0, none⟩) (World.block_lt_of_cell? _ _ h5) (key _ g5)).trans h5) g2 g3 g5
    refine (do_first (off := n * 6) (fa := #[]) (ca := #[.pointer (some ⟨p2, 0, none⟩), .pointer (some ⟨p3, 0, none⟩), .pointer (some ⟨p5, 0, none⟩)]) eg ⟨hd0.1, hd1.1, hd0.2, hd1.2⟩
      (fun W => ∃ (G' R' : Nat → Prop) (y : Sl), SealsIn sp j rg master tenants pages n W G' R' sg sc (ls.set n y) ∧ (y.d = 0 ∧ y.s = 1 ∧ y.q = 0) ∧ SlRows W master (XIn G' R' sp sg) n y ∧ (∀ k, G' k → G k ∨ w.heap.size ≤ k) ∧ Fr (fun k => R k ∨ k = sg) w W) ?_).mono ?_
    · refine ho.mono ?_
      rintro e w' ⟨rfl, G', R', y, k1, k2, k3, k4, k5⟩
      rw [List.set_set] at k1
      have hx2 : n < (ls.set n y).length := by rw [List.length_set]; exact hx
      have e0 := k1.cell hx2 (c := 0) (u := .int .u32 0) (by rw [List.getElem_set_self]; show some (Value.int .u32 y.d) = _; rw [k2.1])
      have e1 := k1.cell hx2 (c := 1) (u := .int .i32 1) (by rw [List.getElem_set_self]; show some (Value.int .i32 y.s) = _; rw [k2.2.1])
      have hsz : (w.setCell ⟨sg, n * 6 + 1, none⟩ (.int .i32 1)).heap.size = w.heap.size := by simp
      rw [hsz] at k4
      exact ⟨rfl, ⟨G', R', y, k1, k2, k3, k4, (hf1.mono (fun _ z => .inr z)).trans' k5⟩, e0.1, e1.1, e0.2, e1.2⟩
    · rintro e w' ⟨rfl, W, ⟨G', R', y, k1, k2, k3, k4, k5⟩, rfl⟩
      have hx2 : n < (ls.set n y).length := by rw [List.length_set]; exact hx
      have m1 := (k1.fr0 (Fr.refl noBlock W).drew).put hx2 (c := 0) (by omega) (.int .u32 1) { y with d := 1 } (by rw [List.getElem_set_self]; rfl)
      rw [List.set_set] at m1
      have hx3 : n < (ls.set n { y with d := 1 }).length := by rw [List.length_set]; exact hx
      have m2 := m1.put hx3 (c := 1) (by omega) (.int .i32 0) { y with d := 1, s := 0 } (by rw [List.getElem_set_self]; rfl)
      rw [List.set_set] at m2
      have fe : Fr (fun k => k = sg) W (onceEnd sg (n * 6) W) := by
        unfold onceEnd
        exact fr_set_at (fr_set_at (Fr.refl _ W).drew (n * 6) _) (n * 6 + 1) _
      have hrows : SlRows (onceEnd sg (n * 6) W) master (XIn G' R' sp sg) n { y with d := 1, s := 0 } := k3.fr fe (fun k hk => hk.2.2.2)
      have m3 : SealsIn sp j rg master tenants pages n (onceEnd sg (n * 6) W) G' R' sg sc (ls.set n { y with d := 1, s := 0 }) := m2
      have hx4 : n < (ls.set n { y with d := 1, s := 0 }).length := by rw [List.length_set]; exact hx
      have m4 := m3.close hx4 (.inr (by rw [List.getElem_set_self]; exact ⟨rfl, hrows⟩)) (tenants + 1)
      exact ⟨rfl, G', ⟨R', sc, _, hx4, m4, by rw [List.getElem_set_self]; exact hrows⟩, k4, (k5.trans' (fe.mono (fun _ z => .inr z))).mono (fun k hk => hk.elim (h.sub k) (fun e => by rw [e]; exact h.self.2))⟩
  · have hd : w.cell? ⟨sg, n * 6, none⟩ = some (.int .u32 1) := by
      have := hd0.1
      rw [t1] at this
      exact this
    refine (do_done ⟨sg, n * 6, none⟩ 1 (by decide) _ w hd).mono ?_
    rintro e w' ⟨rfl, rfl⟩
    exact ⟨rfl, G, ⟨R, sc, ls, hx, h, t2⟩, fun k hk => .inl hk, Fr.refl _ w⟩
def OfP (sp j rg sg : Nat) (master : List UInt8) (tenants pages n : Nat) (G : Nat → Prop) (w : World) (e : Ending) (w' : World) : Prop := ∃ (G' : Nat → Prop), e = .returned (.pointer (some ⟨sg, n * 6, none⟩)) ∧ SealsMade sp j rg master tenants pages n w' G' sg ∧ Step G G' w w'
set_option maxRecDepth 100000 in
set_option maxHeartbeats 3200000 in
theorem of_any {w : World} {sp j rg sg tenants pages n : Nat} {master : List UInt8} {G : Nat → Prop} (h : SealsT sp j rg sg master tenants pages w G) (hml : master.length ≤ 64) (hn1 : 1 ≤ n) (hn64 : n ≤ 64) (hnt : n ≤ tenants) :
    Calls Tryz.prog 18 #[.pointer (some ⟨sp, 0, none⟩), .int .i64 (n : Int)] w (OfP sp j rg sg master tenants pages n G w) := by
  obtain ⟨R, sc, ls, h⟩ := h
  have HS := Lib.hid h
  obtain ⟨p2, hp2⟩ : ∃ p2, w.heap.size = p2 := ⟨_, rfl⟩
  have q1 : (1 : Int) ≤ (n : Int) := by omega
  have q2 : (n : Int) ≤ (tenants : Int) := by omega
  have q3 : decide ((n : Int) < 1) = false := by simp; omega
  have q4 : decide ((tenants : Int) < (n : Int)) = false := by simp; omega
  have q5 : (n : Int) < ((tenants + 1 : Nat) : Int) := by omega
  have q6 : (0 : Int) ≤ (n : Int) := by omega
  have q7 : (n : Int) < (tenants : Int) + 1 := by omega
  obtain ⟨w1, hw1⟩ : ∃ w1, (w.alloc (.cells #[.pointer (some ⟨sp, 0, none⟩)] 24)).alloc (.cells #[.int .i64 (n : Int)] 3) = w1 := ⟨_, rfl⟩
  have hf1 : Fr noBlock w w1 := by rw [← hw1]; exact ((Fr.refl noBlock w).alloc _).alloc _
  have hs1 : (w.alloc (.cells #[.pointer (some ⟨sp, 0, none⟩)] 24)).heap.size = p2 + 1 := by rw [← hp2]; simp
  have c2 : w1.cell? ⟨p2, 0, none⟩ = some (.pointer (some ⟨sp, 0, none⟩)) := by
    rw [← hw1, ← hp2]
    exact cell_of (heap_old _ (heap_new w _)) 0
  have c3 : w1.cell? ⟨p2 + 1, 0, none⟩ = some (.int .i64 (n : Int)) := by
    have := heap_new (w.alloc (.cells #[.pointer (some ⟨sp, 0, none⟩)] 24)) (.cells #[.int .i64 (n : Int)] 3)
    rw [hs1, hw1] at this
    exact cell_of this 0
  have H1 := Lib.hid (h.fr0 hf1)
  have hsz1 : p2 + 1 < w1.heap.size := World.block_lt_of_cell? _ _ c3
  obtain ⟨-, -, s2, -, s4⟩ := H1.out.head
  have HF1 := Lib.hid hf1
  clear h hf1
  unfold OfP
  go_enter Tryz.func18, Tryz.ntmps18
  go_upto_region 1 with fail
  clear hw1
  go_quiet (fail)
  go_upto_region 3 with fail
  have HKp := Lib.hid (show ∀ W, Fr noBlock w1 W → W.cell? ⟨p2, 0, none⟩ = some (.pointer (some ⟨sp, 0, none⟩)) ∧ W.cell? ⟨p2 + 1, 0, none⟩ = some (.int .i64 (n : Int)) ∧ W.cell? ⟨sp, 4, none⟩ = some (.slice (some ⟨sg, 0, none⟩) (tenants + 1) sc) from fun W hf => ⟨(hf.cell (p := ⟨p2, 0, none⟩) (World.block_lt_of_cell? _ _ c2) (fun z => z)).trans c2, (hf.cell (p := ⟨p2 + 1, 0, none⟩) (World.block_lt_of_cell? _ _ c3) (fun z => z)).trans c3, (hf.cell (p := ⟨sp, 4, none⟩) (World.block_lt_of_cell? _ _ s4) (fun z => z)).trans s4⟩)
  refine wp_at (fun W => Fr noBlock w1 W) ((Fr.refl noBlock w1).drewN nq) ?_
  rintro w3 f3
  obtain ⟨d2, d3, d4⟩ := HKp.out _ f3
  have HF3 := Lib.hid f3
  clear f3 c2 c3 s2 s4
  go_region_held3 (fun W => W.cell? ⟨p2, 0, none⟩ = some (.pointer (some ⟨sp, 0, none⟩)) ∧ W.cell? ⟨p2 + 1, 0, none⟩ = some (.int .i64 (n : Int)) ∧ W.cell? ⟨sp, 4, none⟩ = some (.slice (some ⟨sg, 0, none⟩) (tenants + 1) sc))
    (first | exact ⟨d2, d3, d4⟩ | exact HKp.out _ (by repeat (first | (with_reducible exact HF3.out) | (with_reducible refine Fr.drew ?_) | (with_reducible refine Fr.alloc ?_ _) | (with_reducible refine Fr.setCell ?_ (.inr (by simp; exact HF3.out.size)) _))) | fail "nokeep")
    (fail "noarm")
  all_goals
    obtain ⟨p5, hp5⟩ : ∃ p5, w3.heap.size = p5 := ⟨_, rfl⟩
    obtain ⟨w4, hw4⟩ : ∃ w4, (w3.alloc (.cells #[.pointer (some ⟨sg, n * 6, none⟩)] 54)).drew = w4 := ⟨_, rfl⟩
    rw [hp5, hw4]
    have hf4 : Fr noBlock w3 w4 := by rw [← hw4]; exact ((Fr.refl noBlock w3).alloc _).drew
    have e5 : w4.cell? ⟨p5, 0, none⟩ = some (.pointer (some ⟨sg, n * 6, none⟩)) := by
      rw [← hw4, World.cell?_drew, ← hp5]
      exact cell_of (heap_new w3 _) 0
    obtain ⟨e2, e3, -⟩ := HKp.out _ (HF3.out.trans' hf4)
    have hS4 := (H1.out.fr0 HF3.out).fr0 hf4
    have hlow : ∀ k, G k → k < w.heap.size := HS.out.low
    have hps : w1.heap.size ≤ p5 := by rw [← hp5]; exact HF3.out.size
    have hg5 : ¬ G p5 := fun e => by have := hlow _ e; omega
    have HD := Lib.hid (seal_do (p2 := p2) (p3 := p2 + 1) (p5 := p5) hS4 hml hn1 hn64 hnt e2 e3 e5 (fun e => by have := hlow _ e; omega) (fun e => by have := hlow _ e; omega) hg5)
    have H4 := Lib.hid (And.intro ((HF1.out.trans' HF3.out).trans' hf4) (And.intro e5 hg5))
    have hp5s := World.block_lt_of_cell? _ _ e5
    clear d2 d3 d4 e2 e3 hS4 hf4 hw4 HKp hlow
    go_wp2_with fail
    refine HD.out.mono ?_
    rintro e w5 ⟨rfl, G', k1, k2, k3⟩
    have d5 := (k3.cell (p := ⟨p5, 0, none⟩) hp5s H4.out.2.2).trans H4.out.2.1
    have HE := Lib.hid (show SealsMade sp j rg master tenants pages n w5 G' sg ∧ Step G G' w w5 from ⟨k1, ⟨(H4.out.1.mono (fun _ z => z.elim)).trans' k3, fun k hk => (k2 k hk).imp id (fun hle => Nat.le_trans H4.out.1.size hle)⟩⟩)
    clear k1 k2 k3 HD e5 hp5s
    go_wp2_with fail
    go_ret
    exact ⟨G', rfl, HE.out.1, HE.out.2⟩
end Go.Proofs.YthabllnhlhkejaaGreatDoor
namespace Go.Proofs.YthabllnhlhkejaaGreatDoor
open Go.RowKit

theorem long_any {w : World} {sp j L pages : Nat} {d : DK} {bad : Int} {H : Nat → Prop} (hj : JAt j L d bad w H) (c0 : w.cell? ⟨sp, 0, none⟩ = some (.pointer (some ⟨j, 0, none⟩))) (c3 : w.cell? ⟨sp, 3, none⟩ = some (.int .i64 (pages : Int))) (hp : pages ≤ 8) :
    Calls Tryz.prog 20 #[.pointer (some ⟨sp, 0, none⟩)] w fun e w' => e = .returned (.int .i64 ((pages * d.size : Nat) : Int)) ∧ Fr noBlock w w' := by
  have HJ := Lib.hid hj
  have hs1 := hj.good.s1
  obtain ⟨m, hm⟩ : ∃ m, pages * d.size = m := ⟨_, rfl⟩
  have hmb : pages * d.size ≤ 8 * 4096 := Nat.mul_le_mul hp hs1
  have e1 : (pages : Int) * (d.size : Int) = (m : Int) := by rw [← hm]; simp
  have q : IntKind.i64.wrap ((pages : Int) * (d.size : Int)) = (m : Int) := by rw [IntKind.wrap_i64, e1]; omega
  have q1 : IntKind.i64.wrap (m : Int) = (m : Int) := by rw [IntKind.wrap_i64]; omega
  rw [hm] at hmb ⊢
  clear hj hs1 hm
  go_enter Tryz.func20, Tryz.ntmps20
  go_wp2_with fail
  go_quiet ((go_at_call 21; exact Calls.quiet_of_same ((jsize_any (JAt.ok.fr0 HJ.out ((Fr.refl noBlock w).drewN _))).mono fun _ _ ⟨a, b⟩ => ⟨a, b.symm⟩)))
  go_wp2_with fail
  go_ret
  exact ⟨rfl, (Fr.refl noBlock w).drewN _⟩
def roomN (pages size : Nat) : Nat := pages * size - 28
theorem sroom_any {w : World} {sp j L pages : Nat} {d : DK} {bad : Int} {H : Nat → Prop} (hj : JAt j L d bad w H) (c0 : w.cell? ⟨sp, 0, none⟩ = some (.pointer (some ⟨j, 0, none⟩))) (c3 : w.cell? ⟨sp, 3, none⟩ = some (.int .i64 (pages : Int))) (hp1 : 1 ≤ pages) (hp : pages ≤ 8) :
    Calls Tryz.prog 10 #[.pointer (some ⟨sp, 0, none⟩)] w fun e w' => e = .returned (.int .i64 (roomN pages d.size : Int)) ∧ Fr noBlock w w' := by
  have HL := Lib.hid (long_any hj c0 c3 hp)
  have HB := Lib.hid (fun W => bsize_any 0 (Int.le_refl 0) (by omega) W)
  have hs0 := hj.good.s0
  have hs1 := hj.good.s1
  have hmb : pages * d.size ≤ 8 * 4096 := Nat.mul_le_mul hp hs1
  have hma : 1 * 64 ≤ pages * d.size := Nat.mul_le_mul hp1 hs0
  obtain ⟨m, hm⟩ : ∃ m, pages * d.size = m := ⟨_, rfl⟩
  unfold roomN
  rw [hm] at HL hmb hma ⊢
  have q1 : wrap64 ((m : Int) - 4) = (m : Int) - 4 := by unfold wrap64; omega
  have q2 : wrap64 ((m : Int) - 4 - 24) = (m : Int) - 4 - 24 := by unfold wrap64; omega
  clear hj c0 c3 hs0 hs1 hm
  go_enter Tryz.func10, Tryz.ntmps10
  go_wp2_with fail
  refine HL.out.mono ?_
  rintro e w1 ⟨rfl, hf⟩
  have HF := Lib.hid hf
  clear hf HL
  go_wp2_with fail
  refine (HB.out _).mono ?_
  rintro e w2 ⟨rfl, rfl⟩
  go_wp2_with fail
  go_ret
  refine ⟨?_, HF.out⟩
  show Ending.returned (.int .i64 (max ((m : Int) - 4 - 24) 0)) = _
  congr 2
  omega
end Go.Proofs.YthabllnhlhkejaaGreatDoor
namespace Go.Proofs.YthabllnhlhkejaaGreatDoor
open Go.RowKit

/-- k pages of a partition, from the sector b on -/
def partR (d : DK) (b : Int) : Nat → Bs × Int
  | 0 => ([], 0)
  | k + 1 => if (partR d b k).2 ≠ 0 then ([], (partR d b k).2) else if jreadE d (b + k) ≠ 0 then ([], jreadE d (b + k)) else ((partR d b k).1 ++ jreadB d (b + k), 0)
theorem partR_bad {d : DK} {b : Int} {k m : Nat} (h : (partR d b k).2 ≠ 0) (hk : k ≤ m) : (partR d b m).2 = (partR d b k).2 ∧ (k < m → (partR d b m).1 = []) := by
  induction m with
  | zero =>
    obtain rfl : k = 0 := by omega
    exact ⟨rfl, fun h => by omega⟩
  | succ m ih =>
    by_cases e : k = m + 1
    · subst e; exact ⟨rfl, fun h => by omega⟩
    · have h1 := (ih (by omega)).1
      show (if (partR d b m).2 ≠ 0 then _ else _ : Bs × Int).2 = _ ∧ (_ → (if (partR d b m).2 ≠ 0 then _ else _ : Bs × Int).1 = _)
      rw [if_pos (by rw [h1]; exact h)]
      exact ⟨h1, fun _ => rfl⟩
theorem sreadB_len {d : DK} (h : d.Good) (n : Int) : (d.readB n).length ≤ 4096 := by
  unfold DK.readB
  split
  · simp
  · split
    · simp
    · rename_i h1 h2
      have hs1 := h.s1
      cases hlk : lookD d.dirty n with
      | some b =>
        obtain ⟨p, hp, _, rfl⟩ := lookD_mem hlk
        have := (h.there p hp).2
        simp only [Option.getD_some]
        omega
      | none =>
        simp only [Option.getD_none]
        have hn : d.isS n = true := by simpa using h2
        obtain ⟨a, b⟩ := DK.isS_iff.1 hn
        have h0 : n.toNat < d.safe.length := by omega
        have : d.safe.getD n.toNat [] = d.safe[n.toNat] := by simp [List.getD, List.getElem?_eq_getElem h0]
        rw [this]
        have := h.sizes _ (List.getElem_mem h0)
        omega
theorem sjreadB_len {d : DK} (h : d.Good) (n : Int) : (jreadB d n).length ≤ 4096 := by
  unfold jreadB
  split
  · exact sreadB_len h _
  · simp
theorem partR_len {d : DK} (hg : d.Good) (b : Int) (k : Nat) : (partR d b k).1.length ≤ k * 4096 := by
  induction k with
  | zero => simp [partR]
  | succ k ih =>
    unfold partR
    split
    · simp
    · split
      · simp
      · show ((partR d b k).1 ++ jreadB d (b + k)).length ≤ _
        rw [List.length_append, Nat.succ_mul]
        have := sjreadB_len hg (b + k)
        omega
set_option maxRecDepth 100000 in
set_option maxHeartbeats 3200000 in
theorem part_any {w : World} {sp j L pages n : Nat} {d : DK} {bad : Int} {H : Nat → Prop} (hj : JAt j L d bad w H) (c0 : w.cell? ⟨sp, 0, none⟩ = some (.pointer (some ⟨j, 0, none⟩))) (c3 : w.cell? ⟨sp, 3, none⟩ = some (.int .i64 (pages : Int))) (hp : pages ≤ 8) (hn1 : 1 ≤ n) (hn : n ≤ 64) :
    Calls Tryz.prog 24 #[.pointer (some ⟨sp, 0, none⟩), .int .i64 (n : Int)] w (ReadP (partR d (((n - 1) * pages : Nat) : Int) pages).1 (partR d (((n - 1) * pages : Nat) : Int) pages).2 w) := by
  have HJ := Lib.hid hj
  have hG := hj.good
  have HG := Lib.hid hG
  have hs1 := hG.s1
  obtain ⟨b, hb⟩ : ∃ b, (n - 1) * pages = b := ⟨_, rfl⟩
  have hbb : (n - 1) * pages ≤ 63 * 8 := Nat.mul_le_mul (by omega) hp
  have q0 : IntKind.i64.wrap ((n : Int) - 1) = ((n - 1 : Nat) : Int) := by rw [IntKind.wrap_i64]; omega
  have e1 : ((n - 1 : Nat) : Int) * (pages : Int) = (b : Int) := by rw [← hb]; simp
  have q1 : IntKind.i64.wrap (((n - 1 : Nat) : Int) * (pages : Int)) = (b : Int) := by rw [IntKind.wrap_i64, e1]; omega
  have HKp := Lib.hid (show ∀ W, Fr noBlock w W → W.cell? ⟨sp, 0, none⟩ = some (.pointer (some ⟨j, 0, none⟩)) ∧ W.cell? ⟨sp, 3, none⟩ = some (.int .i64 (pages : Int)) from fun W hf => ⟨(hf.cell (p := ⟨sp, 0, none⟩) (World.block_lt_of_cell? _ _ c0) (fun z => z)).trans c0, (hf.cell (p := ⟨sp, 3, none⟩) (World.block_lt_of_cell? _ _ c3) (fun z => z)).trans c3⟩)
  have HP1 := Lib.hid hp
  rw [hb] at hbb ⊢
  clear hj hG hb c0 e1
  unfold ReadP
  go_enter Tryz.func24, Tryz.ntmps24
  go_wp2_with fail
  clear c3
  go_loopw [6, 14] (fun s6 s14 W => ∃ (i m : Nat) (xo : Option Addr) (xc : Nat), i ≤ pages ∧ s14 = .int .i64 i ∧ s6 = .slice xo m xc ∧ Hid ((partR d (b : Int) i).2 = 0 ∧ OwnB w W xo m xc (partR d (b : Int) i).1)) (fun _ s14 _ => pages - (intOf s14).toNat)
  case atStart => exact ⟨0, 0, none, 0, by omega, rfl, rfl, Lib.hid ⟨rfl, OwnB.nil (Fr.refl _ _)⟩⟩
  case round =>
    obtain ⟨i, m, xo, xc, hi, rfl, rfl, HI⟩ := hrel
    by_cases hlt : i < pages
    · have q2 : (i : Int) < (pages : Int) := by omega
      have q3 : (0 : Int) ≤ (i : Int) := by omega
      have q4 : IntKind.i64.wrap ((b : Int) + (i : Int)) = (b : Int) + (i : Int) := by rw [IntKind.wrap_i64]; omega
      obtain ⟨c0, c3⟩ := HKp.out _ HI.out.2.fr
      have HR := Lib.hid (show ∀ W, Fr noBlock wr W → Calls Tryz.prog 48 #[.pointer (some ⟨j, 0, none⟩), .int .i64 ((b : Int) + (i : Int))] W (ReadP (jreadB d ((b : Int) + (i : Int))) (jreadE d ((b : Int) + (i : Int))) W) from fun W hf => jread_any (JAt.ok.fr0 HJ.out (HI.out.2.fr.trans' hf)) _)
      unfold ReadP at HR
      go_upto_region 5 with fail
      go_region_held3 (fun W => W.cell? ⟨sp, 0, none⟩ = some (.pointer (some ⟨j, 0, none⟩)) ∧ W.cell? ⟨sp, 3, none⟩ = some (.int .i64 (pages : Int)))
        (first | exact ⟨c0, c3⟩ | exact HKp.out _ (by repeat (first | (with_reducible exact HI.out.2.fr) | (with_reducible exact F5) | (with_reducible refine Fr.drew ?_))) | fail "nokeep")
        (first
          | (go_at_call 48; (with_reducible refine (HR.out _ (by repeat (first | (with_reducible exact Fr.refl _ _) | (with_reducible refine Fr.drew ?_)))).mono ?_); rintro e w5 ⟨⟨xa, xn, xc5⟩, rfl, k1, k2, k3, k4⟩; unfold SV.val at k2 k4 ⊢; dsimp only at k1 k2 k4 ⊢; have F5 : Fr noBlock w w5 := (HI.out.2.fr.drew).trans' k3; have HE := Lib.hid (And.intro k1 (And.intro k2 (And.intro k3 k4))); clear k1 k2 k3 k4)
          | fail "noarm")
      all_goals
        obtain ⟨E, hE⟩ : ∃ E, jreadE d ((b : Int) + (i : Int)) = E := ⟨_, rfl⟩
        obtain ⟨B, hB⟩ : ∃ B, jreadB d ((b : Int) + (i : Int)) = B := ⟨_, rfl⟩
        have hBl : B.length ≤ 4096 := by rw [← hB]; exact sjreadB_len HG.out _
        rw [hE]
        rw [hB] at HE
        have HPs := Lib.hid (show partR d (b : Int) (i + 1) = if E ≠ 0 then ([], E) else ((partR d (b : Int) i).1 ++ B, 0) by
          show (if (partR d (b : Int) i).2 ≠ 0 then ([], (partR d (b : Int) i).2) else if jreadE d ((b : Int) + (i : Int)) ≠ 0 then ([], jreadE d ((b : Int) + (i : Int))) else ((partR d (b : Int) i).1 ++ jreadB d ((b : Int) + (i : Int)), 0) : Bs × Int) = _
          rw [if_neg (by rw [HI.out.1]; decide), hE, hB])
        have hal := partR_len HG.out (b : Int) i
        have HO5 := Lib.hid (show OwnB w w5 xo m xc (partR d (b : Int) i).1 from HI.out.2.to ((Fr.refl noBlock wr).drew.trans' HE.out.2.2.1))
        have hm := HI.out.2.len
        clear hE hB F5 HR q4 q0 q1
        by_cases hE0 : E = 0
        · subst hE0
          have hxn := HE.out.1
          subst hxn
          have hH : (partR d (b : Int) (i + 1)).2 = 0 ∧ (partR d (b : Int) (i + 1)).1 = (partR d (b : Int) i).1 ++ B := by rw [HPs.out, if_neg (by decide)]; exact ⟨rfl, rfl⟩
          have HH := Lib.hid hH
          clear hH HPs HI
          have hi8 : i * 4096 ≤ 8 * 4096 := Nat.mul_le_mul_right _ (by omega)
          go_wp2_with (at_builtin; apply stop_here)
          refine ⟨?_, trivial⟩
          refine wpList_app rfl _ _ rfl el_bytes (partR d (b : Int) i).1 B ((partR d (b : Int) i).1 ++ B) rfl w.heap.size m (m + B.length) (by rw [List.length_append, hm]) rfl HO5.out.own rfl (RowAt.rd HE.out.2.1) rfl (by unfold maxLen; omega) (by omega) HO5.out.fr.size ?_
          intro ao2 cap2 w6 o6 g6 a6
          go_frame
          have HO6 := Lib.hid (HO5.out.grown (Fr.refl _ w5) o6 (by rw [List.length_append, hm]) g6)
          rw [← HH.out.2] at HO6
          clear o6 g6 a6 hm hal hi8
          go_wp2_with fail
          go_roundw
          case rel => exact ⟨i + 1, m + B.length, ao2, cap2, hlt, by go_num, rfl, Lib.hid ⟨HH.out.1, HO6.out⟩⟩
          case measure => simp [intOf]; omega
        · have q5 : (E != 0) = true := by simp [hE0]
          have hH : (partR d (b : Int) (i + 1)).2 = E := by rw [HPs.out, if_pos hE0]
          have h2 := partR_bad (d := d) (b := (b : Int)) (k := i + 1) (m := pages) (by rw [hH]; exact hE0) hlt
          have h3 : (partR d (b : Int) pages).2 = E := h2.1.trans hH
          have h4 : (partR d (b : Int) pages).1 = [] := by
            by_cases e : i + 1 = pages
            · rw [← e, HPs.out, if_pos hE0]
            · exact h2.2 (by omega)
          have HF := Lib.hid (show (partR d (b : Int) pages).2 = E ∧ (partR d (b : Int) pages).1 = [] from ⟨h3, h4⟩)
          clear h2 h3 h4 hH HPs HI hm hal
          go_wp2_with fail
          go_ret2
          rw [HF.out.1, HF.out.2]
          exact ⟨⟨none, 0, 0⟩, rfl, rfl, RowAt.nil, HO5.out.fr, fun k hk => by cases hk⟩
    · have q2 : (pages : Int) ≤ (i : Int) := by omega
      obtain rfl : i = pages := by omega
      go_wp2_with fail
      go_ret2
      rw [HI.out.1]
      exact ⟨⟨xo, m, xc⟩, rfl, HI.out.2.len.symm, HI.out.2.row, HI.out.2.fr, HI.out.2.new⟩
end Go.Proofs.YthabllnhlhkejaaGreatDoor
