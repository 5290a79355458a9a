/-
  PROVED: StoreApart, for every input: a partition hangs on its tenant's saves alone. Condition: the listed tables of the library read as the program lays them (tied).
-/
import Derived.Lay
import Derived.LaidOnce
import Derived.SevenTiedAt
import Derived.Test.YthabllnhlhkejaaGreatDoorTie
import Derived.Test.YthabllnhlhkejaaGreatDoorCards
import Derived.Test.YthabllnhlhkejaaGreatDoorSrC
namespace Go.Proofs.YthabllnhlhkejaaGreatDoor
open Go.RowKit
open StoreX

theorem save_17s {w W : World} {sp j rg sg L q : Nat} {d : DK} {F : Nat → Prop} {S : Saves} {X : Nat → Bs} (h : OwnS w W sp j rg sg L d F) (hX : @StoreX d17 masterB 4 2 S X d) (hq : q < 4) (hk : numS (S (q + 1)) < 999999) {bo : Option Addr} {b : Bs} (hb : RowRd ByteR w bo b) (bc : Nat) :
    Calls Tryz.prog 9 #[.pointer (some ⟨sp, 0, none⟩), .int .i64 (1 + (q : Int)), .slice bo b.length bc] W fun e w' => ∃ (d' : DK) (X' : Nat → Bs) (F' : Nat → Prop), e = .returned (.int .i64 (if 100 < b.length then 14 else 0)) ∧ OwnS w w' sp j rg sg L d' F' ∧ @StoreX d17 masterB 4 2 (if 100 < b.length then S else upd S (q + 1) (numS (S (q + 1)) + 1, b)) X' d' ∧ Step F F' W w' := by
  have e : (1 + (q : Int)) = ((q + 1 : Nat) : Int) := by omega
  rw [e]
  refine (@save_in d17 _ sp j rg sg L 4 2 (q + 1) _ _ _ _ _ h.it hX (by decide) (by omega) (by omega) (by decide) hk _ _ (hb.fr0 h.fr) (h.apart hb) bc).mono ?_
  rintro e w' ⟨d', X', F', rfl, k1, k2, k3⟩
  exact ⟨d', X', F', rfl, h.step k1 k2, k3, k2⟩
theorem load_17s {w W : World} {sp j rg sg L q : Nat} {d : DK} {F : Nat → Prop} {S : Saves} {X : Nat → Bs} (h : OwnS w W sp j rg sg L d F) (hX : @StoreX d17 masterB 4 2 S X d) (hq : q < 4) :
    Calls Tryz.prog 11 #[.pointer (some ⟨sp, 0, none⟩), .int .i64 (1 + (q : Int))] W fun e w' => ∃ (s : SV) (F' : Nat → Prop), e = .returned (.tuple #[s.val, .int .i64 ((told (S (q + 1))).2.1 : Int), .int .i64 (told (S (q + 1))).2.2]) ∧ s.n = (told (S (q + 1))).1.length ∧ RowAt 5 ByteR w' s.val (told (S (q + 1))).1 ∧ OwnS w w' sp j rg sg L d F' ∧ Step F F' W w' := by
  have e : (1 + (q : Int)) = ((q + 1 : Nat) : Int) := by omega
  rw [e]
  refine (@load_in d17 _ sp j rg sg L 4 2 (q + 1) _ _ _ _ _ h.it hX (by decide) (by omega) (by omega) (by decide)).mono ?_
  rintro e w' ⟨s, F', rfl, k1, k2, k3, k4, k5⟩
  exact ⟨s, F', rfl, k1, k2, h.step k3 k4, k4⟩
theorem safe_17s {w W : World} {sp j rg sg L q : Nat} {d : DK} {F : Nat → Prop} {S : Saves} {X : Nat → Bs} (h : OwnS w W sp j rg sg L d F) (hX : @StoreX d17 masterB 4 2 S X d) (hq : q < 4) :
    Calls Tryz.prog 12 #[.pointer (some ⟨L, 0, none⟩), .int .i64 (1 + (q : Int))] W fun e w' => e = .returned (.string (strB (partC masterB (q + 1) 128 (S (q + 1))))) ∧ Fr noBlock W w' := by
  have e : (1 + (q : Int)) = ((q + 1 : Nat) : Int) := by omega
  rw [e]
  exact @sfe_any d17 _ sp j rg sg L 4 (q + 1) _ _ _ _ _ h.it hX (by omega) (by omega) (by decide)
/-- the ids of a store -/
structure Id17 where
  sp : Nat
  j : Nat
  rg : Nat
  sg : Nat
  L : Nat
abbrev Own17 (w W : World) (a : Id17) (d : DK) (F : Nat → Prop) : Prop := OwnS w W a.sp a.j a.rg a.sg a.L d F
/-- two stores side by side -/
structure Two17 (w W : World) (a b : Id17) (dA dB : DK) (FA FB : Nat → Prop) (SA SB : Saves) (XA XB : Nat → Bs) (i : Nat) : Prop where
  a : Own17 w W a dA FA
  b : Own17 w W b dB FB
  ap : ∀ k, FA k → ¬ FB k
  xa : @StoreX d17 masterB 4 2 SA XA dA
  xb : @StoreX d17 masterB 4 2 SB XB dB
  fa : ∀ t, numS (SA t) ≤ i
  fb : ∀ t, numS (SB t) ≤ i
namespace Two17
variable {w W W' : World} {a b : Id17} {dA dB d' : DK} {FA FB F' : Nat → Prop} {SA SB S' : Saves} {XA XB X' : Nat → Bs} {i i' : Nat}
theorem on (h : Two17 w W a b dA dB FA FB SA SB XA XB i) (f : Fr noBlock W W') : Two17 w W' a b dA dB FA FB SA SB XA XB i := ⟨h.a.on f, h.b.on f, h.ap, h.xa, h.xb, h.fa, h.fb⟩
theorem left (h : Two17 w W a b dA dB FA FB SA SB XA XB i) (h' : Own17 w W' a d' F') (s : Step FA F' W W') (x : @StoreX d17 masterB 4 2 S' X' d') (hi : i ≤ i') (f : ∀ t, numS (S' t) ≤ i') : Two17 w W' a b d' dB F' FB S' SB X' XB i' :=
  ⟨h', ⟨StoreIn.ok.fr h.b.it s.fr (fun k hk hf => h.ap k hf hk), h'.fr, h.b.new⟩, s.apart h.ap (StoreIn.ok.lt h.b.it), x, h.xb, f, fun t => Nat.le_trans (h.fb t) hi⟩
theorem right (h : Two17 w W a b dA dB FA FB SA SB XA XB i) (h' : Own17 w W' b d' F') (s : Step FB F' W W') (x : @StoreX d17 masterB 4 2 S' X' d') (hi : i ≤ i') (f : ∀ t, numS (S' t) ≤ i') : Two17 w W' a b dA d' FA F' SA S' XA X' i' :=
  ⟨⟨StoreIn.ok.fr h.a.it s.fr (fun k hk hf => h.ap k hk hf), h'.fr, h.a.new⟩, h', fun k hk hb => s.apart (fun k hb ha => h.ap k ha hb) (StoreIn.ok.lt h.a.it) k hb hk, h.xa, x, fun t => Nat.le_trans (h.fa t) hi, f⟩
end Two17
/-- what the loop holds of the tenant's last bytes -/
def LastOk (S : Saves) (q : Nat) (saved : Bool) (last : ByteArray) : Prop := match S (q + 1) with
  | none => saved = false
  | some (_, b) => saved = true ∧ last = strB b
theorem upd_same {SA SB : Saves} {q q' : Nat} (h : SA (q + 1) = SB (q + 1)) (e : q' = q) (b : Bs) (r : Prop) [Decidable r] : (if r then SA else upd SA (q' + 1) (numS (SA (q' + 1)) + 1, b)) (q + 1) = (if r then SB else upd SB (q' + 1) (numS (SB (q' + 1)) + 1, b)) (q + 1) := by
  subst e
  by_cases hr : r
  · rw [if_pos hr, if_pos hr, h]
  · rw [if_neg hr, if_neg hr]
    unfold upd
    rw [if_pos rfl, if_pos rfl, h]
theorem upd_other {SA : Saves} {q q' : Nat} (e : ¬ q' = q) (x : Nat × Bs) (r : Prop) [Decidable r] : (if r then SA else upd SA (q' + 1) x) (q + 1) = SA (q + 1) := by
  by_cases hr : r
  · rw [if_pos hr]
  · rw [if_neg hr]
    unfold upd
    rw [if_neg (by omega)]
theorem few_upd {S : Saves} {i q' : Nat} (h : ∀ t, numS (S t) ≤ i) (b : Bs) (r : Prop) [Decidable r] (u : Nat) : numS ((if r then S else upd S (q' + 1) (numS (S (q' + 1)) + 1, b)) u) ≤ i + 1 := by
  have h0 := h u
  have h1 := h (q' + 1)
  split
  · omega
  · rw [numS_upd]
    split
    · show numS (S (q' + 1)) + 1 ≤ i + 1
      omega
    · omega
theorem LastOk.same {S S' : Saves} {q : Nat} {s : Bool} {l : ByteArray} (h : LastOk S q s l) (e : S' (q + 1) = S (q + 1)) : LastOk S' q s l := by
  unfold LastOk
  rw [e]
  exact h
/-- the box of an act, beside the two stores -/
structure BoxOk (pb : Nat) (o : Obj) (FA FB : Nat → Prop) (W : World) : Prop where
  box : W.heap[pb]? = some o
  na : ¬ FA pb
  nb : ¬ FB pb
namespace BoxOk
variable {pb : Nat} {o : Obj} {FA FB F' : Nat → Prop} {W W' : World}
theorem on (h : BoxOk pb o FA FB W) (f : Fr noBlock W W') : BoxOk pb o FA FB W' := ⟨f.obj h.box (fun z => z), h.na, h.nb⟩
theorem left (h : BoxOk pb o FA FB W) (s : Step FA F' W W') : BoxOk pb o F' FB W' := ⟨s.fr.obj h.box h.na, fun e => (s.foot _ e).elim h.na (fun hle => by have := heap_lt h.box; omega), h.nb⟩
theorem right (h : BoxOk pb o FA FB W) (s : Step FB F' W W') : BoxOk pb o FA F' W' := ⟨s.fr.obj h.box h.nb, h.na, fun e => (s.foot _ e).elim h.nb (fun hle => by have := heap_lt h.box; omega)⟩
end BoxOk
set_option maxRecDepth 100000 in
set_option maxHeartbeats 6400000 in
theorem apart_walk {w : World} {ao : Option Addr} {xs : List DAct} (hx : RowRd DActR w ao xs) (hok : ∀ y ∈ xs, y.Ok w) (cap : Nat) (t : Int) :
    Calls Tryz.prog 4 #[.slice ao xs.length cap, .int .i64 t] w fun e w' => e = .returned (.bool true) ∧ Below w.heap.size w w' := by
  have HX := Lib.hid (And.intro hx hok)
  obtain ⟨q, hq, hand⟩ := who_is t
  have HSm := Lib.hid (ssmall_any w)
  have q1 : wrap64 (1 + (q : Int)) = 1 + (q : Int) := by unfold wrap64; omega
  clear hx hok
  go_enter Tryz.func4, Tryz.ntmps4
  go_wp2_with fail
  refine HSm.out.mono ?_
  rintro e w0 ⟨rfl, f0⟩
  have HOp := Lib.hid (opened_17 f0)
  clear f0 HSm
  go_wp2_with fail
  refine HOp.out.mono ?_
  rintro e w1 ⟨spA, jA, rgA, sgA, LA, FA1, rfl, h1⟩
  have H1 := Lib.hid h1
  have HOp2 := Lib.hid (opened_any w1)
  unfold OpenedP at HOp2
  clear h1 HOp
  go_wp2_with fail
  refine HOp2.out.mono ?_
  rintro e w2 ⟨spB, jB, rgB, sgB, LB, FB1, rfl, h2, f2, n2⟩
  obtain ⟨a, ha⟩ : ∃ a : Id17, (⟨spA, jA, rgA, sgA, LA⟩ : Id17) = a := ⟨_, rfl⟩
  obtain ⟨b, hb⟩ : ∃ b : Id17, (⟨spB, jB, rgB, sgB, LB⟩ : Id17) = b := ⟨_, rfl⟩
  have eA1 : spA = a.sp := by rw [← ha]
  have eA2 : LA = a.L := by rw [← ha]
  have eB1 : spB = b.sp := by rw [← hb]
  have eB2 : LB = b.L := by rw [← hb]
  have H2 := Lib.hid (show Two17 w w2 a b (DK.new 17 64) (DK.new 17 64) FA1 FB1 (fun _ => none) (fun _ => none) (fun _ => List.replicate 64 0) (fun _ => List.replicate 64 0) 0 from by
    rw [← ha, ← hb]
    exact ⟨H1.out.on f2, ⟨h2, H1.out.fr.trans' f2, fun k hk => Nat.le_trans H1.out.fr.size (n2 k hk)⟩, fun k hk hf => by have h3 := StoreIn.ok.lt H1.out.it k hk; have h4 := n2 k hf; omega, new17, new17, fun _ => Nat.le_refl _, fun _ => Nat.le_refl _⟩)
  rw [eA1, eA2, eB1, eB2]
  clear h2 f2 n2 HOp2 H1 ha hb eA1 eA2 eB1 eB2
  go_wp2_with fail
  clear hand q1
  go_loopw [11, 12, 13] (fun s11 s12 s13 W => ∃ (i : Nat) (last : ByteArray) (saved : Bool) (dA dB : DK) (FA FB : Nat → Prop) (SA SB : Saves) (XA XB : Nat → Bs), i ≤ xs.length ∧ i ≤ 25 ∧ s13 = .int .i64 i ∧ s11 = .string last ∧ s12 = .bool saved ∧ Hid (Two17 w W a b dA dB FA FB SA SB XA XB i ∧ SA (q + 1) = SB (q + 1) ∧ LastOk SA q saved last)) (fun _ _ s13 _ => 25 - (intOf s13).toNat)
  case atStart => exact ⟨0, ⟨#[]⟩, false, _, _, FA1, FB1, _, _, _, _, Nat.zero_le _, by omega, rfl, rfl, rfl, Lib.hid ⟨H2.out, rfl, rfl⟩⟩
  case round =>
    clear H2
    obtain ⟨i, last, saved, dA, dB, FA, FB, SA, SB, XA, XB, hi, hi25, rfl, rfl, rfl, HI⟩ := hrel
    by_cases hlt : i < xs.length ∧ i < 25
    · obtain ⟨hlt, hi24⟩ := hlt
      have q1 : (i : Int) < (xs.length : Int) := by omega
      have q2 : (i : Int) < 25 := by omega
      have q0 : (0 : Int) ≤ (i : Int) := by omega
      obtain ⟨g, off, rfl, hgw, y0, y1, y2, y3, y4⟩ := dact_cells HX.out.1 hlt
      have ha := HX.out.2 xs[i] (List.getElem_mem hlt)
      generalize xs[i] = c at *
      obtain ⟨op, an, am, bo, bc, bs, ko, kc, keep⟩ := c
      dsimp only at y0 y1 y2 y3 y4
      have HBy := Lib.hid (show RowRd ByteR w bo bs from ha.b)
      have hfr := HI.out.1.a.fr
      replace y0 := (hfr.cell (p := ⟨g, _, none⟩) hgw (fun z => z)).trans y0
      replace y1 := (hfr.cell (p := ⟨g, _, none⟩) hgw (fun z => z)).trans y1
      replace y2 := (hfr.cell (p := ⟨g, _, none⟩) hgw (fun z => z)).trans y2
      replace y3 := (hfr.cell (p := ⟨g, _, none⟩) hgw (fun z => z)).trans y3
      replace y4 := (hfr.cell (p := ⟨g, _, none⟩) hgw (fun z => z)).trans y4
      obtain ⟨q', hq', hand'⟩ := who_is an
      have p1 : wrap64 (1 + (q' : Int)) = 1 + (q' : Int) := by unfold wrap64; omega
      clear ha hgw hfr
      go_upto_region 13 with fail
      obtain ⟨pb, hpb⟩ : ∃ pb, wr.heap.size = pb := ⟨_, rfl⟩
      refine wp_at (fun W => BoxOk pb (.cells #[.int .i64 op, .int .i64 an, .int .i64 am, .slice bo bs.length bc, .slice ko keep.length kc] 31 (0, 0)) FA FB W ∧ Fr noBlock wr W) ⟨⟨by rw [← hpb]; exact heap_new wr _, fun e => by have := StoreIn.ok.lt HI.out.1.a.it _ e; omega, fun e => by have := StoreIn.ok.lt HI.out.1.b.it _ e; omega⟩, (Fr.refl noBlock wr).alloc _⟩ ?_
      rw [hpb]
      clear y0 y1 y2 y3 y4 hpb
      rintro w3 ⟨b3, f3⟩
      have T3 := Lib.hid (HI.out.1.on f3)
      have B3 := Lib.hid b3
      have HRe := Lib.hid HI.out.2
      have z1 := cell_of b3.box 1
      simp only [List.getElem?_toArray, List.getElem?_cons_succ, List.getElem?_cons_zero] at z1
      have HSf := Lib.hid (safe_17s (q := q) T3.out.a T3.out.xa hq)
      clear b3 f3 HI
      go_wp2_with fail
      refine HSf.out.mono ?_
      rintro e w4 ⟨rfl, f4⟩
      have T4 := Lib.hid (T3.out.on f4)
      have B4 := Lib.hid (B3.out.on f4)
      have z3 := cell_of B4.out.box 3
      simp only [List.getElem?_toArray, List.getElem?_cons_succ, List.getElem?_cons_zero] at z3
      have HSv := Lib.hid (save_17s (q := q') T4.out.a T4.out.xa hq' (by have := T4.out.fa (q' + 1); omega) HBy.out bc)
      obtain ⟨wasS, hwas⟩ : ∃ s, strB (partC masterB (q + 1) 128 (SA (q + 1))) = s := ⟨_, rfl⟩
      have HWas := Lib.hid hwas
      rw [hwas]
      clear f4 HSf T3 B3 z1 hand' p1 hwas
      go_wp2_with fail
      refine HSv.out.mono ?_
      rintro e w5 ⟨d5, X5, F5, rfl, h5, x5, s5⟩
      have hbl := HBy.out.len
      obtain ⟨S5, hS5⟩ : ∃ S5, (if 100 < bs.length then SA else upd SA (q' + 1) (numS (SA (q' + 1)) + 1, bs)) = S5 := ⟨_, rfl⟩
      rw [hS5] at x5
      have HS5 := Lib.hid hS5
      have T5 := Lib.hid (T4.out.left h5 s5 x5 (Nat.le_succ i) (fun u => by rw [← hS5]; exact few_upd T4.out.fa bs _ u))
      have B5 := Lib.hid (B4.out.left s5)
      obtain ⟨E, hE⟩ : ∃ E : Int, (if 100 < bs.length then (14 : Int) else 0) = E := ⟨_, rfl⟩
      have HE := Lib.hid hE
      rw [hE]
      have HFb := Lib.hid T4.out.fb
      clear h5 x5 s5 HSv hS5 hE z3 T4 B4
      have HRm := Lib.hid (show ∀ W, Fr noBlock w5 W → _ from fun W hf => room_17 (T5.out.a.on hf) T5.out.xa)
      have z3 := cell_of B5.out.box 3
      simp only [List.getElem?_toArray, List.getElem?_cons_succ, List.getElem?_cons_zero] at z3
      have HKp := Lib.hid (show ∀ W, Fr noBlock w5 W → W.cell? ⟨pb, 3, none⟩ = some (.slice bo bs.length bc) from fun W hf => (hf.cell (p := ⟨pb, 3, none⟩) (World.block_lt_of_cell? _ _ z3) (fun z => z)).trans z3)
      go_upto_region 16 with fail
      go_cut [87] from 44 to 146 (fun s87 W => s87 = .bool false ∧ Hid (Fr noBlock w5 W))
      case first =>
        by_cases hr : 100 < bs.length
        · have p1 : (E != 0) = true := by rw [← HE.out, if_pos hr]; rfl
          have p2 : (E != 14) = false := by rw [← HE.out, if_pos hr]; rfl
          have p3 : (E == 14) = true := by rw [← HE.out, if_pos hr]; rfl
          have p4 : decide ((bs.length : Int) ≤ 100) = false := by simp; omega
          go_region_held3 (fun W => W.cell? ⟨pb, 3, none⟩ = some (.slice bo bs.length bc))
            (first | exact z3 | exact HKp.out _ (by repeat (first | (with_reducible exact Fr.refl _ _) | (with_reducible exact F6) | (with_reducible refine Fr.drew ?_))) | fail "nokeep")
            (first
              | (go_at_call 10; (with_reducible refine (HRm.out _ (by repeat (first | (with_reducible exact Fr.refl _ _) | (with_reducible refine Fr.drew ?_)))).mono ?_); rintro e w6 ⟨rfl, k1⟩; have F6 : Fr noBlock w5 w6 := ((Fr.refl noBlock w5).drew).trans' k1; have HF6 := Lib.hid F6; clear k1)
              | fail "noarm")
          all_goals
            clear F6
            go_wp2_with fail
            go_meet
            exact ⟨rfl, HF6⟩
        · have p1 : (E != 0) = false := by rw [← HE.out, if_neg hr]; rfl
          have p3 : (E == 14) = false := by rw [← HE.out, if_neg hr]; rfl
          go_quiet (fail)
          have HF6 := Lib.hid ((Fr.refl noBlock w5).drewN nq)
          go_wp2_with fail
          go_meet
          exact ⟨rfl, HF6⟩
      obtain ⟨rfl, HC⟩ := hcut
      have T6 := Lib.hid (T5.out.on HC.out)
      have B6 := Lib.hid (B5.out.on HC.out)
      clear HC T5 B5 HRm HKp z3
      have HSf6 := Lib.hid (safe_17s (q := q) T6.out.a T6.out.xa hq)
      go_upto_region 18 with fail
      go_cut [97] from 44 to 146 (fun s97 W => s97 = .bool false ∧ Hid (Fr noBlock wc W))
      case first =>
        by_cases e : q' = q
        · have p1 : ((1 + (q' : Int)) != (1 + (q : Int))) = false := by rw [e]; simp
          go_wp2_with fail
          go_meet
          exact ⟨rfl, Lib.hid (Fr.refl _ _)⟩
        · have p1 : ((1 + (q' : Int)) != (1 + (q : Int))) = true := by simp; omega
          have hsame : S5 (q + 1) = SA (q + 1) := by rw [← HS5.out]; exact upd_other e _ _
          rw [hsame, HWas.out] at HSf6
          go_wp2_with fail
          refine HSf6.out.mono ?_
          rintro e w7 ⟨rfl, f7⟩
          have HF7 := Lib.hid f7
          clear f7 HSf6
          go_wp2_with fail
          go_meet
          exact ⟨rfl, HF7⟩
      obtain ⟨rfl, HC⟩ := hcut
      have T7 := Lib.hid (T6.out.on HC.out)
      have B7 := Lib.hid (B6.out.on HC.out)
      clear HC T6 B6 HSf6
      go_upto_if 100 with fail
      go_cut [11, 12, 18] from 44 to 146 (fun s11 s12 s18 W => ∃ (last' : ByteArray) (saved' : Bool) (dB' : DK) (FB' : Nat → Prop) (SB' : Saves) (XB' : Nat → Bs), s11 = .string last' ∧ s12 = .bool saved' ∧ Hid (Two17 w W a b d5 dB' F5 FB' S5 SB' X5 XB' (i + 1) ∧ S5 (q + 1) = SB' (q + 1) ∧ LastOk S5 q saved' last'))
      case first =>
        by_cases e : q' = q
        · have p1 : ((1 + (q' : Int)) == (1 + (q : Int))) = true := by rw [e]; simp
          have HSv := Lib.hid (save_17s (q := q) T7.out.b T7.out.xb hq (by have := T7.out.fb (q + 1); omega) HBy.out bc)
          rw [HE.out] at HSv
          have z3 := cell_of B7.out.box 3
          simp only [List.getElem?_toArray, List.getElem?_cons_succ, List.getElem?_cons_zero] at z3
          go_wp2_with fail
          (with_reducible refine HSv.out.mono ?_)
          rintro e8 w8 ⟨d8, X8, F8, rfl, h8, x8, s8⟩
          obtain ⟨S8, hS8⟩ : ∃ S8, (if 100 < bs.length then SB else upd SB (q + 1) (numS (SB (q + 1)) + 1, bs)) = S8 := ⟨_, rfl⟩
          rw [hS8] at x8
          have T8 := Lib.hid (T7.out.right h8 s8 x8 (Nat.le_refl _) (fun u => by rw [← hS8]; exact few_upd HFb.out bs _ u))
          have B8 := Lib.hid (B7.out.right s8)
          have HEq := Lib.hid (show S5 (q + 1) = S8 (q + 1) by rw [← HS5.out, ← hS8, e]; exact upd_same HRe.out.1 rfl bs _)
          have z8 := cell_of B8.out.box 3
          simp only [List.getElem?_toArray, List.getElem?_cons_succ, List.getElem?_cons_zero] at z8
          have HcE := Lib.hid e
          clear h8 x8 s8 HSv hS8 z3 p1 e
          have p9 : (E != E) = false := by simp
          by_cases hr : 100 < bs.length
          · have p2 : (E == 0) = false := by rw [← HE.out, if_pos hr]; rfl
            have HLk := Lib.hid (HRe.out.2.same (S' := S5) (by rw [← HS5.out, if_pos hr]))
            go_wp2_with fail
            go_meet
            exact ⟨last, saved, d8, F8, S8, X8, rfl, rfl, Lib.hid ⟨T8.out, HEq.out, HLk.out⟩⟩
          · have p2 : (E == 0) = true := by rw [← HE.out, if_neg hr]; rfl
            have hcv : (convert 28 9 (.slice bo bs.length bc)).run Tryz.prog w8 = .ok (.string (strB bs)) w8 := conv_rd (HBy.out.fr0 T8.out.a.fr) bc
            have HLk := Lib.hid (show LastOk S5 q true (strB bs) from by
              unfold LastOk
              rw [← HS5.out, if_neg hr, HcE.out]
              unfold upd
              rw [if_pos rfl]
              exact ⟨rfl, rfl⟩)
            go_wp2_with fail
            go_meet
            exact ⟨strB bs, true, d8, F8, S8, X8, rfl, rfl, Lib.hid ⟨T8.out, HEq.out, HLk.out⟩⟩
        · have p1 : ((1 + (q' : Int)) == (1 + (q : Int))) = false := by simp; omega
          have hsame : S5 (q + 1) = SA (q + 1) := by rw [← HS5.out]; exact upd_other e _ _
          have HLk := Lib.hid (HRe.out.2.same (S' := S5) hsame)
          have HEq := Lib.hid (hsame.trans HRe.out.1)
          clear hsame
          go_wp2_with fail
          go_meet
          exact ⟨last, saved, dB, FB, SB, XB, rfl, rfl, Lib.hid ⟨T7.out, HEq.out, HLk.out⟩⟩
      obtain ⟨last', saved', dB', FB', SB', XB', rfl, rfl, HC⟩ := hcut
      clear T7 B7 HE HS5 HRe HWas HFb
      have HA := Lib.hid (safe_17s (q := q) HC.out.1.a HC.out.1.xa hq)
      obtain ⟨P, hP⟩ : ∃ P, strB (partC masterB (q + 1) 128 (S5 (q + 1))) = P := ⟨_, rfl⟩
      rw [hP] at HA
      go_wp2_with fail
      refine HA.out.mono ?_
      rintro e w9 ⟨rfl, f9⟩
      have T9 := Lib.hid (HC.out.1.on f9)
      have HB := Lib.hid (safe_17s (q := q) T9.out.b T9.out.xb hq)
      rw [← HC.out.2.1, hP] at HB
      clear f9 HA hP
      go_wp2_with fail
      refine HB.out.mono ?_
      rintro e w10 ⟨rfl, f10⟩
      have T10 := Lib.hid (T9.out.on f10)
      have HL := Lib.hid (load_17s (q := q) T10.out.a T10.out.xa hq)
      clear f10 HB T9
      go_wp2_with fail
      refine HL.out.mono ?_
      rintro e w11 ⟨⟨ya, yn, yc⟩, F11, rfl, k1, k2, k3, k4⟩
      have T11 := Lib.hid (T10.out.left k3 k4 T10.out.xa (Nat.le_refl _) T10.out.fa)
      have HEL := Lib.hid HC.out.2
      unfold SV.val at k2 ⊢
      dsimp only at k1 k2 ⊢
      have hl := HC.out.2.2
      unfold LastOk at hl
      clear k3 k4 HL T10 HC
      cases hS : S5 (q + 1) with
      | none =>
        rw [hS] at hl k1 k2
        dsimp only at hl
        subst hl
        dsimp only [told]
        clear k1 k2 hS
        go_wp2_with fail
        go_roundw
        case rel => exact ⟨i + 1, last', false, d5, dB', F11, FB', S5, SB', X5, XB', hlt, by omega, by go_num, rfl, rfl, Lib.hid ⟨T11.out, HEL.out⟩⟩
        case measure => simp [intOf]; omega
      | some r =>
        obtain ⟨k, b2⟩ := r
        rw [hS] at hl k1 k2
        dsimp only [told] at hl k1 k2
        obtain ⟨rfl, rfl⟩ := hl
        subst k1
        have hcv : (convert 28 9 (.slice ya b2.length yc)).run Tryz.prog w11 = .ok (.string (strB b2)) w11 := conv_rd (RowAt.rd k2) yc
        dsimp only [told]
        clear k2 hS
        go_wp2_with fail
        go_roundw
        case rel => exact ⟨i + 1, strB b2, true, d5, dB', F11, FB', S5, SB', X5, XB', hlt, by omega, by go_num, rfl, rfl, Lib.hid ⟨T11.out, HEL.out⟩⟩
        case measure => simp [intOf]; omega
    · by_cases h1 : i < xs.length
      · have h25 : i = 25 := by omega
        subst h25
        have q1 : ((25 : Nat) : Int) < (xs.length : Int) := by omega
        have q1' : (25 : Int) < (xs.length : Int) := by omega
        have HF := Lib.hid HI.out.1.a.fr
        clear HI
        go_wp2_with fail
        go_ret
        exact ⟨rfl, HF.out.below (Nat.le_refl _) (fun _ h => h.elim)⟩
      · have q1 : (xs.length : Int) ≤ (i : Int) := by omega
        have HF := Lib.hid HI.out.1.a.fr
        clear HI
        go_wp2_with fail
        go_ret
        exact ⟨rfl, HF.out.below (Nat.le_refl _) (fun _ h => h.elim)⟩
end Go.Proofs.YthabllnhlhkejaaGreatDoor
namespace Go.Proofs.YthabllnhlhkejaaGreatDoor.sapart
open Go.ChangeShapes Go.WideShapes Go.ChangeAt Go.RowKit
open Go.ChangeMaps (open_string shut_string)

theorem own : ownKnob Tryz.prog.godebug = none := by kernel_rfl
theorem laidOut : laidOutB Tryz.prog = true := by kernel_rfl

set_option maxRecDepth 100000 in
theorem lifted (os : Os) (started : os.Started) (H : Type) (enc : TypeId × Value → H) :
    ReturnsInHanded {} Tryz.checked os 4 .any (fun w args => (Rows.storeApartSpec.pre enc Tryz.prog Tryz.f4 [] false w args ∧ laidMetH Tryz.prog Rows.storeApartRow.laid w) ∧ sizedMet enc Tryz.prog Tryz.f4 (OpenSpec.ofChange Rows.storeApartSpec) false w args)
      (Rows.storeApartSpec.post enc Tryz.prog Tryz.f4 false true false false) := by
  refine returnsInHanded_of_change_and (C := Tryz.checked) (X := fun w _ => laidMetH Tryz.prog Rows.storeApartRow.laid w) (fun _ _ _ hh h => h.of_heap hh) own started (by kernel_rfl) Tryz.func4
    (ChangeSpec.witness_shaped (enc := enc) (C := Tryz.checked) (os := os) (X := fun w _ => laidMetH Tryz.prog Rows.storeApartRow.laid w) false (World.laidAll Tryz.prog os Rows.storeApartRow.laid) #[.slice none 0 0, .int .i64 0] 8 (World.laidAll_os _ _ _)
      (World.shaped_of_ZipB (by kernel_rfl) (by kernel_rfl)) (by kernel_rfl) (by kernel_rfl) (by kernel_rfl)
      (by rw [MakeChecks.laidMetH_plain _ _ _ (by kernel_rfl)]; exact laidMet_laidAll _ (by kernel_rfl) (by kernel_rfl))) ?_
  intro W base args ds gs before hval0 hW _ hsz0 _ _
  have hval : ∀ (j : Nat) t v, Tryz.f4.params[j]? = some t → args[j]? = some v → Value.okWide Tryz.prog W .any base t v := hval0
  have hW' := hW
  obtain ⟨p, q, hA0, hV, rfl, hfz, hnd⟩ := hW
  have hA : DataW.TrodAll enc Tryz.prog W 0 (fun _ => true) true Tryz.f4.params.toList args.toList ds p := hA0
  have hsz : (DataW.weightsEach Tryz.prog (Tryz.f4.params.toList ++ Rows.storeApartSpec.plain.varTypes Tryz.prog) (ds ++ gs)).all (· ≤ reachBytes) = true := hsz0
  rw [Tryz.params4] at hA hval hsz
  obtain ⟨v0, vs0, d0, ds0, p0, q0, hargs, rfl, rfl, h0, r0⟩ := trodAll_cons hA
  obtain ⟨v1, vs1, d1, ds1, p1, q1, rfl, rfl, rfl, h1, r1⟩ := trodAll_cons r0
  obtain ⟨rfl, rfl, rfl⟩ := trodAll_nil r1
  obtain rfl : args = #[v0, v1] := by cases args; simp_all
  obtain ⟨rfl, rfl⟩ := trodVars_none hV
  have k0 := h0
  have lt0 : ∀ x ∈ p0, x.block < W.heap.size := by obtain ⟨m, hm⟩ := k0; exact DataW.trod_lt m _ _ _ hm
  have k1 := h1
  have lt1 : ∀ x ∈ p1, x.block < W.heap.size := by obtain ⟨m, hm⟩ := k1; exact DataW.trod_lt m _ _ _ hm
  obtain ⟨ao, cap, xs, rfl, hx, hx_s⟩ := open_dacts (hval 0 22 v0 rfl rfl) h0
  obtain ⟨t, rfl, _, _, ht⟩ := open_int Tryz.underlying3 (hval 1 3 v1 rfl rfl) h1
  clear hA0 hval0 hsz0
  refine (apart_walk hx hx_s cap t).mono fun e W' ⟨he, bel⟩ => ?_
  subst he
  exact ⟨_, rfl, _, _, _, [], _, [], hW', trodAll_mk1 (shut_bool Tryz.underlying4 _),
    (trodAll_cons_mk (Below.trod laidOut (by kernel_rfl) (of_decide_eq_true (by kernel_rfl)) k0 bel lt0) (trodAll_cons_mk (Below.trod laidOut (by kernel_rfl) (of_decide_eq_true (by kernel_rfl)) k1 bel lt1) trodAll_mk0)), rfl, bel.frame _, fun h => by cases h⟩

theorem over : Rows.storeApartRow.holds Tryz.pinned (OpenSpec.ofChange Rows.storeApartSpec) :=
  OpenClaim.holds_of_wide 4 Tryz.f4 rfl rfl rfl rfl rfl rfl rfl ⟨rfl, rfl, rfl, rfl, rfl⟩ rfl rfl rfl rfl rfl (by kernel_rfl) Tryz.func4 (by kernel_rfl)
    (of_decide_eq_true (by kernel_rfl)) (by unfold Func.isWrapper; first | (rw [if_pos (by decide +kernel)]; kernel_rfl) | (rw [if_neg (by decide +kernel)]; exact ⟨rfl, rfl⟩))
    (fun os started H enc _ => lifted os started H enc)

/-- THE STATEMENT: the tied card. -/
theorem proved : Rows.StoreApartCardSaid :=
  Claim7.holds_tied_plain_at .later [] [.data, .data, .data] true _ false over (fun _ h => by cases h) (by kernel_rfl) (fun _ h => by cases h) storeApart_row_tie rfl ⟨rfl, rfl⟩ (by kernel_rfl) rfl
    (fun f fn hf hfn => by
      obtain rfl : f = 4 := Option.some.inj ((show Tryz.prog.funcNamed "moneyer/moneyerlaw22.StoreApart" = some 4 by kernel_rfl).symm.trans hf) |>.symm
      obtain rfl : fn = Tryz.f4 := (Option.some.inj (Tryz.func4.symm.trans hfn)).symm
      exact ⟨by kernel_rfl, fun j t ht => by
        rw [Tryz.params4] at ht
        have hm : t ∈ ([22, 3] : List Nat) := by simpa using Array.mem_of_getElem? ht
        have hall : (([22, 3] : List Nat).all fun u => !Tryz.prog.wantsStandIn u) = true := by kernel_rfl
        exact (show Tryz.prog.wantsStandIn t = false by simpa using List.all_eq_true.1 hall t hm)⟩)
    (by kernel_rfl)
end Go.Proofs.YthabllnhlhkejaaGreatDoor.sapart
