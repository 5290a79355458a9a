/-
  THE WALKS of box.tagged and box.Seal.
-/
import Derived.Lib.SlBytesConst
import Derived.Test.YthabllnhlhkejaaGreatDoorStB
namespace Go.Proofs.YthabllnhlhkejaaGreatDoor
open Go.RowKit

theorem OwnB.away {S : Nat → Prop} {w0 w w' : World} {ao : Option Addr} {n cap : Nat} {x : List UInt8} (h : OwnB w0 w ao n cap x) (hf : Fr S w w') (hS : ∀ k, S k → w0.heap.size ≤ k) (ha : ∀ k, (Value.slice ao n cap).ownBlock = some k → ¬ S k) : OwnB w0 w' ao n cap x :=
  ⟨ownsRow_fr h.own hf ha, h.len, h.fr.trans hf (fun k hk => .inr (hS k hk))⟩
theorem padsB_get {key : List UInt8} (hk : key.length = 32) (nonce M m j : Nat) (hm : m < M) (hj : j < 16) : (padsB key nonce M)[16 * m + j]? = (padB key nonce m)[j]? := by
  induction M with
  | zero => omega
  | succ M ih =>
    show (padsB key nonce M ++ padB key nonce M)[16 * m + j]? = _
    have hl := padsB_len hk nonce M
    by_cases h : m < M
    · rw [List.getElem?_append_left (by omega), ih h]
    · obtain rfl : m = M := by omega
      rw [List.getElem?_append_right (by omega), hl, Nat.add_sub_cancel_left]
theorem xorB_take {key : List UInt8} (hk : key.length = 32) (nonce : Nat) {p : List UInt8} {m j : Nat} (hj : j < 16) {x y : UInt8} (hx : p[16 * m + j]? = some x) (hy : (padB key nonce m)[j]? = some y) : (xorB key nonce p).take (16 * m + j + 1) = (xorB key nonce p).take (16 * m + j) ++ [y ^^^ x] := by
  have hl := (List.getElem?_eq_some_iff.1 hx).1
  have hg : (padsB key nonce ((p.length + 15) / 16))[16 * m + j]? = some y := by rw [padsB_get hk nonce _ m j (by omega) hj, hy]
  have hz : (xorB key nonce p)[16 * m + j]? = some (y ^^^ x) := by
    unfold xorB
    rw [List.getElem?_zipWith, hx, hg, UInt8.xor_comm]
  rw [List.take_add_one, hz]
  rfl
/-- the pad's things, and the bytes so far -/
structure XorIn (w W : World) (b6 b3 ka : Nat) (key : List UInt8) (nonce : Nat) (F : Nat → Prop) (xo : Option Addr) (n xc : Nat) (x : List UInt8) : Prop where
  pad : PadIn b6 b3 ka key nonce W F
  new : ∀ k, F k → w.heap.size ≤ k
  own : OwnB w W xo n xc x
  ap : ∀ k, (Value.slice xo n xc).ownBlock = some k → ¬ F k ∧ k ≠ b6 ∧ k ≠ b3
namespace XorIn
variable {w W W1 W2 : World} {b6 b3 ka nonce n n2 xc xc2 : Nat} {key x y : List UInt8} {F F' : Nat → Prop} {xo xo2 : Option Addr}
theorem on (h : XorIn w W b6 b3 ka key nonce F xo n xc x) (hl : key.length = 32) (hf : Fr noBlock W W1) : XorIn w W1 b6 b3 ka key nonce F xo n xc x := ⟨h.pad.fr0 hl hf, h.new, h.own.to hf, h.ap⟩
/-- a block of the pad was made -/
theorem step (h : XorIn w W b6 b3 ka key nonce F xo n xc x) (hp : PadIn b6 b3 ka key nonce W1 F') (hs : Step F F' W W1) : XorIn w W1 b6 b3 ka key nonce F' xo n xc x := by
  have hw := h.own.fr.size
  refine ⟨hp, fun k hk => (hs.foot k hk).elim (h.new k) (fun hle => by omega), h.own.away hs.fr h.new (fun k hk => (h.ap k hk).1), fun k hk => ⟨fun e => (hs.foot k e).elim (h.ap k hk).1 (fun hle => ?_), (h.ap k hk).2⟩⟩
  have := h.own.lt k hk
  omega
/-- a byte was appended -/
theorem grown (h : XorIn w W b6 b3 ka key nonce F xo n xc x) (hl : key.length = 32) (hf : Fr noBlock W W1) (ho : W2.ownsRow w.heap.size 5 ByteR.k (.slice xo2 n2 xc2) n2 (ByteR.flat y)) (hn : y.length = n2) (hg : W1.grownBy W2 (Value.slice xo n xc).ownBlock)
    (hat : (Value.slice xo2 n2 xc2).ownBlock = (Value.slice xo n xc).ownBlock ∨ (Value.slice xo2 n2 xc2).ownBlock = some W1.heap.size) : XorIn w W2 b6 b3 ka key nonce F xo2 n2 xc2 y := by
  have hfg : Fr (fun k => (Value.slice xo n xc).ownBlock = some k) W W2 := (hf.mono (fun _ z => z.elim)).grown hg (fun k hk => .inl hk)
  refine ⟨h.pad.fr hl hfg (fun e => (h.ap _ e).2.1 rfl) (fun e => (h.ap _ e).2.2 rfl) (fun k hk e => (h.ap _ e).1 hk), h.new, h.own.grown hf ho hn hg, fun k hk => ?_⟩
  rcases hat with hat | hat
  · rw [hat] at hk
    exact h.ap k hk
  · rw [hat] at hk
    cases hk
    have h1 := hf.size
    have h2 := heap_lt h.pad.kp
    have h3 := heap_lt h.pad.np
    exact ⟨fun e => by have := (AKeyT.ok hl).lt h.pad.key _ e; omega, by omega, by omega⟩
end XorIn
set_option maxRecDepth 100000 in
set_option maxHeartbeats 3200000 in
theorem xor_any {w : World} {ao po : Option Addr} {key p : List UInt8} (h : RowRd ByteR w ao key) (cap : Nat) (hl : key.length = 32) (nonce : Nat) (hn : nonce < 9223372036854775808) (hp : RowRd ByteR w po p) (pc : Nat) (hpl : p.length ≤ 65536) :
    Calls Tryz.prog 37 #[.slice ao key.length cap, .int .i64 (nonce : Int), .int .i64 0, .slice po p.length pc] w (ReadP (xorB key nonce p) 0 w) := by
  have HB := Lib.hid (blocks_any h cap hl nonce)
  unfold BlocksP at HB
  have HP := Lib.hid (And.intro hp hl)
  have eg := enters_of Tryz.func83 (by kernel_rfl) rfl
  have HZl := Lib.hid (xorB_len hl nonce p)
  have HZt := Lib.hid (fun m j (hj : j < 16) (x y : UInt8) (hx : p[16 * m + j]? = some x) (hy : (padB key nonce m)[j]? = some y) => xorB_take hl nonce hj hx hy)
  obtain ⟨Z, hZ⟩ : ∃ Z, xorB key nonce p = Z := ⟨_, rfl⟩
  rw [hZ] at HZl HZt ⊢
  have q0 : (p.length : Int) ≤ 65536 := by omega
  obtain ⟨Zz, hZz, hmk⟩ := mk_bytes 0 p.length (Nat.zero_le _) (by omega)
  have hmk0 : ∀ W : World, (Instr.makeSlice 28 (.int .i64 0) (.int .i64 (p.length : Int))).run Tryz.prog W = .ok (.slice (some ⟨W.heap.size, 0, none⟩) 0 p.length) (W.alloc (.cells Zz 5)) := hmk
  have HZz := Lib.hid hZz
  clear hmk hZz h hp hl hZ
  unfold ReadP
  go_enter Tryz.func37, Tryz.ntmps37
  go_wp2_with fail
  refine HB.out.mono ?_
  rintro e w1 ⟨b6, b3, ka, F, rfl, h1, h2, h3, h4, h5⟩
  have H1 := Lib.hid (And.intro h1 (And.intro h2 (And.intro h3 (And.intro h4 h5))))
  clear h1 h2 h3 h4 h5 HB
  have H2 : Hid (XorIn w (w1.alloc (.cells Zz 5)) b6 b3 ka key nonce F (some ⟨w1.heap.size, 0, none⟩) 0 p.length (Z.take 0)) := Lib.hid (by
    have hr := OwnB.room w1 HZz.out (Nat.zero_le _) (by unfold maxLen; omega)
    have hs := H1.out.2.2.2.2.size
    refine ⟨H1.out.1.fr0 HP.out.2 ((Fr.refl _ w1).alloc _), H1.out.2.1, OwnB.of_row hr.row (fun k hk => Nat.le_trans hs (hr.new k hk)) (H1.out.2.2.2.2.trans' hr.fr), fun k hk => ?_⟩
    have h6 := heap_lt H1.out.1.kp
    have h3 := heap_lt H1.out.1.np
    simp only [Value.ownBlock, Option.some.injEq] at hk
    subst hk
    exact ⟨(AKeyT.ok HP.out.2).new H1.out.1.key, by omega, by omega⟩)
  clear H1
  go_wp2_with fail
  go_loopw [2, 12] (fun s2 s12 W => ∃ (m n : Nat) (xo : Option Addr) (xc : Nat) (F : Nat → Prop), s2 = .int .i64 (16 * (m : Int)) ∧ s12 = .slice xo n xc ∧ Hid (16 * m < p.length + 16 ∧ n = min (16 * m) p.length ∧ XorIn w W b6 b3 ka key nonce F xo n xc (Z.take n))) (fun s2 _ _ => 65552 - (intOf s2).toNat)
  case atStart => exact ⟨0, 0, _, _, F, rfl, rfl, Lib.hid ⟨by omega, by omega, H2.out⟩⟩
  case round =>
    clear H2
    obtain ⟨m, n, xo, xc, F, rfl, rfl, HI⟩ := hrel
    by_cases hlt : n < p.length
    · have q1 : (n : Int) < (p.length : Int) := by omega
      have hm := HI.out.1
      have hnm : n = 16 * m := by have := HI.out.2.1; omega
      have HX := Lib.hid (show XorIn w wr b6 b3 ka key nonce F xo n xc (Z.take n) from HI.out.2.2)
      have q2 : Int.tdiv (16 * (m : Int)) 16 = (m : Int) := by rw [Int.tdiv_eq_ediv_of_nonneg (by omega)]; omega
      have q2w : wrap64 (m : Int) = (m : Int) := by unfold wrap64; omega
      have q3 : Int.tmod (16 * (m : Int)) 16 = 0 := by rw [Int.tmod_eq_emod_of_nonneg (by omega)]; omega
      have HBk := Lib.hid (blocks1_any (n := m) HX.out.pad HP.out.2 hn (by omega))
      unfold PadP at HBk
      have HNm := Lib.hid hnm
      clear HI hm hnm
      go_wp2_with fail
      refine HBk.out.mono ?_
      rintro e w5 ⟨⟨ya, yn, yc⟩, F', rfl, k1, k2, k3, k4, k5⟩
      unfold SV.val at k2 k5 ⊢
      dsimp only at k1 k2 k5 ⊢
      subst k1
      have hpb : (padB key nonce m).length = 16 := padB_len HP.out.2 nonce m
      obtain ⟨yg, yc', e, hyc, -⟩ := k2.block' (by omega)
      rw [hpb] at hyc
      simp only [Value.slice.injEq] at e
      obtain ⟨rfl, -, rfl⟩ := e
      have HX5 := Lib.hid (And.intro (HX.out.step k3 k4) (And.intro k2 (show yg ≠ b6 ∧ yg ≠ b3 ∧ ¬ F' yg ∧ ∀ k, (Value.slice xo n xc).ownBlock = some k → k ≠ yg from by
        have h5 := k5 yg rfl
        have h6 := heap_lt HX.out.pad.kp
        have h7 := heap_lt HX.out.pad.np
        exact ⟨by omega, by omega, h5.2, fun k hk e => by have := HX.out.own.lt k hk; omega⟩)))
      obtain ⟨B, hB⟩ : ∃ B, padB key nonce m = B := ⟨_, rfl⟩
      have HB := Lib.hid hB
      rw [hB] at hpb HX5
      have q4 : ¬ yc = 0 := by omega
      have q5 : (16 : Int) ≤ (yc : Int) := by omega
      obtain ⟨c, hc⟩ : ∃ c, min 16 (p.length - n) = c := ⟨_, rfl⟩
      have q6 : min 16 ((p.length : Int) - (n : Int)) = (c : Int) := by omega
      have q7 : max (c : Int) 0 = (c : Int) := by omega
      have hc16 : c ≤ 16 := by omega
      have hcl : n + c ≤ p.length := by omega
      clear k2 k3 k4 k5 HBk HX hB q2 q2w
      go_wp2_with fail
      clear q4 q5 q6 q7 q3
      have H6 := Lib.hid (show XorIn w w5 b6 b3 ka key nonce F' xo (n + 0) xc (Z.take (n + 0)) ∧ RowAt 5 ByteR w5 (.slice (some ⟨yg, 0, none⟩) 16 yc) B ∧ ∀ k, (Value.slice xo (n + 0) xc).ownBlock = some k → k ≠ yg from ⟨HX5.out.1, HX5.out.2.1, HX5.out.2.2.2.2.2⟩)
      have hyg := HX5.out.2.1.lt yg rfl
      go_loopw [12, 59] (fun s12 s59 W => ∃ (j n2 : Nat) (xo : Option Addr) (xc : Nat), j ≤ c ∧ s59 = .int .i64 j ∧ s12 = .slice xo n2 xc ∧ Hid (n2 = n + j ∧ XorIn w W b6 b3 ka key nonce F' xo n2 xc (Z.take n2) ∧ RowAt 5 ByteR W (.slice (some ⟨yg, 0, none⟩) 16 yc) B ∧ (∀ k, (Value.slice xo n2 xc).ownBlock = some k → k ≠ yg) ∧ yg < W.heap.size)) (fun _ s59 _ => 16 - (intOf s59).toNat)
      case atStart => exact ⟨0, n, xo, xc, by omega, rfl, rfl, Lib.hid ⟨rfl, H6.out.1, H6.out.2.1, H6.out.2.2, hyg⟩⟩
      case round =>
        clear H6 hyg HX5
        obtain ⟨j, n2, xo, xc, hj, rfl, rfl, HI⟩ := hrel
        by_cases hjc : j < c
        · have q2 : (j : Int) < (c : Int) := by omega
          have q3 : (0 : Int) ≤ (j : Int) := by omega
          have hn2 := HI.out.1
          have q4 : (n2 : Int) < (p.length : Int) := by omega
          have q5 : (0 : Int) ≤ (n2 : Int) := by omega
          have q6 : n2 < p.length := by omega
          have q7 : (j : Int) < 16 := by omega
          obtain ⟨pg, po', rfl, -⟩ := byte_addr HP.out.1 q6
          have y0 := byte_rd (HP.out.1.fr0 HI.out.2.1.own.fr) q6
          have hjB : j < B.length := by omega
          have y1 := (byte_at HI.out.2.2.1 hjB).1
          have hx1 := List.getElem?_eq_getElem q6
          have hx2 := List.getElem?_eq_getElem hjB
          have HT : Hid (Z.take (n2 + 1) = Z.take n2 ++ [B[j] ^^^ p[n2]]) := Lib.hid (by
            have e : n2 = 16 * m + j := by rw [hn2, HNm.out]
            have := HZt.out m j (by omega) p[n2] B[j] (by rw [← e]; exact hx1) (by rw [HB.out]; exact hx2)
            rw [← e] at this
            exact this)
          unfold byteV at y0 y1
          have HX := Lib.hid (u8x B[j] p[n2])
          generalize B[j] = b at *
          generalize p[n2] = a at *
          have HN2 := Lib.hid hn2
          clear hx1 hx2 hjB hn2
          go_wp2_with (at_builtin; apply stop_here)
          refine ⟨?_, trivial⟩
          refine wpList_app rfl _ _ rfl el_bytes (Z.take n2) [b ^^^ a] (Z.take (n2 + 1)) HT.out.symm w.heap.size n2 (n2 + 1) (by rw [List.length_take, HZl.out]; omega) rfl (HI.out.2.1.own.own' ((Fr.refl _ wr).alloc _)) rfl (RowRd.one (heap_new wr _) (b ^^^ a) (by rw [HX.out]; rfl)) rfl (by unfold maxLen; omega) (by omega) (HI.out.2.1.own.base ((Fr.refl _ wr).alloc _)) ?_
          intro ao2 cap2 w6 o6 g6 a6
          go_frame
          have HE := Lib.hid (show XorIn w w6 b6 b3 ka key nonce F' ao2 (n2 + 1) cap2 (Z.take (n2 + 1)) ∧ RowAt 5 ByteR w6 (.slice (some ⟨yg, 0, none⟩) 16 yc) B ∧ (∀ k, (Value.slice ao2 (n2 + 1) cap2).ownBlock = some k → k ≠ yg) ∧ yg < w6.heap.size from by
            have ha := (Fr.refl noBlock wr).alloc (.cells #[.int .u8 (bits .xor .u8 (b.toNat : Int) (a.toNat : Int))] 5)
            have hg := HI.out.2.1.grown HP.out.2 ha o6 (by rw [List.length_take, HZl.out]; omega) g6 a6
            have hfg : Fr (fun k => (Value.slice xo n2 xc).ownBlock = some k) wr w6 := (ha.mono (fun _ z => z.elim)).grown g6 (fun k hk => .inl hk)
            refine ⟨hg, HI.out.2.2.1.fr hfg (fun k hk e => HI.out.2.2.2.1 k e (by cases hk; rfl)), fun k hk => ?_, Nat.lt_of_lt_of_le HI.out.2.2.2.2 hfg.size⟩
            rcases a6 with a6 | a6
            · rw [a6] at hk
              exact HI.out.2.2.2.1 k hk
            · rw [a6] at hk
              cases hk
              have h1 := HI.out.2.2.2.2
              have h2 := ha.size
              omega)
          clear o6 g6 a6 y0 y1 HI
          go_wp2_with fail
          go_roundw
          case rel => exact ⟨j + 1, n2 + 1, ao2, cap2, hjc, by go_num, rfl, Lib.hid ⟨by have := HN2.out; omega, HE.out⟩⟩
          case measure => simp [intOf]; omega
        · have q2 : (c : Int) ≤ (j : Int) := by omega
          obtain rfl : j = c := by omega
          have hnm := HNm.out
          have q3 : wrap64 (16 * (m : Int) + 16) = 16 * ((m + 1 : Nat) : Int) := by unfold wrap64; omega
          have hn2 := HI.out.1
          have HE := Lib.hid (show 16 * (m + 1) < p.length + 16 ∧ n2 = min (16 * (m + 1)) p.length ∧ XorIn w wr b6 b3 ka key nonce F' xo n2 xc (Z.take n2) from ⟨by omega, by omega, HI.out.2.1⟩)
          clear HI
          go_wp2_with fail
          go_roundw
          case rel => exact ⟨m + 1, n2, xo, xc, F', by go_num, rfl, HE⟩
          case measure => simp [intOf]; omega
    · have q1 : (p.length : Int) ≤ (n : Int) := by omega
      have hnl : n = p.length := by have := HI.out.2.1; omega
      have HO := HI.out.2.2.own
      rw [List.take_of_length_le (by rw [HZl.out, hnl]; exact Nat.le_refl _)] at HO
      have HO2 := Lib.hid (And.intro HO hnl)
      clear HO HI hnl
      go_wp2_with fail
      go_ret2
      exact ⟨⟨xo, n, xc⟩, rfl, by rw [HZl.out]; exact HO2.out.2, HO2.out.1.row, HO2.out.1.fr, HO2.out.1.new⟩
end Go.Proofs.YthabllnhlhkejaaGreatDoor
namespace Go.Proofs.YthabllnhlhkejaaGreatDoor
open Go.RowKit

theorem bsize_any (n : Int) (h0 : 0 ≤ n) (h1 : n ≤ 65536) (w : World) : Calls Tryz.prog 23 #[.int .i64 n] w fun e w' => e = .returned (.int .i64 (n + 24)) ∧ w = w' := by
  have q : wrap64 (n + 24) = n + 24 := by unfold wrap64; omega
  go_enter Tryz.func23, Tryz.ntmps23
  go_wp2_with fail
  go_ret
  exact ⟨rfl, rfl⟩
theorem bkey_any {w : World} {ao : Option Addr} {key : List UInt8} (h : RowRd ByteR w ao key) (cap : Nat) (hl : key.length = 32) : Calls Tryz.prog 49 #[.slice ao key.length cap] w fun e w' => e = .returned (.bool true) ∧ Fr noBlock w w' := by
  have HN := Lib.hid (knew_any h cap hl)
  unfold KNewP at HN
  clear h hl
  go_enter Tryz.func49, Tryz.ntmps49
  go_wp2_with fail
  refine HN.out.mono ?_
  rintro e w1 ⟨ka, ko, kc, rfl, h1, h2, h3, h4, h5⟩
  have H4 := Lib.hid h4
  clear h1 h2 h3 h4 h5 HN
  go_wp2_with fail
  go_ret
  exact ⟨rfl, H4.out⟩
/-- the laws' master key -/
def masterB : List UInt8 := [48, 49, 50, 51, 52, 53, 54, 55, 56, 57, 97, 98, 99, 100, 101, 102]
set_option maxRecDepth 100000 in
set_option maxHeartbeats 1600000 in
theorem master_any (w : World) : Calls Tryz.prog 16 #[] w fun e w' => ∃ g, e = .returned (.slice (some ⟨g, 0, none⟩) masterB.length 16) ∧ RowRd ByteR w' (some ⟨g, 0, none⟩) masterB ∧ Fr noBlock w w' ∧ w.heap.size ≤ g := by
  have kc := fun (W : World) (C : Array Value) (n c : Nat) => Lib.run_convert_bytes_const (P := Tryz.prog) W 28 5 C n c Tryz.underlying28 Tryz.underlying5
  go_enter Tryz.func16, Tryz.ntmps16
  go_wp2_with fail
  go_ret
  exact ⟨w.heap.size, rfl, RowRd.of_flat (heap_new w _) rfl (by unfold maxLen; simp [masterB]), (Fr.refl noBlock w).alloc _, Nat.le_refl _⟩
end Go.Proofs.YthabllnhlhkejaaGreatDoor
namespace Go.Proofs.YthabllnhlhkejaaGreatDoor
open Go.RowKit

theorem PartsRd.cons {w : World} {s : SV} {p : Bs} {ss : List SV} {ps : List Bs} (hn : s.n = p.length) (hr : RowRd ByteR w s.ao p) (h : PartsRd w ss ps) : PartsRd w (s :: ss) (p :: ps) := by
  refine ⟨by rw [List.length_cons, List.length_cons, h.1], fun i s' p' a b => ?_⟩
  cases i with
  | zero =>
    simp only [List.getElem?_cons_zero, Option.some.injEq] at a b
    subst a b
    exact ⟨hn, hr⟩
  | succ i =>
    rw [List.getElem?_cons_succ] at a b
    exact h.2 i s' p' a b
theorem PartsRd.nil (w : World) : PartsRd w [] [] := ⟨rfl, fun i s p a _ => by simp at a⟩
theorem own2 (w : World) (s t : SV) : (w.alloc (.cells #[s.val, t.val] 28)).ownsRow 0 28 SliceR.k (.slice (some ⟨w.heap.size, 0, none⟩) 2 2) 2 (SliceR.flat [s, t]) :=
  RowAt.of_block (xs := [s, t]) (heap_new w _) (Nat.le_refl _) (by unfold maxLen; simp) rfl rfl
theorem parts_at {w : World} {b o : Nat} {ss : List SV} {ps : List Bs} (hr : RowRd SliceR w (some ⟨b, o, none⟩) ss) (hp : PartsRd w ss ps) : Lib.PartsAt w ⟨b, o, none⟩ (ss.map SV.val) ps := by
  refine ⟨by rw [List.length_map, hp.1], fun i v h => ?_, fun i v l h1 h2 => ?_⟩
  · rw [List.getElem?_map] at h
    obtain ⟨s, hs, rfl⟩ := Option.map_eq_some_iff.1 h
    have hi := (List.getElem?_eq_some_iff.1 hs).1
    obtain ⟨b', o', e, _, h3⟩ := hr.at' i hi
    cases e
    have := h3 0 s.val (by rw [(List.getElem?_eq_some_iff.1 hs).2]; rfl)
    rw [Addr.add_lit]
    have e1 : SliceR.k = 1 := rfl
    rw [e1, Nat.mul_one, Nat.add_zero] at this
    exact this
  · rw [List.getElem?_map] at h1
    obtain ⟨s, hs, rfl⟩ := Option.map_eq_some_iff.1 h1
    obtain ⟨hn, hrd⟩ := hp.2 i s l hs h2
    refine ⟨s.ao, s.cap, by unfold SV.val; rw [hn], fun e => ?_, fun a e j x hx => ?_⟩
    · cases l with
      | nil => rfl
      | cons y l => obtain ⟨b', o', e', _⟩ := hrd.at' 0 (by simp); rw [e] at e'; cases e'
    · have hj := (List.getElem?_eq_some_iff.1 hx).1
      obtain ⟨b', o', e', _⟩ := hrd.at' j hj
      rw [e] at e'
      cases e'
      rw [e] at hrd
      rw [Addr.add_lit, byte_rd hrd hj, (List.getElem?_eq_some_iff.1 hx).2]
theorem fresh_rd {B : Nat} {w : World} {v : Value} {l : List UInt8} (h : Lib.FreshBytes B w v l) : ∃ (g cap : Nat), v = .slice (some ⟨g, 0, none⟩) l.length cap ∧ B ≤ g ∧ l.length ≤ cap ∧ RowRd ByteR w (some ⟨g, 0, none⟩) l := by
  obtain ⟨g, cap, zs, hv, hB, hc, hm, hz, hx, hb, hcell, _⟩ := h
  refine ⟨g, cap, hv, hB, hc, ⟨by omega, fun i hi => ⟨g, 0, rfl, World.block_lt_of_cell? _ _ (hcell i (by omega)), fun j u hu => ?_⟩⟩⟩
  have hj : j = 0 := by
    have := (List.getElem?_eq_some_iff.1 hu).1
    rw [ByteR.len] at this
    have e : ByteR.k = 1 := byteK
    omega
  subst hj
  rw [byteK, Nat.mul_one, Nat.zero_add, Nat.add_zero, hcell i (by omega)]
  have hu2 : u = byteV l[i] := (Option.some.inj hu).symm
  rw [hu2]
  have hiz : i < zs.length := by omega
  have e : l[i]? = some (UInt8.ofNat (zs.getD i 0).toNat) := by
    rw [← hb]
    unfold Go.Lib.bytesOf
    rw [List.getElem?_map, List.getElem?_take, if_pos (by omega), List.getD_eq_getElem?_getD, List.getElem?_eq_getElem hiz]
    rfl
  rw [List.getElem?_eq_getElem hi] at e
  rw [Option.some.inj e]
  obtain ⟨h0, h1⟩ := hx zs[i] (List.getElem_mem hiz)
  have hd : zs.getD i 0 = zs[i] := by rw [List.getD_eq_getElem?_getD, List.getElem?_eq_getElem hiz]; rfl
  rw [hd]
  unfold byteV
  rw [UInt8.toNat_ofNat']
  congr 2
  omega
/-- a row of bytes that is only read, in a new block -/
def TagP (x : List UInt8) (w : World) (e : Ending) (w' : World) : Prop := ∃ s : SV, e = .returned s.val ∧ s.n = x.length ∧ RowRd ByteR w' s.ao x ∧ Fr noBlock w w'
set_option maxRecDepth 100000 in
set_option maxHeartbeats 1600000 in
theorem tagged_any {w : World} {to_ bo qa : Option Addr} {tag about : List UInt8} {ss : List SV} {ps : List Bs} (ht : RowRd ByteR w to_ tag) (tc : Nat) (htl : tag.length ≤ 1000000) (hb : RowRd ByteR w bo about) (bc : Nat) (hbl : about.length ≤ 1000000) (hr : RowRd SliceR w qa ss) (hp : PartsRd w ss ps) (qc : Nat) (hpl : ps.flatten.length ≤ 1000000) (hps : ps.length ≤ 1000) :
    Calls Tryz.prog 40 #[.slice to_ tag.length tc, .slice bo about.length bc, .slice qa ps.length qc] w (TagP (tagB tag about ps.flatten) w) := by
  have H8 := Lib.hid (fun W => beight_any about.length (by omega) W)
  unfold ShaP at H8
  have HR := Lib.hid (And.intro hr hp)
  have HB := Lib.hid hb
  have HT := Lib.hid (And.intro ht htl)
  have hsl := hp.1
  have HPl := Lib.hid (And.intro hpl hsl)
  clear hr hp hb ht htl hpl hsl
  unfold TagP
  go_enter Tryz.func40, Tryz.ntmps40
  have hla := HB.out.len
  go_wp2_with (first | (refine (H8.out _).mono ?_; rintro e w1 ⟨⟨ea, en, ec⟩, rfl, h1, h2, h3, h4⟩; unfold SV.val at h2 h4 ⊢; dsimp only at h1 h2 h4 ⊢; rw [be8_len] at h1; subst h1; have H1 := Lib.hid (And.intro h2 h3); clear h2 h3 h4) | (at_builtin; apply stop_here))
  refine ⟨?_, trivial⟩
  obtain ⟨S, hS⟩ : ∃ S : List SV, [(⟨ea, 8, ec⟩ : SV), ⟨bo, about.length, bc⟩] = S := ⟨_, rfl⟩
  have ha := (Fr.refl noBlock w1).alloc (.cells #[.slice ea 8 ec, .slice bo about.length bc] 28)
  have ho := own2 w1 ⟨ea, 8, ec⟩ ⟨bo, about.length, bc⟩
  rw [hS] at ho
  have hS2 : S.length = 2 := by rw [← hS]; rfl
  have hpn := HPl.out.2
  refine wpList_app rfl _ _ rfl el_rows (v := .slice (some ⟨w1.heap.size, 0, none⟩) 2 2) S ss (S ++ ss) rfl 0 2 (2 + ps.length) (by rw [List.length_append, hS2, hpn]) rfl ho rfl (HR.out.1.fr0 (H1.out.2.trans' ha)) hpn.symm (by unfold maxLen; omega) (by omega) (Nat.zero_le _) ?_
  intro ao2 cap2 w5 o5 g5 a5
  go_frame
  have hf5 : Fr noBlock w w5 := (H1.out.2.trans' ha).grown g5 (fun k hk => by cases hk; exact .inr H1.out.2.size)
  have hf51 : Fr noBlock w1 w5 := ha.grown g5 (fun k hk => by cases hk; exact .inr (Nat.le_refl _))
  have HM := Lib.hid (show Calls Tryz.prog 65 #[.slice to_ tag.length tc, .slice ao2 (2 + ps.length) cap2] w5 (ShaP (mac tag (be8 about.length ++ about ++ ps.flatten)) w5) from by
    have hrow : RowAt 28 SliceR w5 (.slice ao2 (2 + ps.length) cap2) (S ++ ss) := RowAt.of_own o5 (by rw [List.length_append, hS2, hpn])
    have hpar : PartsRd w5 (S ++ ss) (be8 about.length :: about :: ps) := by
      rw [← hS]
      exact PartsRd.cons (be8_len _).symm ((RowAt.rd H1.out.1).fr0 hf51) (PartsRd.cons rfl (HB.out.fr0 hf5) (HR.out.2.fr0 hf5))
    have h := mac_any (HT.out.1.fr0 hf5) tc (by have := HT.out.2; omega) hrow.rd hpar cap2 (by
      have h1 := HPl.out.1
      simp only [List.flatten_cons, List.length_append, be8_len]
      omega) (by simp only [List.length_cons]; omega)
    have e : (be8 about.length :: about :: ps).length = 2 + ps.length := by simp only [List.length_cons]; omega
    rw [e] at h
    have e2 : (be8 about.length :: about :: ps).flatten = be8 about.length ++ about ++ ps.flatten := by simp only [List.flatten_cons, List.append_assoc]
    rw [e2] at h
    exact h)
  unfold ShaP at HM
  have HF5 := Lib.hid hf5
  clear o5 g5 a5 hf5 hf51 ha ho
  go_wp2_with fail
  refine HM.out.mono ?_
  rintro e w6 ⟨⟨xa, xn, xc⟩, rfl, k1, k2, k3, k4⟩
  unfold SV.val at k2 k4 ⊢
  dsimp only at k1 k2 k4 ⊢
  rw [mac_len] at k1
  subst k1
  have hxc := RowAt.room k2
  have q1 : (16 : Int) ≤ (xc : Int) := by omega
  have H6 := Lib.hid (And.intro k2 (HF5.out.trans' k3))
  clear k2 k3 k4 HM
  go_wp2_with fail
  go_ret
  exact ⟨⟨xa, 16, xc⟩, rfl, (tagB_len _ _ _).symm, (RowAt.rd H6.out.1).takeN 16, H6.out.2⟩
def SealP (x : List UInt8) (w : World) (e : Ending) (w' : World) : Prop := ∃ s : SV, e = .returned (.tuple #[s.val, .int .i64 0]) ∧ s.n = x.length ∧ RowRd ByteR w' s.ao x ∧ Fr noBlock w w'
set_option maxRecDepth 100000 in
set_option maxHeartbeats 1600000 in
theorem seal_any {w : World} {eo to_ bo po : Option Addr} {enc tag about p : List UInt8} (he : RowRd ByteR w eo enc) (ec : Nat) (hel : enc.length = 32) (ht : RowRd ByteR w to_ tag) (tc : Nat) (htl : tag.length ≤ 1000000) (nonce : Nat) (hn : nonce < 9223372036854775808)
    (hb : RowRd ByteR w bo about) (bc : Nat) (hbl : about.length ≤ 1000000) (hp : RowRd ByteR w po p) (pc : Nat) (hpl : p.length ≤ 65536) :
    Calls Tryz.prog 19 #[.slice eo enc.length ec, .slice to_ tag.length tc, .int .i64 (nonce : Int), .slice bo about.length bc, .slice po p.length pc] w (SealP (sealB enc tag nonce about p) w) := by
  have HX := Lib.hid (xor_any he ec hel nonce hn hp pc hpl)
  unfold ReadP at HX
  have H8 := Lib.hid (fun W => beight_any nonce hn W)
  unfold ShaP at H8
  have HB := Lib.hid (And.intro hb hbl)
  have HT := Lib.hid (And.intro ht htl)
  have HZl := Lib.hid (xorB_len hel nonce p)
  obtain ⟨Z, hZ⟩ : ∃ Z, xorB enc nonce p = Z := ⟨_, rfl⟩
  rw [hZ] at HX HZl
  have HS := Lib.hid (show sealB enc tag nonce about p = (be8 nonce ++ Z) ++ tagB tag about (be8 nonce ++ Z) by unfold sealB; rw [hZ])
  have HPl := Lib.hid hpl
  clear he hel ht htl hb hbl hp hpl hZ
  unfold SealP
  go_enter Tryz.func19, Tryz.ntmps19
  go_wp2_with fail
  refine HX.out.mono ?_
  rintro e w1 ⟨⟨ca, cn, cc⟩, rfl, h1, h2, h3, h4⟩
  unfold SV.val at h2 h4 ⊢
  dsimp only at h1 h2 h4 ⊢
  have H1 := Lib.hid (And.intro (RowAt.rd h2) h3)
  have HCn := Lib.hid h1
  subst h1
  clear h2 h3 h4 HX
  go_wp2_with fail
  refine (H8.out _).mono ?_
  rintro e w2 ⟨⟨ea, en, ec2⟩, rfl, h1, h2, h3, h4⟩
  unfold SV.val at h2 h4 ⊢
  dsimp only at h1 h2 h4 ⊢
  rw [be8_len] at h1
  subst h1
  have H2 := Lib.hid (And.intro (RowAt.rd h2) (And.intro (H1.out.1.fr0 h3) (H1.out.2.trans' h3)))
  clear h2 h3 h4 H8
  have HG := Lib.hid (show Calls Tryz.prog 40 #[.slice to_ tag.length tc, .slice bo about.length bc, .slice (some ⟨w2.heap.size, 0, none⟩) 2 2] (w2.alloc (.cells #[.slice ea 8 ec2, .slice ca Z.length cc] 28)) (TagP (tagB tag about (be8 nonce ++ Z)) (w2.alloc (.cells #[.slice ea 8 ec2, .slice ca Z.length cc] 28))) from by
    have ha := (Fr.refl noBlock w2).alloc (.cells #[.slice ea 8 ec2, .slice ca Z.length cc] 28)
    have hr : RowRd SliceR (w2.alloc (.cells #[.slice ea 8 ec2, .slice ca Z.length cc] 28)) (some ⟨w2.heap.size, 0, none⟩) [(⟨ea, 8, ec2⟩ : SV), ⟨ca, Z.length, cc⟩] := RowRd.of_flat (heap_new w2 _) rfl (by unfold maxLen; simp)
    have hp : PartsRd (w2.alloc (.cells #[.slice ea 8 ec2, .slice ca Z.length cc] 28)) [(⟨ea, 8, ec2⟩ : SV), ⟨ca, Z.length, cc⟩] [be8 nonce, Z] := PartsRd.cons (be8_len _).symm (H2.out.1.fr0 ha) (PartsRd.cons rfl (H2.out.2.1.fr0 ha) (PartsRd.nil _))
    have hf := H2.out.2.2.trans' ha
    have h := tagged_any (HT.out.1.fr0 hf) tc HT.out.2 (HB.out.1.fr0 hf) bc HB.out.2 hr hp 2 (by
      have h1 := HPl.out
      have h2 := HZl.out
      simp only [List.flatten_cons, List.flatten_nil, List.length_append, be8_len, List.length_nil]
      omega) (by simp)
    have e2 : [be8 nonce, Z].flatten = be8 nonce ++ Z := by simp
    rw [e2] at h
    exact h)
  unfold TagP at HG
  go_wp2_with fail
  refine HG.out.mono ?_
  rintro e w3 ⟨⟨ta, tn, tc2⟩, rfl, h1, h2, h3⟩
  unfold SV.val
  dsimp only at h1 h2 ⊢
  rw [tagB_len] at h1
  subst h1
  have hf3 : Fr noBlock w2 w3 := ((Fr.refl noBlock w2).alloc _).trans' h3
  have HJ := Lib.hid (show Calls Tryz.prog 39 #[.slice (some ⟨w3.heap.size, 0, none⟩) 3 3, .slice none 0 0] (w3.alloc (.cells #[.slice ea 8 ec2, .slice ca Z.length cc, .slice ta 16 tc2] 28)) (fun e w' => ∃ v', e = .returned v' ∧ Lib.FreshBytes (w3.heap.size + 1) w' v' ((be8 nonce ++ Z) ++ tagB tag about (be8 nonce ++ Z)) ∧ Fr noBlock (w3.alloc (.cells #[.slice ea 8 ec2, .slice ca Z.length cc, .slice ta 16 tc2] 28)) w') from by
    have ha := (Fr.refl noBlock w3).alloc (.cells #[.slice ea 8 ec2, .slice ca Z.length cc, .slice ta 16 tc2] 28)
    have hr : RowRd SliceR (w3.alloc (.cells #[.slice ea 8 ec2, .slice ca Z.length cc, .slice ta 16 tc2] 28)) (some ⟨w3.heap.size, 0, none⟩) [(⟨ea, 8, ec2⟩ : SV), ⟨ca, Z.length, cc⟩, ⟨ta, 16, tc2⟩] := RowRd.of_flat (heap_new w3 _) rfl (by unfold maxLen; simp)
    have hp : PartsRd (w3.alloc (.cells #[.slice ea 8 ec2, .slice ca Z.length cc, .slice ta 16 tc2] 28)) [(⟨ea, 8, ec2⟩ : SV), ⟨ca, Z.length, cc⟩, ⟨ta, 16, tc2⟩] [be8 nonce, Z, tagB tag about (be8 nonce ++ Z)] :=
      PartsRd.cons (be8_len _).symm ((H2.out.1.fr0 hf3).fr0 ha) (PartsRd.cons rfl ((H2.out.2.1.fr0 hf3).fr0 ha) (PartsRd.cons (tagB_len _ _ _).symm (h2.fr0 ha) (PartsRd.nil _)))
    have h := Tryz.bytes_Join_many w3.heap.size 0 3 3 _ [be8 nonce, Z, tagB tag about (be8 nonce ++ Z)] (.slice none 0 0) [] _ rfl (by omega) (parts_at hr hp) (Nat.le_refl _) ⟨none, 0, rfl, fun _ => rfl, fun a e => by cases e⟩ (by omega) (by
      have h1 := HPl.out
      have h2 := HZl.out
      simp [Lib.lens, be8_len, tagB_len]
      omega)
    have e2 : Lib.join [be8 nonce, Z, tagB tag about (be8 nonce ++ Z)] [] = (be8 nonce ++ Z) ++ tagB tag about (be8 nonce ++ Z) := by
      rw [Lib.join_cons]
      simp [Lib.joinTail]
    rw [e2] at h
    refine h.mono ?_
    rintro e w' ⟨v', rfl, h1, h2⟩
    exact ⟨v', rfl, by simpa using h1, Fr.of_below h2⟩)
  have HF3 := Lib.hid (H2.out.2.2.trans' hf3)
  clear h2 h3 hf3 HG
  go_wp2_with fail
  refine HJ.out.mono ?_
  rintro e w4 ⟨v', rfl, h1, h2⟩
  obtain ⟨g, cap, rfl, -, -, hrd⟩ := fresh_rd h1
  have H4 := Lib.hid (And.intro hrd (HF3.out.trans' (((Fr.refl noBlock w3).alloc _).trans' h2)))
  obtain ⟨x, hx⟩ : ∃ x, (be8 nonce ++ Z) ++ tagB tag about (be8 nonce ++ Z) = x := ⟨_, rfl⟩
  rw [hx] at HS H4 ⊢
  clear h1 h2 HJ hrd hx
  go_wp2_with fail
  go_ret2
  exact ⟨⟨some ⟨g, 0, none⟩, x.length, cap⟩, rfl, by rw [HS.out], by rw [HS.out]; exact H4.out.1, H4.out.2⟩
end Go.Proofs.YthabllnhlhkejaaGreatDoor
