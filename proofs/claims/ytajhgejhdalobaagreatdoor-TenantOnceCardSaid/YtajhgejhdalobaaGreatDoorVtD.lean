/-
  THE WALKS of vault.New and cipher.
-/
import Derived.StillTailTactics
import Derived.Test.YtajhgejhdalobaaGreatDoorVtA
import Derived.Test.YtajhgejhdalobaaGreatDoorFxD
namespace Go.Proofs.YtajhgejhdalobaaGreatDoor
open Go.RowKit

def FNewP (key tl : Bs) (w : World) (e : Ending) (w' : World) : Prop := ∃ (cb : Nat) (F : Nat → Prop), e = .returned (.tuple #[.pointer (some ⟨cb, 0, none⟩), .int .i64 0]) ∧ CipT cb key tl w' F ∧ Fr noBlock w w' ∧ ∀ k, F k → w.heap.size ≤ k
set_option maxRecDepth 100000 in
set_option maxHeartbeats 1600000 in
theorem fnew_any {w : World} {ko to_ : Option Addr} {key tl : Bs} (hk : RowRd ByteR w ko key) (kc : Nat) (hl : key.length = 32) (ht : RowRd ByteR w to_ tl) (tc : Nat) (htl : tl.length = 10) : Calls Tryz.prog 217 #[.slice ko key.length kc, .slice to_ tl.length tc] w (FNewP key tl w) := by
  have HN := Lib.hid (knew_any hk kc hl)
  unfold KNewP at HN
  have HC := Lib.hid (fun (W : World) (hW : Fr noBlock w W) => clone_any (ht.fr0 hW) tc (by omega))
  unfold CloneP at HC
  have HL := Lib.hid (And.intro hl htl)
  have q1 : (tl.length : Int) ≤ 16 := by omega
  clear hk ht hl htl
  unfold FNewP
  go_enter Tryz.func217, Tryz.ntmps217
  go_wp2_with fail
  refine HN.out.mono ?_
  rintro e w1 ⟨ka, ra, rc, rfl, h1, h2, h3, h4, h5⟩
  have H1 := Lib.hid (And.intro h1 (And.intro h2 (And.intro h3 (And.intro h4 h5))))
  have HC1 := Lib.hid (HC.out _ h4)
  clear h1 h2 h3 h4 h5 HN HC
  go_wp2_with fail
  refine HC1.out.mono ?_
  rintro e w2 ⟨⟨xa, xn, xc⟩, rfl, k1, k2, k3, k4⟩
  unfold SV.val at k2 k4 ⊢
  dsimp only at k1 k2 k4 ⊢
  have HX := Lib.hid k1
  subst k1
  have H2 := Lib.hid (And.intro k2 (And.intro k3 k4))
  clear k2 k3 k4 HC1
  go_wp2_with fail
  go_ret2
  obtain ⟨h1, h2, h3, h4, h5⟩ := H1.out
  obtain ⟨k2, k3, k4⟩ := H2.out
  obtain ⟨tg, e, -⟩ := k2.elem (i := 0) (by have := HL.out.2; omega)
  subst e
  have hkl := heap_lt h1
  have htg := k4 tg rfl
  have htl := k2.lt tg rfl
  have hra := h3 (by have := HL.out.1; omega)
  have ha := (Fr.refl noBlock w2).alloc (.cells #[.pointer (some ⟨ka, 0, none⟩), .slice (some ⟨tg, 0, none⟩) tl.length xc] 358)
  have hral : ∀ a, ra = some a → a.block < w1.heap.size := fun a e => by
    obtain ⟨b, off, e', hb, _⟩ := h2.at' 0 (by have := HL.out.1; omega)
    rw [e] at e'
    cases e'
    exact hb
  refine ⟨w2.heap.size, rfl, fun k => k = w2.heap.size ∨ k = tg ∨ (k = ka ∨ ∃ a, ra = some a ∧ a.block = k), ⟨ka, tg, xc, fun k => k = ka ∨ ∃ a, ra = some a ∧ a.block = k, heap_new w2 _, .inl ⟨ra, rc, (k3.trans' ha).obj h1 (fun z => z), h2.fr0 (k3.trans' ha), fun a e => (hra a e).1, fun _ => Iff.rfl⟩, (RowAt.rd k2).fr0 ha, by have := ha.size; omega, by omega, ?_, ?_, fun _ => Iff.rfl⟩, (h4.trans' k3).trans' ha, ?_⟩
  · rintro (h | ⟨a, e, h⟩)
    · omega
    · have := hral a e; omega
  · rintro (h | ⟨a, e, h⟩)
    · have := k3.size; omega
    · have := hral a e; have := k3.size; omega
  · have := k3.size
    have := h4.size
    rintro k (rfl | rfl | rfl | ⟨a, e, rfl⟩)
    · omega
    · omega
    · exact h5
    · exact (hra a e).2
theorem pow5 {n k : Nat} (h9 : n ≤ 9) (hk : k ≤ 20) : 10 ^ halfN n k ≤ 100000 := by
  have h5 : halfN n k ≤ 5 := by unfold halfN; omega
  exact Nat.pow_le_pow_right (by decide) h5
theorem half_range {n k : Nat} (h6 : 6 ≤ n) (h9 : n ≤ 9) : 1 ≤ halfN n k ∧ halfN n k ≤ 16 := by unfold halfN; omega
def FCryP (x : Bs) (cb : Nat) (key tl : Bs) (F : Nat → Prop) (w : World) (e : Ending) (w' : World) : Prop := e = .returned (.tuple #[.string (strB x), .int .i64 0]) ∧ ∃ F', CipT cb key tl w' F' ∧ Step F F' w w'
set_option maxRecDepth 100000 in
set_option maxHeartbeats 1600000 in
theorem fenc_any {w : World} {F : Nat → Prop} {cb : Nat} {key tl : Bs} (h : CipT cb key tl w F) (hl : key.length = 32) (ht : tl.length = 10) (s : ByteArray) (hd : (bl s).all isDig = true) (h6 : 6 ≤ s.size) (h9 : s.size ≤ 9) :
    Calls Tryz.prog 174 #[.pointer (some ⟨cb, 0, none⟩), .string s] w (FCryP (ffxE (maskK key tl) (bl s)) cb key tl F w) := by
  have HH := Lib.hid (fun W => halves_ok s hd h6 (by omega) W)
  obtain ⟨s0, hs0⟩ : ∃ x, halvesB (bl s) = x := ⟨_, rfl⟩
  have hlt := halves_lt hd
  rw [bl_len] at hlt
  rw [hs0] at HH hlt
  obtain ⟨n, hn⟩ : ∃ n, s.size = n := ⟨_, rfl⟩
  have HX := Lib.hid (show ffxE (maskK key tl) (bl s) = joinB n (fxE (maskK key tl n) n 10 s0) by unfold ffxE; rw [bl_len, hs0, hn])
  rw [hn] at hlt h6 h9
  have HJ := Lib.hid (fun (a b : Nat) (ha : a < 10 ^ (n / 2)) (hb : b < 10 ^ (n - n / 2)) (W : World) => join_ok n a b h6 (by omega) ha hb W)
  obtain ⟨M, hM⟩ : ∃ M, maskK key tl n = M := ⟨_, rfl⟩
  have HF := Lib.hid (show ∀ k, (fxE M n k s0).1 < 10 ^ halfN n k ∧ (fxE M n k s0).2 < 10 ^ halfN n (k + 1) from fun k => fxE_lt M n k hlt.1 hlt.2)
  have HMl := Lib.hid (show ∀ i b, M i b < 10 ^ halfN n i from fun i b => by rw [← hM]; exact maskK_lt key tl n i b)
  have HMk := Lib.hid (show ∀ (W : World) (F : Nat → Prop) (i b : Nat), CipT cb key tl W F → i < 10 → b < 100000 → Calls Tryz.prog 221 #[.pointer (some ⟨cb, 0, none⟩), .int .i64 (n : Int), .int .i64 (i : Int), .int .i64 (b : Int)] W fun e w' => e = .returned (.int .i64 (M i b : Int)) ∧ ∃ F', CipT cb key tl w' F' ∧ Step F F' W w' from fun W F i b hc hi hb => by
    rw [← hM]
    exact mask_any hc hl ht h6 h9 hi (by omega))
  rw [hM] at HX
  have HC := Lib.hid h
  have HL := Lib.hid hl
  have HN := Lib.hid (And.intro h6 h9)
  clear h hl ht hd hs0 hlt hM h6 h9
  unfold FCryP
  go_enter Tryz.func174, Tryz.ntmps174
  rw [← hn] at *
  go_wp2_with fail
  refine (HH.out _).mono ?_
  rintro e w1 ⟨rfl, rfl⟩
  go_wp2_with fail
  go_loopw [6, 7, 10, 22] (fun s6 s7 s10 s22 W => ∃ k a b : Nat, k ≤ 10 ∧ s22 = .int .i64 k ∧ s6 = .int .i64 a ∧ s7 = .int .i64 b ∧ Hid (fxE M s.size k s0 = (a, b)) ∧ Hid (∃ F', CipT cb key tl W F' ∧ Step F F' w W)) (fun _ _ _ s22 _ => 10 - (intOf s22).toNat)
  case atStart => exact ⟨0, s0.1, s0.2, by omega, rfl, rfl, rfl, Lib.hid rfl, Lib.hid ⟨F, HC.out, Step.refl F w⟩⟩
  case round =>
    obtain ⟨k, a, b, hk, rfl, rfl, rfl, HE, HT⟩ := hrel
    have hb5 := HF.out k
    rw [HE.out] at hb5
    have HB := Lib.hid hb5
    by_cases hk10 : k < 10
    · have q1 : (k : Int) < 10 := by omega
      obtain ⟨F1, t1, t2⟩ := HT.out
      have HMm := Lib.hid (HMk.out wr F1 k b t1 hk10 (Nat.lt_of_lt_of_le HB.out.2 (pow5 HN.out.2 (by omega))))
      have HT2 := Lib.hid t2
      have hr := half_range (k := k) HN.out.1 HN.out.2
      have HHl := Lib.hid (fun W => half_any s.size k (by have := HN.out.2; omega) (by omega) W)
      have HA := Lib.hid (fun W => radd_ok hr.1 hr.2 HB.out.1 (HMl.out k b) W)
      have HS := Lib.hid (show fxE M s.size (k + 1) s0 = (b, (a + M k b) % 10 ^ halfN s.size k) by
        show ((fxE M s.size k s0).2, ((fxE M s.size k s0).1 + M k (fxE M s.size k s0).2) % 10 ^ halfN s.size k) = _
        rw [HE.out])
      obtain ⟨hf, hhf⟩ : ∃ x, halfN s.size k = x := ⟨_, rfl⟩
      rw [hhf] at HHl HA HS
      obtain ⟨mk, hmk⟩ : ∃ x, M k b = x := ⟨_, rfl⟩
      rw [hmk] at HMm HA HS
      obtain ⟨a2, ha2⟩ : ∃ x, (a + mk) % 10 ^ hf = x := ⟨_, rfl⟩
      rw [ha2] at HA HS
      clear t1 t2 HT hb5 hhf hmk ha2 hr
      go_wp2_with fail
      refine HMm.out.mono ?_
      rintro e w2 ⟨rfl, F2, t1, t2⟩
      have H2 := Lib.hid (And.intro t1 (HT2.out.trans t2))
      clear t1 t2 HMm HT2
      go_wp2_with fail
      refine (HHl.out _).mono ?_
      rintro e w3 ⟨rfl, rfl⟩
      go_wp2_with fail
      refine (HA.out _).mono ?_
      rintro e w3 ⟨rfl, f3⟩
      have H3 := Lib.hid (show ∃ F', CipT cb key tl w3 F' ∧ Step F F' w w3 from ⟨F2, (CipT.ok HL.out).fr0 H2.out.1 f3, H2.out.2.trans (Step.same f3)⟩)
      clear f3 HA HHl H2
      go_wp2_with fail
      go_roundw
      case rel => exact ⟨k + 1, b, a2, hk10, by go_num, rfl, rfl, HS, H3⟩
      case measure => simp [intOf]; omega
    · obtain rfl : k = 10 := by omega
      have HJj := Lib.hid (show ∀ W, Calls Tryz.prog _ _ W _ from fun W => HJ.out a b (by rw [← half0]; exact HB.out.1) (by rw [← half1]; exact HB.out.2) W)
      go_wp2_with fail
      refine (HJj.out _).mono ?_
      rintro e w2 ⟨rfl, f2⟩
      have H2 := Lib.hid f2
      clear f2 hb5
      go_wp2_with fail
      go_ret2
      obtain ⟨F1, t1, t2⟩ := HT.out
      exact ⟨by rw [HX.out, HE.out]; rfl, F1, (CipT.ok HL.out).fr0 t1 H2.out, t2.trans (Step.same H2.out)⟩
set_option maxRecDepth 100000 in
set_option maxHeartbeats 1600000 in
theorem fdec_any {w : World} {F : Nat → Prop} {cb : Nat} {key tl : Bs} (h : CipT cb key tl w F) (hl : key.length = 32) (ht : tl.length = 10) (s : ByteArray) (hd : (bl s).all isDig = true) (h6 : 6 ≤ s.size) (h9 : s.size ≤ 9) :
    Calls Tryz.prog 157 #[.pointer (some ⟨cb, 0, none⟩), .string s] w (FCryP (ffxD (maskK key tl) (bl s)) cb key tl F w) := by
  have HH := Lib.hid (fun W => halves_ok s hd h6 (by omega) W)
  obtain ⟨s0, hs0⟩ : ∃ x, halvesB (bl s) = x := ⟨_, rfl⟩
  have hlt := halves_lt hd
  rw [bl_len] at hlt
  rw [hs0] at HH hlt
  obtain ⟨n, hn⟩ : ∃ n, s.size = n := ⟨_, rfl⟩
  have HX := Lib.hid (show ffxD (maskK key tl) (bl s) = joinB n (fxD (maskK key tl n) n 10 s0) by unfold ffxD; rw [bl_len, hs0, hn])
  rw [hn] at hlt h6 h9
  have HJ := Lib.hid (fun (a b : Nat) (ha : a < 10 ^ (n / 2)) (hb : b < 10 ^ (n - n / 2)) (W : World) => join_ok n a b h6 (by omega) ha hb W)
  obtain ⟨M, hM⟩ : ∃ M, maskK key tl n = M := ⟨_, rfl⟩
  have HS0 := Lib.hid (show s0.1 < 10 ^ halfN n 10 ∧ s0.2 < 10 ^ halfN n 11 from hlt)
  have HMl := Lib.hid (show ∀ i b, M i b < 10 ^ halfN n i from fun i b => by rw [← hM]; exact maskK_lt key tl n i b)
  have HMk := Lib.hid (show ∀ (W : World) (F : Nat → Prop) (i b : Nat), CipT cb key tl W F → i < 10 → b < 100000 → Calls Tryz.prog 221 #[.pointer (some ⟨cb, 0, none⟩), .int .i64 (n : Int), .int .i64 (i : Int), .int .i64 (b : Int)] W fun e w' => e = .returned (.int .i64 (M i b : Int)) ∧ ∃ F', CipT cb key tl w' F' ∧ Step F F' W w' from fun W F i b hc hi hb => by
    rw [← hM]
    exact mask_any hc hl ht h6 h9 hi (by omega))
  rw [hM] at HX
  have HC := Lib.hid h
  have HL := Lib.hid hl
  have HN := Lib.hid (And.intro h6 h9)
  clear h hl ht hd hs0 hlt hM h6 h9
  unfold FCryP
  go_enter Tryz.func157, Tryz.ntmps157
  rw [← hn] at *
  go_wp2_with fail
  refine (HH.out _).mono ?_
  rintro e w1 ⟨rfl, rfl⟩
  go_wp2_with fail
  go_loopw [6, 7, 10] (fun s6 s7 s10 W => ∃ (k a b : Nat) (z : Int), k ≤ 10 ∧ z = (k : Int) - 1 ∧ s10 = .int .i64 z ∧ s6 = .int .i64 a ∧ s7 = .int .i64 b ∧ Hid (fxD M s.size k (a, b) = fxD M s.size 10 s0 ∧ a < 10 ^ halfN s.size k ∧ b < 10 ^ halfN s.size (k + 1)) ∧ Hid (∃ F', CipT cb key tl W F' ∧ Step F F' w W)) (fun _ _ s10 _ => (intOf s10 + 1).toNat)
  case atStart => exact ⟨10, s0.1, s0.2, 9, by omega, rfl, rfl, rfl, rfl, Lib.hid ⟨rfl, HS0.out⟩, Lib.hid ⟨F, HC.out, Step.refl F w⟩⟩
  case round =>
    obtain ⟨k, a, b, z, hk, hz, rfl, rfl, rfl, HE, HT⟩ := hrel
    by_cases hk0 : 0 < k
    · obtain ⟨j, rfl⟩ : ∃ j, k = j + 1 := ⟨k - 1, by omega⟩
      obtain rfl : z = (j : Int) := by omega
      have q1 : (0 : Int) ≤ (j : Int) := by omega
      obtain ⟨F1, t1, t2⟩ := HT.out
      have HB := Lib.hid (show a < 10 ^ halfN s.size (j + 1) ∧ b < 10 ^ halfN s.size j from ⟨HE.out.2.1, by have := HE.out.2.2; rwa [halfN_two] at this⟩)
      have HMm := Lib.hid (HMk.out wr F1 j a t1 (by omega) (Nat.lt_of_lt_of_le HB.out.1 (pow5 HN.out.2 (by omega))))
      have HT2 := Lib.hid t2
      have hr := half_range (k := j) HN.out.1 HN.out.2
      have HHl := Lib.hid (fun W => half_any s.size j (by have := HN.out.2; omega) (by omega) W)
      have HA := Lib.hid (fun W => rsub_ok hr.1 hr.2 HB.out.2 (HMl.out j a) W)
      have HS := Lib.hid (show fxD M s.size j ((b + (10 ^ halfN s.size j - M j a)) % 10 ^ halfN s.size j, a) = fxD M s.size 10 s0 ∧ (b + (10 ^ halfN s.size j - M j a)) % 10 ^ halfN s.size j < 10 ^ halfN s.size j ∧ a < 10 ^ halfN s.size (j + 1) by
        refine ⟨?_, Nat.mod_lt _ (Nat.pow_pos (by decide)), HB.out.1⟩
        have h := HE.out.1
        have e : fxD M s.size (j + 1) (a, b) = fxD M s.size j ((b + (10 ^ halfN s.size j - M j a % 10 ^ halfN s.size j)) % 10 ^ halfN s.size j, a) := rfl
        rw [e, Nat.mod_eq_of_lt (HMl.out j a)] at h
        exact h)
      obtain ⟨hf, hhf⟩ : ∃ x, halfN s.size j = x := ⟨_, rfl⟩
      rw [hhf] at HHl HA HS
      obtain ⟨mk, hmk⟩ : ∃ x, M j a = x := ⟨_, rfl⟩
      rw [hmk] at HMm HA HS
      obtain ⟨a2, ha2⟩ : ∃ x, (b + (10 ^ hf - mk)) % 10 ^ hf = x := ⟨_, rfl⟩
      rw [ha2] at HA HS
      have HS2 := Lib.hid (show fxD M s.size j (a2, a) = fxD M s.size 10 s0 ∧ a2 < 10 ^ halfN s.size j ∧ a < 10 ^ halfN s.size (j + 1) by rw [hhf]; exact HS.out)
      clear t1 t2 HT hhf hmk ha2 hr hz HS
      go_wp2_with fail
      refine HMm.out.mono ?_
      rintro e w2 ⟨rfl, F2, t1, t2⟩
      have H2 := Lib.hid (And.intro t1 (HT2.out.trans t2))
      clear t1 t2 HMm HT2
      go_wp2_with fail
      refine (HHl.out _).mono ?_
      rintro e w3 ⟨rfl, rfl⟩
      go_wp2_with fail
      refine (HA.out _).mono ?_
      rintro e w3 ⟨rfl, f3⟩
      have H3 := Lib.hid (show ∃ F', CipT cb key tl w3 F' ∧ Step F F' w w3 from ⟨F2, (CipT.ok HL.out).fr0 H2.out.1 f3, H2.out.2.trans (Step.same f3)⟩)
      clear f3 HA HHl H2
      go_wp2_with fail
      go_roundw
      case rel => exact ⟨j, a2, a, (j : Int) - 1, by omega, rfl, by go_num, rfl, rfl, HS2, H3⟩
      case measure => simp [intOf] <;> omega
    · obtain rfl : k = 0 := by omega
      have q1 : z < 0 := by omega
      have q2 : ¬ (0 : Int) ≤ z := by omega
      have HJj := Lib.hid (fun W => HJ.out a b (by rw [← half0]; exact HE.out.2.1) (by rw [← half1]; exact HE.out.2.2) W)
      go_wp2_with fail
      refine (HJj.out _).mono ?_
      rintro e w2 ⟨rfl, f2⟩
      have H2 := Lib.hid f2
      clear f2 hz
      go_wp2_with fail
      go_ret2
      obtain ⟨F1, t1, t2⟩ := HT.out
      exact ⟨by rw [HX.out, ← HE.out.1]; rfl, F1, (CipT.ok HL.out).fr0 t1 H2.out, t2.trans (Step.same H2.out)⟩
end Go.Proofs.YtajhgejhdalobaaGreatDoor
namespace Go.Proofs.YtajhgejhdalobaaGreatDoor
open Go.RowKit

def VerOk (W : World) (vb : Nat) (master : List UInt8) (n : Nat) (F G : Nat → Prop) (i : Nat) (t : Ten) : Prop :=
  t = ⟨0, 0, 0, .slice none 0 0⟩ ∨ ∃ (ko : Option Addr) (kc : Nat), t.d = 1 ∧ t.v = .slice ko 32 kc ∧ RowAt 5 ByteR W (.slice ko 32 kc) (keyK master n 1 i) ∧ ∀ k, (Value.slice ko 32 kc).ownBlock = some k → k ≠ vb ∧ ¬ G k ∧ F k
structure VaultIn (vb rg : Nat) (master : List UInt8) (n v : Nat) (W : World) (F G : Nat → Prop) (ts : List Ten) : Prop where
  box : W.heap[vb]? = some (vaultO rg n v ts)
  ring : RingT rg master W G
  sub : ∀ k, G k → F k
  ne : ¬ G vb
  len : ts.length = 256
  each : ∀ i (h : i < ts.length), VerOk W vb master n F G i ts[i]
  self : F vb
  low : ∀ k, F k → k < W.heap.size
theorem VaultIn.fr {vb rg : Nat} {master : List UInt8} {n v : Nat} {W W' : World} {F G S : Nat → Prop} {ts : List Ten} (h : VaultIn vb rg master n v W F G ts) (hf : Fr S W W') (hs : ∀ k, F k → ¬ S k) : VaultIn vb rg master n v W' F G ts :=
  ⟨hf.obj h.box (hs _ h.self), RingT.ok.fr h.ring hf (fun k hk => hs _ (h.sub k hk)), h.sub, h.ne, h.len, fun i hi => (h.each i hi).imp id (by
    rintro ⟨ko, kc, h1, h2, h3, h4⟩
    exact ⟨ko, kc, h1, h2, h3.fr hf (fun k hk => hs _ (h4 k hk).2.2), h4⟩), h.self, fun k hk => Nat.lt_of_lt_of_le (h.low k hk) hf.size⟩
def VaultT (vb : Nat) (master : List UInt8) (n v : Nat) : Thing := fun W F => ∃ rg G ts, VaultIn vb rg master n v W F G ts
theorem VaultT.ok {vb : Nat} {master : List UInt8} {n v : Nat} : (VaultT vb master n v).Ok := by
  refine ⟨?_, ?_⟩
  · rintro w F ⟨rg, G, ts, h⟩ k hk
    exact h.low k hk
  · rintro w w' F S ⟨rg, G, ts, h⟩ hf hs
    exact ⟨rg, G, ts, h.fr hf hs⟩
def VaultMade (vb : Nat) (master : List UInt8) (n v i : Nat) (W : World) (F : Nat → Prop) : Prop := ∃ rg G ts ko kc, VaultIn vb rg master n v W F G ts ∧ W.cell? ⟨vb, 3 + i * 4 + 3, none⟩ = some (.slice ko 32 kc) ∧ RowAt 5 ByteR W (.slice ko 32 kc) (keyK master n 1 i)
theorem vault_do {w : World} {F : Nat → Prop} {vb p0 p1 p2 n v i : Nat} {master : List UInt8} (h : VaultT vb master n v w F) (hml : master.length ≤ 64) (hn1 : 1 ≤ n) (hn : n ≤ 64) (hi1 : 1 ≤ i) (hi : i ≤ 255) (hI : ItoAt i F w)
    (h0 : w.cell? ⟨p0, 0, none⟩ = some (.pointer (some ⟨vb, 0, none⟩))) (h1 : w.cell? ⟨p1, 0, none⟩ = some (.int .i64 (i : Int))) (h2 : w.cell? ⟨p2, 0, none⟩ = some (.pointer (some ⟨vb, 3 + i * 4, none⟩))) (n0 : ¬ F p0) (n1 : ¬ F p1) (n2 : ¬ F p2) :
    Calls Tryz.prog 188 #[.pointer (some ⟨vb, 3 + i * 4, none⟩), .func (.func 285) #[] #[.pointer (some ⟨p0, 0, none⟩), .pointer (some ⟨p1, 0, none⟩), .pointer (some ⟨p2, 0, none⟩)]] w fun e w' => e = .returned (.tuple #[]) ∧ ∃ F', VaultMade vb master n v i w' F' ∧ Step F F' w w' := by
  obtain ⟨rg, G, ts, hr⟩ := h
  have hil : i < ts.length := by rw [hr.len]; omega
  have hd0 := (vault_cell hr.box hil (j := 0) (by omega))
  have hd1 := (vault_cell hr.box hil (j := 1) (by omega))
  have e0 : p0 ≠ vb := fun e => n0 (e ▸ hr.self)
  have e1 : p1 ≠ vb := fun e => n1 (e ▸ hr.self)
  have e2 : p2 ≠ vb := fun e => n2 (e ▸ hr.self)
  rcases hr.each i hil with ht | ⟨ko, kc, t1, t2, t3, t4⟩
  · have eg := enters_of Tryz.func285 (by kernel_rfl) rfl
    rw [ht] at hd0 hd1
    have hf1 : Fr (fun k => k = vb) w (w.setCell ⟨vb, 3 + i * 4 + 1, none⟩ (.int .i32 1)) := fr_set_at (Fr.refl _ w) (3 + i * 4 + 1) _
    have hb1 : (w.setCell ⟨vb, 3 + i * 4 + 1, none⟩ (.int .i32 1)).heap[vb]? = some (vaultO rg n v (ts.set i ⟨0, 1, 0, .slice none 0 0⟩)) := vault_set hr.box hil (j := 1) (by omega) (.int .i32 1) ⟨0, 1, 0, .slice none 0 0⟩ (by rw [ht]; rfl)
    have hil1 : i < (ts.set i ⟨0, 1, 0, .slice none 0 0⟩).length := by rw [List.length_set]; exact hil
    have hk := vkey1_any (p0 := p0) (p1 := p1) (p2 := p2) hb1 (RingT.ok.fr hr.ring hf1 (fun k hk e => hr.ne (e ▸ hk))) hr.ne hml hn1 hn hi1 hi ((hI.fr (hf1.mono (fun k hk => by rw [hk]; exact hr.self))).sub hr.sub) hil1
      ((hf1.cell (p := ⟨p0, 0, none⟩) (World.block_lt_of_cell? _ _ h0) e0).trans h0) ((hf1.cell (p := ⟨p1, 0, none⟩) (World.block_lt_of_cell? _ _ h1) e1).trans h1) ((hf1.cell (p := ⟨p2, 0, none⟩) (World.block_lt_of_cell? _ _ h2) e2).trans h2) ⟨e0, fun z => n0 (hr.sub _ z)⟩ ⟨e1, fun z => n1 (hr.sub _ z)⟩ ⟨e2, fun z => n2 (hr.sub _ z)⟩
    refine (do_first (off := 3 + i * 4) (fa := #[]) (ca := #[.pointer (some ⟨p0, 0, none⟩), .pointer (some ⟨p1, 0, none⟩), .pointer (some ⟨p2, 0, none⟩)]) eg ⟨hd0.1, hd1.1, hd0.2, hd1.2⟩
      (fun W => ∃ (ko : Option Addr) (kc : Nat) (G' : Nat → Prop), W.heap[vb]? = some (vaultO rg n v (ts.set i ⟨0, 1, 0, .slice ko 32 kc⟩)) ∧ RowAt 5 ByteR W (.slice ko 32 kc) (keyK master n 1 i) ∧ (∀ k, (Value.slice ko 32 kc).ownBlock = some k → w.heap.size ≤ k ∧ ¬ G' k) ∧ RingT rg master W G' ∧ Fr (fun k => k = vb ∨ G k) w W ∧ ∀ k, G' k → G k ∨ w.heap.size ≤ k) ?_).mono ?_
    · refine hk.mono ?_
      rintro e w' ⟨rfl, ko, kc, G', k1, k2, k3, k4, k5, k6⟩
      have q1 : (ts.set i ⟨0, 1, 0, .slice none 0 0⟩)[i] = ⟨0, 1, 0, .slice none 0 0⟩ := by rw [List.getElem_set_self]
      rw [q1, List.set_set] at k1
      have hl2 : i < (ts.set i (⟨0, 1, 0, .slice ko 32 kc⟩ : Ten)).length := by rw [List.length_set]; exact hil
      have g0 := vault_cell k1 hl2 (j := 0) (by omega)
      have g1 := vault_cell k1 hl2 (j := 1) (by omega)
      rw [List.getElem_set_self] at g0 g1
      exact ⟨rfl, ⟨ko, kc, G', k1, k2, fun k hk => by have := k3 k hk; simpa using this, k4, (hf1.mono (fun k hk => .inl hk)).trans' k5, fun k hk => by have := k6 k hk; simpa using this⟩, g0.1, g1.1, g0.2, g1.2⟩
    · rintro e w' ⟨rfl, W, ⟨ko, kc, G', k1, k2, k3, k4, k5, k6⟩, rfl⟩
      have hl2 : i < (ts.set i (⟨0, 1, 0, .slice ko 32 kc⟩ : Ten)).length := by rw [List.length_set]; exact hil
      have fe : Fr (fun k => k = vb) W (onceEnd vb (3 + i * 4) W) := by
        unfold onceEnd
        exact fr_set_at (fr_set_at (Fr.refl _ W).drew (3 + i * 4) _) (3 + i * 4 + 1) _
      have b1 : ((W.drew).setCell ⟨vb, 3 + i * 4, none⟩ (.int .u32 1)).heap[vb]? = some (vaultO rg n v (ts.set i ⟨1, 1, 0, .slice ko 32 kc⟩)) := by
        have := vault_set (w := W.drew) k1 hl2 (j := 0) (by omega) (.int .u32 1) ⟨1, 1, 0, .slice ko 32 kc⟩ (by rw [List.getElem_set_self]; rfl)
        rw [List.set_set] at this
        exact this
      have hl3 : i < (ts.set i (⟨1, 1, 0, .slice ko 32 kc⟩ : Ten)).length := by rw [List.length_set]; exact hil
      have b2 : (onceEnd vb (3 + i * 4) W).heap[vb]? = some (vaultO rg n v (ts.set i ⟨1, 0, 0, .slice ko 32 kc⟩)) := by
        have := vault_set b1 hl3 (j := 1) (by omega) (.int .i32 0) ⟨1, 0, 0, .slice ko 32 kc⟩ (by rw [List.getElem_set_self]; rfl)
        rw [List.set_set] at this
        exact this
      have fall : Fr (fun k => k = vb ∨ G k) w (onceEnd vb (3 + i * 4) W) := k5.trans' (fe.mono (fun k hk => .inl hk))
      have hvb := hr.low _ hr.self
      have hkne : ∀ k, (Value.slice ko 32 kc).ownBlock = some k → k ≠ vb := fun k hk e => by have := (k3 k hk).1; omega
      have hrow : RowAt 5 ByteR (onceEnd vb (3 + i * 4) W) (.slice ko 32 kc) (keyK master n 1 i) := k2.fr fe (fun k hk e => hkne k hk e)
      have hl4 : i < (ts.set i (⟨1, 0, 0, .slice ko 32 kc⟩ : Ten)).length := by rw [List.length_set]; exact hil
      have hc := (vault_cell b2 hl4 (j := 3) (by omega)).1
      rw [List.getElem_set_self] at hc
      have hG' : ¬ G' vb := fun h => (k6 _ h).elim hr.ne (fun hle => by omega)
      have hring : RingT rg master (onceEnd vb (3 + i * 4) W) G' := RingT.ok.fr k4 fe (fun k hk e => hG' (e ▸ hk))
      have hsz := fall.size
      refine ⟨rfl, fun k => F k ∨ G' k ∨ (Value.slice ko 32 kc).ownBlock = some k, ⟨rg, G', _, ko, kc, ⟨b2, hring, fun k hk => .inr (.inl hk), hG', by rw [List.length_set]; exact hr.len, fun j hj => ?_, .inl hr.self, ?_⟩, hc, hrow⟩, ⟨fall.mono (fun k hk => hk.elim (fun e => by rw [e]; exact hr.self) (hr.sub k)), fun k hk => ?_⟩⟩
      · by_cases e : j = i
        · subst e
          rw [List.getElem_set_self]
          exact .inr ⟨ko, kc, rfl, rfl, hrow, fun k hk => ⟨hkne k hk, (k3 k hk).2, .inr (.inr hk)⟩⟩
        · rw [List.getElem_set_ne (fun z => e z.symm)]
          rw [List.length_set] at hj
          refine (hr.each j hj).imp id ?_
          rintro ⟨ko', kc', j1, j2, j3, j4⟩
          refine ⟨ko', kc', j1, j2, j3.fr fall (fun k hk => ?_), fun k hk => ⟨(j4 k hk).1, fun hg => ?_, .inl (j4 k hk).2.2⟩⟩
          · rintro (h | h)
            · exact (j4 k hk).1 h
            · exact (j4 k hk).2.1 h
          · rcases k6 _ hg with h | h
            · exact (j4 k hk).2.1 h
            · have := hr.low k (j4 k hk).2.2; omega
      · rintro k (hk | hk | hk)
        · exact Nat.lt_of_lt_of_le (hr.low k hk) hsz
        · exact RingT.ok.lt hring k hk
        · exact hrow.lt k hk
      · rcases hk with hk | hk | hk
        · exact .inl hk
        · exact (k6 k hk).imp (hr.sub k) id
        · exact .inr (k3 k hk).1
  · have hd : w.cell? ⟨vb, 3 + i * 4, none⟩ = some (.int .u32 1) := by
      have := hd0.1
      rw [show (ts[i].cells)[0]? = some (.int .u32 ts[i].d) from rfl, t1] at this
      exact this
    have hc := (vault_cell hr.box hil (j := 3) (by omega)).1
    rw [show (ts[i].cells)[3]? = some ts[i].v from rfl, t2] at hc
    refine (do_done ⟨vb, 3 + i * 4, none⟩ 1 (by decide) _ w hd).mono ?_
    rintro e w' ⟨rfl, rfl⟩
    exact ⟨rfl, F, ⟨rg, G, ts, ko, kc, hr, hc, t3⟩, Step.refl F w⟩
def VKeyP (vb : Nat) (master : List UInt8) (n v i : Nat) (F : Nat → Prop) (w : World) (e : Ending) (w' : World) : Prop := ∃ (ko : Option Addr) (kc : Nat) (F' : Nat → Prop), e = .returned (.slice ko 32 kc) ∧ RowRd ByteR w' ko (keyK master n 1 i) ∧ VaultT vb master n v w' F' ∧ Step F F' w w'
set_option maxRecDepth 100000 in
set_option maxHeartbeats 3200000 in
theorem vkey_any {w : World} {F : Nat → Prop} {vb n v i : Nat} {master : List UInt8} (h : VaultT vb master n v w F) (hml : master.length ≤ 64) (hn1 : 1 ≤ n) (hn : n ≤ 64) (hi1 : 1 ≤ i) (hi : i ≤ 255) (hI : ItoAt i F w) :
    Calls Tryz.prog 218 #[.pointer (some ⟨vb, 0, none⟩), .int .i64 (i : Int)] w (VKeyP vb master n v i F w) := by
  have HV := Lib.hid h
  have HIto := Lib.hid hI
  clear hI
  obtain ⟨p0, hp0⟩ : ∃ p0, w.heap.size = p0 := ⟨_, rfl⟩
  have hlow : ∀ k, F k → k < p0 := fun k hk => by rw [← hp0]; exact VaultT.ok.lt h k hk
  have hvb : vb < p0 := by
    obtain ⟨rg, G, ts, hr⟩ := h
    exact hlow _ hr.self
  have q1 : (0 : Int) ≤ (i : Int) := by omega
  have q2 : (i : Int) < 256 := by omega
  clear h
  unfold VKeyP
  go_enter Tryz.func218, Tryz.ntmps218
  go_upto_region 1 with fail
  refine wp_at (fun W => W.cell? ⟨p0, 0, none⟩ = some (.pointer (some ⟨vb, 0, none⟩)) ∧ W.cell? ⟨p0 + 1, 0, none⟩ = some (.int .i64 (i : Int)) ∧ Fr noBlock w W ∧ p0 + 1 < W.heap.size) ?_ ?_
  · have ha := (Fr.refl noBlock w).alloc (.cells #[.pointer (some ⟨vb, 0, none⟩)] 93)
    have hs : (w.alloc (.cells #[.pointer (some ⟨vb, 0, none⟩)] 93)).heap.size = p0 + 1 := by rw [← hp0]; simp
    have g0 := heap_new w (.cells #[.pointer (some ⟨vb, 0, none⟩)] 93)
    rw [hp0] at g0
    have g1 := heap_new (w.alloc (.cells #[.pointer (some ⟨vb, 0, none⟩)] 93)) (.cells #[.int .i64 (i : Int)] 3)
    rw [hs] at g1
    exact ⟨cell_of (heap_old _ g0) 0, cell_of g1 0, ha.alloc _, heap_lt g1⟩
  · rintro w1 ⟨c0, c1, f1, hs2⟩
    have H1 := Lib.hid f1
    have HKp := Lib.hid (show ∀ W, Fr noBlock w1 W → W.cell? ⟨p0, 0, none⟩ = some (.pointer (some ⟨vb, 0, none⟩)) ∧ W.cell? ⟨p0 + 1, 0, none⟩ = some (.int .i64 (i : Int)) from fun W hf => ⟨(hf.cell (p := ⟨p0, 0, none⟩) (World.block_lt_of_cell? _ _ c0) (fun z => z)).trans c0, (hf.cell (p := ⟨p0 + 1, 0, none⟩) (World.block_lt_of_cell? _ _ c1) (fun z => z)).trans c1⟩)
    clear f1
    go_region_held3 (fun W => W.cell? ⟨p0, 0, none⟩ = some (.pointer (some ⟨vb, 0, none⟩)) ∧ W.cell? ⟨p0 + 1, 0, none⟩ = some (.int .i64 (i : Int)))
      (first | exact HKp.out _ (by repeat (first | (with_reducible exact Fr.refl _ _) | (with_reducible refine Fr.drew ?_) | (with_reducible refine Fr.alloc ?_ _) | (with_reducible refine Fr.setCell ?_ (.inr (by simp)) _))) | fail "nokeep")
      (fail "noarm")
    all_goals
      obtain ⟨p2, hp2⟩ : ∃ p2, w1.heap.size = p2 := ⟨_, rfl⟩
      obtain ⟨w2, hw2⟩ : ∃ w2, (w1.alloc (.cells #[.pointer (some ⟨vb, 3 + i * 4, none⟩)] 359)).drew = w2 := ⟨_, rfl⟩
      rw [hp2, hw2]
      have hf2 : Fr noBlock w1 w2 := by rw [← hw2]; exact ((Fr.refl noBlock w1).alloc _).drew
      have d2 : w2.cell? ⟨p2, 0, none⟩ = some (.pointer (some ⟨vb, 3 + i * 4, none⟩)) := by
        rw [← hw2, World.cell?_drew, ← hp2]
        exact cell_of (heap_new w1 _) 0
      obtain ⟨d0, d1⟩ := HKp.out _ hf2
      have hnF : ∀ q, p0 ≤ q → ¬ F q := fun q hq hF => by have := hlow q hF; omega
      have HD := Lib.hid (vault_do (p0 := p0) (p1 := p0 + 1) (p2 := p2) (VaultT.ok.fr0 HV.out (H1.out.trans' hf2)) hml hn1 hn hi1 hi (HIto.out.fr0 (H1.out.trans' hf2)) d0 d1 d2 (hnF _ (by omega)) (hnF _ (by omega)) (hnF _ (by omega)))
      have H2 := Lib.hid (H1.out.trans' hf2)
      have hp2s := World.block_lt_of_cell? _ _ d2
      have hp2F : ¬ F p2 := hnF _ (by omega)
      have HD2 := Lib.hid d2
      clear c0 c1 d0 d1 HKp hf2 hw2 HV HIto hnF hlow
      go_wp2_with fail
      refine HD.out.mono ?_
      rintro e w3 ⟨rfl, F', ⟨rg, G, ts, ko, kc, k1, k2, k3⟩, k4⟩
      have d2' := (k4.fr.cell (p := ⟨p2, 0, none⟩) hp2s hp2F).trans HD2.out
      have HRr := Lib.hid (And.intro k1 (And.intro k3 k4))
      clear k1 k3 k4 HD d2 HD2
      go_wp2_with fail
      go_ret
      obtain ⟨k1, k3, k4⟩ := HRr.out
      exact ⟨ko, kc, F', rfl, RowAt.rd k3, ⟨rg, G, ts, k1⟩, (Step.same H2.out).trans k4⟩
end Go.Proofs.YtajhgejhdalobaaGreatDoor
namespace Go.Proofs.YtajhgejhdalobaaGreatDoor
open Go.RowKit

theorem aload64 (a : Addr) (x : Int) (w : World) (hc : w.cell? ⟨a.block, a.off, none⟩ = some (.int .i64 x)) : Calls Tryz.prog 140 #[.pointer (some ⟨a.block, a.off, none⟩)] w fun e w' => e = .returned (.int .i64 x) ∧ w = w' := by
  have hl := run_call_load (P := Tryz.prog) Tryz.func204 (by kernel_rfl) (by kernel_rfl) (by kernel_rfl) .i64 (by kernel_rfl) hc
  go_enter Tryz.func140, Tryz.ntmps140
  go_wp2
  go_ret
  exact ⟨rfl, rfl⟩
theorem astore64 (a : Addr) (x : Value) (y : Int) (w : World) (hc : w.cell? ⟨a.block, a.off, none⟩ = some x) (hz : w.frozen? ⟨a.block, a.off, none⟩ = false) : Calls Tryz.prog 124 #[.pointer (some ⟨a.block, a.off, none⟩), .int .i64 y] w fun e w' => e = .returned (.tuple #[]) ∧ w' = w.setCell ⟨a.block, a.off, none⟩ (.int .i64 y) := by
  have hst := run_call_store (P := Tryz.prog) Tryz.func191 (by kernel_rfl) (by kernel_rfl) (by kernel_rfl) (by kernel_rfl) (k := .i64) (y := y) hc hz
  go_enter Tryz.func124, Tryz.ntmps124
  go_wp2
  go_end0
  exact ⟨rfl, rfl⟩
theorem acas64 (a : Addr) (x y : Int) (w : World) (hc : w.cell? ⟨a.block, a.off, none⟩ = some (.int .i64 x)) (hz : w.frozen? ⟨a.block, a.off, none⟩ = false) : Calls Tryz.prog 126 #[.pointer (some ⟨a.block, a.off, none⟩), .int .i64 x, .int .i64 y] w fun e w' => e = .returned (.bool true) ∧ w' = w.setCell ⟨a.block, a.off, none⟩ (.int .i64 y) := by
  have hcas := run_call_cas_hit (P := Tryz.prog) Tryz.func192 (by kernel_rfl) (by kernel_rfl) (by kernel_rfl) .i64 (by kernel_rfl) (y := y) hc hz
  go_enter Tryz.func126, Tryz.ntmps126
  go_wp2
  go_ret
  exact ⟨rfl, rfl⟩
theorem version_any {w : World} {F : Nat → Prop} {vb n v : Nat} {master : List UInt8} (h : VaultT vb master n v w F) : Calls Tryz.prog 67 #[.pointer (some ⟨vb, 0, none⟩)] w fun e w' => e = .returned (.int .i64 (v : Int)) ∧ w = w' := by
  obtain ⟨rg, G, ts, hr⟩ := h
  have HL := Lib.hid (aload64 ⟨vb, 2, none⟩ v w (vault_head hr.box).2.2.1)
  dsimp only at HL
  clear hr
  go_enter Tryz.func67, Tryz.ntmps67
  go_wp2_with fail
  refine HL.out.mono ?_
  rintro e w1 ⟨rfl, rfl⟩
  go_wp2_with fail
  go_ret
  exact ⟨rfl, rfl⟩
def rotE (v : Nat) : Int := if v < 255 then 0 else 14
set_option maxRecDepth 100000 in
set_option maxHeartbeats 800000 in
theorem rotate_any {w : World} {F : Nat → Prop} {vb n v : Nat} {master : List UInt8} (h : VaultT vb master n v w F) : Calls Tryz.prog 55 #[.pointer (some ⟨vb, 0, none⟩)] w fun e w' => (∃ x : Int, e = .returned (.tuple #[.int .i64 x, .int .i64 (rotE v)])) ∧ VaultT vb master n (if v < 255 then v + 1 else v) w' F ∧ Step F F w w' := by
  have HV := Lib.hid (version_any h)
  have H := Lib.hid h
  obtain ⟨rg, G, ts, hr⟩ := h
  obtain ⟨-, -, c2, c3⟩ := vault_head hr.box
  have hb := heap_lt hr.box
  have HC := Lib.hid (acas64 ⟨vb, 2, none⟩ v (v + 1) w c2 c3)
  dsimp only at HC
  have HR := Lib.hid hr
  clear hr c2 c3
  unfold rotE
  by_cases h255 : v < 255
  · rw [if_pos h255, if_pos h255]
    have q1 : (v : Int) < 255 := by omega
    have q2 : wrap64 ((v : Int) + 1) = (v : Int) + 1 := by unfold wrap64; omega
    clear h255
    go_enter Tryz.func55, Tryz.ntmps55
    go_wp2_with fail
    refine HV.out.mono ?_
    rintro e w1 ⟨rfl, rfl⟩
    go_wp2_with fail
    refine HC.out.mono ?_
    rintro e w1 ⟨rfl, rfl⟩
    go_wp2_with fail
    go_ret2
    have hr := HR.out
    have hf : Fr (fun k => k = vb) w (w.setCell ⟨vb, 2, none⟩ (.int .i64 ((v : Int) + 1))) := fr_set_at (Fr.refl _ w) 2 _
    refine ⟨⟨_, rfl⟩, ⟨rg, G, ts, vault_now hr.box (v + 1), RingT.ok.fr hr.ring hf (fun k hk e => hr.ne (e ▸ hk)), hr.sub, hr.ne, hr.len, fun i hi => (hr.each i hi).imp id ?_, hr.self, fun k hk => Nat.lt_of_lt_of_le (hr.low k hk) hf.size⟩, ⟨hf.mono (fun k hk => by rw [hk]; exact hr.self), fun k hk => .inl hk⟩⟩
    rintro ⟨ko, kc, h1, h2, h3, h4⟩
    exact ⟨ko, kc, h1, h2, h3.fr hf (fun k hk => (h4 k hk).1), h4⟩
  · rw [if_neg h255, if_neg h255]
    have q1 : (255 : Int) ≤ (v : Int) := by omega
    clear h255
    go_enter Tryz.func55, Tryz.ntmps55
    go_wp2_with fail
    refine HV.out.mono ?_
    rintro e w1 ⟨rfl, rfl⟩
    go_wp2_with fail
    go_ret2
    exact ⟨⟨_, rfl⟩, H.out, Step.refl F w⟩
set_option maxRecDepth 100000 in
set_option maxHeartbeats 800000 in
theorem rkey_bad (rg : Nat) (n v : Int) (hn : n < 1 ∨ 64 < n) (w : World) : Calls Tryz.prog 123 #[.pointer (some ⟨rg, 0, none⟩), .int .i64 n, .int .i64 1, .int .i64 v] w fun e w' => e = .returned (.tuple #[.slice none 0 0, .int .i64 1]) ∧ Fr noBlock w w' := by
  have HN := Lib.hid (fun W => name_any 1 (by decide) W)
  rcases hn with q1 | q1
  all_goals
    go_enter Tryz.func123, Tryz.ntmps123
    go_wp2_with fail
    refine (HN.out _).mono ?_
    rintro e w1 ⟨rfl, f1⟩
    have ha1 := (Fr.refl noBlock w).alloc (.cells #[.pointer (some ⟨rg, 0, none⟩)] 183)
    have hs1 : (w.alloc (.cells #[.pointer (some ⟨rg, 0, none⟩)] 183)).heap.size = w.heap.size + 1 := by simp
    have c1 : w1.cell? ⟨w.heap.size + 1, 0, none⟩ = some (.int .i64 n) := by
      have := heap_new (w.alloc (.cells #[.pointer (some ⟨rg, 0, none⟩)] 183)) (.cells #[.int .i64 n] 3)
      rw [hs1] at this
      exact cell_of (f1.obj this (fun z => z)) 0
    have HF := Lib.hid ((((Fr.refl noBlock w).alloc _).alloc _).trans' f1)
    clear f1 ha1 hs1
    go_wp2_with fail
    go_ret2
    exact ⟨rfl, HF.out⟩
end Go.Proofs.YtajhgejhdalobaaGreatDoor
namespace Go.Proofs.YtajhgejhdalobaaGreatDoor
open Go.RowKit

def vers0 : List Ten := List.replicate 256 ⟨0, 0, 0, .slice none 0 0⟩
def VNewP (master : List UInt8) (n v : Nat) (w : World) (e : Ending) (w' : World) : Prop := ∃ (vb : Nat) (F : Nat → Prop), e = .returned (.tuple #[.pointer (some ⟨vb, 0, none⟩), .int .i64 0]) ∧ VaultT vb master n v w' F ∧ Fr noBlock w w' ∧ ∀ k, F k → w.heap.size ≤ k
set_option maxRecDepth 100000 in
set_option maxHeartbeats 6400000 in
theorem vnew_ok {w : World} {ao : Option Addr} {master : List UInt8} (hm : RowRd ByteR w ao master) (mc : Nat) (h16 : 16 ≤ master.length) (h64 : master.length ≤ 64) {n v : Nat} (hn1 : 1 ≤ n) (hn : n ≤ 64) (hv1 : 1 ≤ v) (hv : v ≤ 255) (hI : ItoAt v noBlock w) :
    Calls Tryz.prog 49 #[.slice ao master.length mc, .int .i64 (n : Int), .int .i64 (v : Int)] w (VNewP master n v w) := by
  have HN := Lib.hid (rnew_any hm mc h16 h64)
  unfold RNewP at HN
  have HL := Lib.hid (And.intro h16 h64)
  have HIto := Lib.hid hI
  clear hI
  clear hm h16
  unfold VNewP
  go_enter Tryz.func49, Tryz.ntmps49
  go_wp2_with fail
  refine HN.out.mono ?_
  rintro e w1 ⟨rg, ko, kc, rfl, h1, h2, h3, h4, h5⟩
  have hr := ring_new h1 h2 (by have := HL.out.1; omega) (fun a e => (h3 (by have := HL.out.1; omega) a e).1)
  have hnew : ∀ k, (k = rg ∨ ∃ a, ko = some a ∧ a.block = k) → w.heap.size ≤ k := by
    rintro k (rfl | ⟨a, e, rfl⟩)
    · exact h5
    · exact (h3 (by have := HL.out.1; omega) a e).2
  have HK := Lib.hid (rkey_gen hr h64 hn1 hn (p := 1) (by decide) hv1 hv (HIto.out.new h4 hnew))
  unfold RKeyP at HK
  have H1 := Lib.hid (And.intro h4 hnew)
  clear h1 h2 h3 h4 h5 hr hnew HN HIto
  go_wp2_with fail
  refine HK.out.mono ?_
  rintro e w2 ⟨⟨xa, xn, xc⟩, G', rfl, k1, k2, k3, k4, k5⟩
  unfold SV.val
  have H2 := Lib.hid (And.intro k3 k4)
  have hg2 := RingT.ok.lt k3
  clear k1 k2 k3 k4 k5 HK
  go_upto_region 8 with fail
  refine wp_at (fun W => W.heap[w2.heap.size]? = some (vaultO rg n 0 vers0) ∧ Fr noBlock w2 W) ⟨heap_new w2 _, (Fr.refl _ _).alloc _⟩ ?_
  obtain ⟨vb, hvb⟩ : ∃ vb, w2.heap.size = vb := ⟨_, rfl⟩
  rw [hvb]
  rintro w3 ⟨hb3, f3⟩
  have H3 := Lib.hid (And.intro hb3 f3)
  obtain ⟨-, -, c2, c3⟩ := vault_head hb3
  have HS := Lib.hid (astore64 ⟨vb, 2, none⟩ _ (v : Int) w3 c2 c3)
  dsimp only at HS
  clear hb3 f3 c2 c3
  go_wp2_with fail
  refine HS.out.mono ?_
  rintro e w4 ⟨rfl, rfl⟩
  go_wp2_with fail
  go_ret2
  have hb := vault_now H3.out.1 v
  have hf : Fr (fun k => k = vb) w3 (w3.setCell ⟨vb, 2, none⟩ (.int .i64 (v : Int))) := fr_set_at (Fr.refl _ w3) 2 _
  have hgv : ∀ k, G' k → k ≠ vb := fun k hk e => by have := hg2 k hk; omega
  refine ⟨vb, fun k => k = vb ∨ G' k, rfl, ⟨rg, G', vers0, hb, RingT.ok.fr (RingT.ok.fr0 H2.out.1 H3.out.2) hf hgv, fun k hk => .inr hk, fun h => hgv _ h rfl, by simp [vers0], fun i hi => .inl (List.getElem_replicate hi), .inl rfl, ?_⟩, ?_, ?_⟩
  · rintro k (rfl | hk)
    · exact heap_lt hb
    · exact Nat.lt_of_lt_of_le (Nat.lt_of_lt_of_le (hg2 k hk) H3.out.2.size) hf.size
  · have f12 : Fr noBlock w w2 := H1.out.1.trans H2.out.2.fr (fun k hk => .inr (H1.out.2 k hk))
    exact (f12.trans' H3.out.2).trans hf (fun k hk => .inr (by rw [hk, ← hvb]; exact f12.size))
  · have f12 : w.heap.size ≤ w2.heap.size := Nat.le_trans H1.out.1.size H2.out.2.size
    rintro k (rfl | hk)
    · omega
    · rcases H2.out.2.foot k hk with h | h
      · exact H1.out.2 k h
      · exact Nat.le_trans H1.out.1.size h
set_option maxRecDepth 100000 in
set_option maxHeartbeats 1600000 in
theorem vnew_bad {w : World} {ao : Option Addr} {master : List UInt8} (hm : RowRd ByteR w ao master) (mc : Nat) (h16 : 16 ≤ master.length) (h64 : master.length ≤ 64) {n : Int} (hn : n < 1 ∨ 64 < n) (v : Int) :
    Calls Tryz.prog 49 #[.slice ao master.length mc, .int .i64 n, .int .i64 v] w fun e w' => e = .returned (.tuple #[.pointer none, .int .i64 1]) ∧ Fr noBlock w w' := by
  have HN := Lib.hid (rnew_any hm mc h16 h64)
  unfold RNewP at HN
  have HK := Lib.hid (fun rg W => rkey_bad rg n v hn W)
  clear hm h16 hn
  go_enter Tryz.func49, Tryz.ntmps49
  go_wp2_with fail
  refine HN.out.mono ?_
  rintro e w1 ⟨rg, ko, kc, rfl, h1, h2, h3, h4, h5⟩
  have H1 := Lib.hid h4
  clear h1 h2 h3 h4 h5 HN
  go_wp2_with fail
  refine (HK.out _ _).mono ?_
  rintro e w2 ⟨rfl, f2⟩
  have H2 := Lib.hid (H1.out.trans' f2)
  clear f2
  go_wp2_with fail
  go_ret2
  exact ⟨rfl, H2.out⟩
end Go.Proofs.YtajhgejhdalobaaGreatDoor
