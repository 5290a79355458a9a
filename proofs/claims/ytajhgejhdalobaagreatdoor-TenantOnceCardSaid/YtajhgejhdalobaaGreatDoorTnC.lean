/-
  THE WALKS of approved, text (tenant).
-/
import Derived.Deep.RegionHeld3
import Derived.Test.YtajhgejhdalobaaGreatDoorTnB
import Derived.Test.YtajhgejhdalobaaGreatDoorVtD
namespace Go.Proofs.YtajhgejhdalobaaGreatDoor
open Go.RowKit

theorem str_ne2 {a b : ByteArray} (h : ¬ a = b) : (a.toList == b.toList) = false := by
  cases hx : (a.toList == b.toList) with
  | false => rfl
  | true => exact absurd (toList_inj' (by simpa using hx)) h
def splN (t : ByteArray) : ByteArray × Nat × Int := match splitB (bl t) with
  | some (s, v) => (strB s, v, 0)
  | none => (⟨#[]⟩, 0, 11)
theorem head_size (t : ByteArray) : (strB (headD (bl t))).size ≤ t.size ∧ (strB (tailD (bl t))).size ≤ t.size := by
  rw [strB_size, strB_size, ← bl_len t]
  refine ⟨(List.takeWhile_sublist _).length_le, ?_⟩
  unfold tailD
  rw [List.length_drop]
  have := (List.dropWhile_sublist (l := bl t) (fun c => c != 46)).length_le
  omega
set_option maxRecDepth 100000 in
set_option maxHeartbeats 1600000 in
theorem psplit_any {w : World} {F : Nat → Prop} (hG : Glob w F) (t : ByteArray) (ht : t.size < 4294967281) : Calls Tryz.prog 24 #[.string t] w fun e w' => e = .returned (.tuple #[.string (splN t).1, .int .i64 ((splN t).2.1 : Int), .int .i64 (splN t).2.2]) ∧ Fr noBlock w w' := by
  obtain ⟨k1, k2⟩ := head_size t
  have HC := Lib.hid (cut_glob hG t ht)
  rw [show (bl t).takeWhile (fun c => c != 46) = headD (bl t) from rfl, show ((bl t).dropWhile (fun c => c != 46)).drop 1 = tailD (bl t) from rfl] at HC
  have HN := Lib.hid (fun W => number_all (strB (tailD (bl t))) W (by unfold maxLen; omega))
  rw [bl_strB] at HN
  have HT := Lib.hid (fun (W : World) (hW : Fr noBlock w W) (v : Int) => ptoken_any (hG.fr hW) (strB (headD (bl t))) (by unfold maxLen; omega) v)
  have HS := Lib.hid (show (numR (tailD (bl t))).2 = 0 → (tokN (strB (headD (bl t))) ((numR (tailD (bl t))).1 : Int)).2 = 0 → (tokN (strB (headD (bl t))) ((numR (tailD (bl t))).1 : Int)).1 = t → splN t = (strB (headD (bl t)), (numR (tailD (bl t))).1, 0) from fun h0 h1 h2 => by
    unfold tokN at h1 h2
    rw [bl_strB] at h1 h2
    by_cases hb : shapeB (headD (bl t)) = false
    · rw [if_pos hb] at h1
      exact absurd h1 (by decide)
    rw [if_neg hb] at h1 h2
    by_cases hv : (((numR (tailD (bl t))).1 : Int) < 1 ∨ 255 < ((numR (tailD (bl t))).1 : Int))
    · rw [if_pos hv] at h1
      exact absurd h1 (by decide)
    rw [if_neg hv, Int.toNat_natCast] at h2
    have h3 : tokB (headD (bl t)) (numR (tailD (bl t))).1 = bl t := congrArg bl h2
    unfold splN
    rw [split_yes h0 (by simpa using hb) (by omega) (by omega) h3])
  have HX := Lib.hid (show ¬ ((numR (tailD (bl t))).2 = 0 ∧ (tokN (strB (headD (bl t))) ((numR (tailD (bl t))).1 : Int)).2 = 0 ∧ (tokN (strB (headD (bl t))) ((numR (tailD (bl t))).1 : Int)).1 = t) → splN t = (⟨#[]⟩, 0, 11) from fun h => by
    unfold splN
    rw [split_no (fun hc => ?_)]
    obtain ⟨h0, h1, h2, h3, h4⟩ := hc
    refine h ⟨h0, ?_, ?_⟩
    · unfold tokN
      rw [bl_strB, if_neg (by simp [h1]), if_neg (by omega)]
    · unfold tokN
      rw [bl_strB, if_neg (by simp [h1]), if_neg (by omega), Int.toNat_natCast, h4, strB_bl])
  obtain ⟨s, hs⟩ : ∃ s, strB (headD (bl t)) = s := ⟨_, rfl⟩
  obtain ⟨z, hz⟩ : ∃ s, strB (tailD (bl t)) = s := ⟨_, rfl⟩
  obtain ⟨n, hn⟩ : ∃ s, (numR (tailD (bl t))).1 = s := ⟨_, rfl⟩
  obtain ⟨er, her⟩ : ∃ s, (numR (tailD (bl t))).2 = s := ⟨_, rfl⟩
  rw [hs, hz] at HC
  rw [hz, hn, her] at HN
  rw [hs] at HT
  rw [hs, hn, her] at HS HX
  have HT2 := Lib.hid (fun (W : World) (hW : Fr noBlock w W) => HT.out W hW (n : Int))
  obtain ⟨ag, hag⟩ : ∃ x, (tokN s (n : Int)).1 = x := ⟨_, rfl⟩
  obtain ⟨bd, hbd⟩ : ∃ x, (tokN s (n : Int)).2 = x := ⟨_, rfl⟩
  rw [hag, hbd] at HT2 HS HX
  clear hG k1 k2 HT hs hz hn her hag hbd
  by_cases h0 : er = 0
  · by_cases h1 : bd = 0
    · by_cases h2 : ag = t
      · subst h0 h1 h2
        rw [HS.out rfl rfl rfl]
        go_enter Tryz.func24, Tryz.ntmps24
        go_wp2_with fail
        refine HC.out.mono ?_
        rintro e w1 ⟨b, rfl, f1⟩
        have HF := Lib.hid f1
        have HTt := Lib.hid (HT2.out _ f1)
        clear f1 HC HT2 HS HX
        go_wp2_with fail
        refine (HN.out _).mono ?_
        rintro e w2 ⟨rfl, rfl⟩
        go_wp2_with fail
        refine HTt.out.mono ?_
        rintro e w3 ⟨rfl, f3⟩
        have HF3 := Lib.hid (HF.out.trans' f3)
        clear f3
        go_wp2_with fail
        exact bodyPost_ret (v := .tuple #[.string s, .int .i64 (n : Int), .int .i64 0]) (by simp [results, Tryz.results24, go_sem]) rfl ⟨rfl, HF3.out⟩
      · rw [HX.out (fun h => h2 h.2.2)]
        have q := str_ne2 h2
        subst h0 h1
        clear h2
        go_enter Tryz.func24, Tryz.ntmps24
        go_wp2_with fail
        refine HC.out.mono ?_
        rintro e w1 ⟨b, rfl, f1⟩
        have HF := Lib.hid f1
        have HTt := Lib.hid (HT2.out _ f1)
        clear f1 HC HT2 HS HX
        go_wp2_with fail
        refine (HN.out _).mono ?_
        rintro e w2 ⟨rfl, rfl⟩
        go_wp2_with fail
        refine HTt.out.mono ?_
        rintro e w3 ⟨rfl, f3⟩
        have HF3 := Lib.hid (HF.out.trans' f3)
        clear f3
        go_wp2_with fail
        exact bodyPost_ret (v := .tuple #[.string ⟨#[]⟩, .int .i64 0, .int .i64 11]) (by simp [results, Tryz.results24, go_sem]) rfl ⟨rfl, HF3.out⟩
    · rw [HX.out (fun h => h1 h.2.1)]
      have q : (bd != 0) = true := by simpa using h1
      subst h0
      clear h1
      go_enter Tryz.func24, Tryz.ntmps24
      go_wp2_with fail
      refine HC.out.mono ?_
      rintro e w1 ⟨b, rfl, f1⟩
      have HF := Lib.hid f1
      have HTt := Lib.hid (HT2.out _ f1)
      clear f1 HC HT2 HS HX
      go_wp2_with fail
      refine (HN.out _).mono ?_
      rintro e w2 ⟨rfl, rfl⟩
      go_wp2_with fail
      refine HTt.out.mono ?_
      rintro e w3 ⟨rfl, f3⟩
      have HF3 := Lib.hid (HF.out.trans' f3)
      clear f3
      go_wp2_with fail
      exact bodyPost_ret (v := .tuple #[.string ⟨#[]⟩, .int .i64 0, .int .i64 11]) (by simp [results, Tryz.results24, go_sem]) rfl ⟨rfl, HF3.out⟩
  · rw [HX.out (fun h => h0 h.1)]
    have q : (er != 0) = true := by simpa using h0
    clear h0
    go_enter Tryz.func24, Tryz.ntmps24
    go_wp2_with fail
    refine HC.out.mono ?_
    rintro e w1 ⟨b, rfl, f1⟩
    have HF := Lib.hid f1
    have HTt := Lib.hid (HT2.out _ f1)
    clear f1 HC HT2 HS HX
    go_wp2_with fail
    refine (HN.out _).mono ?_
    rintro e w2 ⟨rfl, rfl⟩
    go_wp2_with fail
    refine HTt.out.mono ?_
    rintro e w3 ⟨rfl, f3⟩
    have HF3 := Lib.hid (HF.out.trans' f3)
    clear f3
    go_wp2_with fail
    exact bodyPost_ret (v := .tuple #[.string ⟨#[]⟩, .int .i64 0, .int .i64 11]) (by simp [results, Tryz.results24, go_sem]) rfl ⟨rfl, HF3.out⟩
end Go.Proofs.YtajhgejhdalobaaGreatDoor
namespace Go.Proofs.YtajhgejhdalobaaGreatDoor
open Go.RowKit

theorem itoa_ito (n : Nat) : itoa n = strB (itoB n) := by
  unfold itoa strB
  rw [ito_dec]
theorem Glob.ito {w : World} {F : Nat → Prop} (h : Glob w F) {n : Nat} (hn : n ≤ 9223372036854775807) : ItoAt n F w := fun W f => by
  rw [itoa_ito]
  exact ito_glob (h.step ⟨f, fun k hk => .inl hk⟩) n hn
def VCipP (vb : Nat) (master : List UInt8) (n v i : Nat) (tl : Bs) (F : Nat → Prop) (w : World) (e : Ending) (w' : World) : Prop := ∃ (cb : Nat) (F' G' : Nat → Prop), e = .returned (.pointer (some ⟨cb, 0, none⟩)) ∧ VaultT vb master n v w' F' ∧ CipT cb (keyK master n 1 i) tl w' G' ∧ Step F F' w w' ∧ ∀ k, G' k → w.heap.size ≤ k ∧ ¬ F' k
set_option maxRecDepth 100000 in
set_option maxHeartbeats 1600000 in
theorem cipher_any {w : World} {F : Nat → Prop} {vb n v i : Nat} {master : List UInt8} (h : VaultT vb master n v w F) (hml : master.length ≤ 64) (hn1 : 1 ≤ n) (hn : n ≤ 64) (hi1 : 1 ≤ i) (hi : i ≤ 255) (hI : ItoAt i F w) (a b : ByteArray) (ha : a.size = 6) (hb : b.size = 4) :
    Calls Tryz.prog 156 #[.pointer (some ⟨vb, 0, none⟩), .int .i64 (i : Int), .string a, .string b] w (VCipP vb master n v i (bl (a ++ b)) F w) := by
  have HK := Lib.hid (vkey_any h hml hn1 hn hi1 hi hI)
  unfold VKeyP at HK
  have hab : (a ++ b).size = 10 := by rw [ByteArray.size_append]; omega
  obtain ⟨s, hs⟩ : ∃ s, a ++ b = s := ⟨_, rfl⟩
  rw [hs] at hab ⊢
  have HX := Lib.hid (And.intro hs hab)
  clear h hml hn1 hn hi1 hi hI
  unfold VCipP
  go_enter Tryz.func156, Tryz.ntmps156
  go_wp2_with fail
  refine HK.out.mono ?_
  rintro e w1 ⟨ko, kc, F', rfl, h1, h2, h3⟩
  have H1 := Lib.hid (And.intro h1 (And.intro h2 h3))
  clear h1 h2 h3 HK
  obtain ⟨xo, xc, w2, hc, hr, hf⟩ := conv_str w1 s (by unfold maxLen; omega)
  have H2 := Lib.hid (And.intro hr hf)
  rw [hab] at hc
  have HN := Lib.hid (show Calls Tryz.prog 217 #[.slice ko 32 kc, .slice xo 10 xc] w2 (FNewP (keyK master n 1 i) (bl s) w2) from by
    have h := fnew_any (H1.out.1.fr0 hf) kc (keyK_len _ _ _ _) hr xc (by rw [labB_len, hab])
    rw [keyK_len, labB_len, hab] at h
    exact h)
  unfold FNewP at HN
  clear hr hf
  go_wp2_with fail
  refine HN.out.mono ?_
  rintro e w3 ⟨cb, G, rfl, k1, k2, k3⟩
  have H3 := Lib.hid (And.intro k1 (And.intro k2 k3))
  clear k1 k2 k3 HN hc
  go_wp2_with fail
  go_ret
  obtain ⟨k1, k2, k3⟩ := H3.out
  obtain ⟨j1, j2, j3⟩ := H1.out
  have hsz := H2.out.2.size
  have hs1 := j3.size
  exact ⟨cb, F', G, rfl, VaultT.ok.fr0 (VaultT.ok.fr0 j2 H2.out.2) k2, k1, (j3.trans (Step.same H2.out.2)).trans (Step.same k2), fun k hk => ⟨by have := k3 k hk; omega, fun hF => by have h4 := k3 k hk; have h5 := VaultT.ok.lt j2 k hF; omega⟩⟩
def maskV (master : List UInt8) (n : Nat) : MaskF := fun v tl => maskK (keyK master n 1 v) tl
theorem mid_size {l : Bs} (h : shapeB l = true) : 6 ≤ (midB l).length ∧ (midB l).length ≤ 9 := by
  obtain ⟨_, h2, h3⟩ := shape_iff.1 h
  have := (cut_len h2).2.1
  omega
theorem ends_bl {l : Bs} : bl (strB (binB l) ++ strB (lastB l)) = binB l ++ lastB l := by
  rw [strB_add]
  rfl
def VTokP (x : Bs × Int) (vb : Nat) (master : List UInt8) (n v : Nat) (F : Nat → Prop) (w : World) (e : Ending) (w' : World) : Prop := e = .returned (.tuple #[.string (strB x.1), .int .i64 x.2]) ∧ ∃ F', VaultT vb master n v w' F' ∧ Step F F' w w'
set_option maxRecDepth 100000 in
set_option maxHeartbeats 1600000 in
theorem vtoken_any {w : World} {F : Nat → Prop} {vb n v : Nat} {master : List UInt8} (h : VaultT vb master n v w F) (hG : Glob w F) (hml : master.length ≤ 64) (hn1 : 1 ≤ n) (hn : n ≤ 64) (hv1 : 1 ≤ v) (hv : v ≤ 255) (s : ByteArray) (hs : s.size < 4294967281) :
    Calls Tryz.prog 111 #[.pointer (some ⟨vb, 0, none⟩), .string s] w (VTokP (tokenB (maskV master n) v (bl s)) vb master n v F w) := by
  have HI := Lib.hid (fun W => is_any s (by unfold maxLen; omega) W)
  have HC := Lib.hid (fun W => pcut_any s (by unfold maxLen; omega) W)
  have HV := Lib.hid (And.intro h hG)
  unfold VTokP
  by_cases hp : panB (bl s) = true
  · have hsh := pan_shape hp
    obtain ⟨e1, e2, e3⟩ := cut_texts hsh
    obtain ⟨_, l2, l3⟩ := shape_iff.1 hsh
    obtain ⟨c1, c2, c3⟩ := cut_len l2
    obtain ⟨m6, m9⟩ := mid_size hsh
    have hd := mid_dig (shape_iff.1 hsh).1
    rw [hp] at HI
    rw [e1, e2, e3, if_pos hsh] at HC
    have HT := Lib.hid (show tokenB (maskV master n) v (bl s) = (tokB (hideB (maskV master n) v (bl s)) v, 0) by unfold tokenB; rw [if_pos hp])
    have hhs := hide_shape (maskV master n) v hsh
    have HH := Lib.hid (show (strB (binB (bl s)) ++ strB (ffxE (maskV master n v (binB (bl s) ++ lastB (bl s))) (midB (bl s)))) ++ strB (lastB (bl s)) = strB (hideB (maskV master n) v (bl s)) by rw [strB_add, strB_add]; rfl)
    have HCi := Lib.hid (fun (W : World) (hW : Fr noBlock w W) => cipher_any (VaultT.ok.fr0 h hW) hml hn1 hn hv1 hv ((hG.ito (n := v) (by omega)).fr0 hW) (strB (binB (bl s))) (strB (lastB (bl s))) (by rw [strB_size, c1]) (by rw [strB_size, c3]))
    unfold VCipP at HCi
    rw [ends_bl] at HCi
    have HEn := Lib.hid (fun (W : World) (cb : Nat) (G : Nat → Prop) (hc : CipT cb (keyK master n 1 v) (binB (bl s) ++ lastB (bl s)) W G) => fenc_any hc (keyK_len _ _ _ _) (by rw [List.length_append, c1, c3]) (strB (midB (bl s))) hd (by rw [strB_size]; exact m6) (by rw [strB_size]; exact m9))
    unfold FCryP at HEn
    rw [bl_strB, show maskK (keyK master n 1 v) (binB (bl s) ++ lastB (bl s)) = maskV master n v (binB (bl s) ++ lastB (bl s)) from rfl] at HEn
    have z1 : (strB (binB (bl s))).size = 6 := by rw [strB_size, c1]
    have z2 : (strB (ffxE (maskV master n v (binB (bl s) ++ lastB (bl s))) (midB (bl s)))).size = (midB (bl s)).length := by rw [strB_size, ffxE_len]
    have z3 : (strB (lastB (bl s))).size = 4 := by rw [strB_size, c3]
    have hhl : (strB (hideB (maskV master n) v (bl s))).size ≤ 19 := by rw [strB_size]; exact (shape_iff.1 hhs).2.2
    have HP := Lib.hid (fun (W : World) (G : Nat → Prop) (hg : Glob W G) => ptoken_any hg (strB (hideB (maskV master n) v (bl s))) (by unfold maxLen; omega) (v : Int))
    have htn : tokN (strB (hideB (maskV master n) v (bl s))) (v : Int) = (strB (tokB (hideB (maskV master n) v (bl s)) v), 0) := by
      unfold tokN
      rw [bl_strB, if_neg (by simp [hhs]), if_neg (by omega), Int.toNat_natCast]
    rw [htn] at HP
    obtain ⟨a, hae⟩ : ∃ x, strB (binB (bl s)) = x := ⟨_, rfl⟩
    obtain ⟨m, hme⟩ : ∃ x, strB (midB (bl s)) = x := ⟨_, rfl⟩
    obtain ⟨z, hze⟩ : ∃ x, strB (lastB (bl s)) = x := ⟨_, rfl⟩
    obtain ⟨hd', hde⟩ : ∃ x, strB (ffxE (maskV master n v (binB (bl s) ++ lastB (bl s))) (midB (bl s))) = x := ⟨_, rfl⟩
    obtain ⟨hh, hhe⟩ : ∃ x, strB (hideB (maskV master n) v (bl s)) = x := ⟨_, rfl⟩
    rw [hae, hme, hze] at HC
    rw [hae, hze] at HCi
    rw [hme, hde] at HEn
    rw [hae, hde, hze, hhe] at HH
    rw [hhe] at HP
    rw [hae] at z1
    rw [hde] at z2
    rw [hze] at z3
    have q1 : hd'.size ≤ 9 := by omega
    have HS := Lib.hid (version_any h)
    clear h hG hml hn1 hn hv1 hp hsh e1 e2 e3 l2 l3 c1 c2 c3 m6 m9 hd hhs hhl htn hae hme hze hde hhe z2
    go_enter Tryz.func111, Tryz.ntmps111
    go_wp2_with fail
    refine (HI.out _).mono ?_
    rintro e w1 ⟨rfl, f1⟩
    have H1 := Lib.hid f1
    have HS1 := Lib.hid (version_any (VaultT.ok.fr0 HV.out.1 f1))
    clear f1 HS
    go_wp2_with fail
    refine HS1.out.mono ?_
    rintro e w2 ⟨rfl, rfl⟩
    go_wp2_with fail
    refine (HC.out _).mono ?_
    rintro e w2 ⟨rfl, f2⟩
    have H2 := Lib.hid (H1.out.trans' f2)
    have HCi2 := Lib.hid (HCi.out _ H2.out)
    have HSz := Lib.hid H2.out.size
    clear f2 HCi HS1 H1
    go_wp2_with fail
    refine HCi2.out.mono ?_
    rintro e w3 ⟨cb, F', G', rfl, k1, k2, k3, k4⟩
    have H3 := Lib.hid (And.intro k1 (And.intro k2 (And.intro ((Step.same H2.out).trans k3) k4)))
    have HE3 := Lib.hid (HEn.out _ _ _ k2)
    clear k1 k2 k3 k4 HCi2 H2
    go_wp2_with fail
    refine HE3.out.mono ?_
    rintro e w4 ⟨rfl, G2, j1, j2⟩
    have H4 := Lib.hid (show VaultT vb master n v w4 F' ∧ Step F F' w w4 from by
      obtain ⟨k1, k2, k3, k4⟩ := H3.out
      exact ⟨VaultT.ok.fr k1 j2.fr (fun k hk hg => (k4 k hg).2 hk), k3.news j2.fr (fun k hk => Nat.le_trans HSz.out (k4 k hk).1)⟩)
    clear j1 j2 HE3 H3
    go_wp2_with fail
    have HP4 := Lib.hid (HP.out w4 F' (HV.out.2.step H4.out.2))
    rw [HH.out]
    refine HP4.out.mono ?_
    rintro e w5 ⟨rfl, f5⟩
    have H5 := Lib.hid f5
    clear f5 HP4
    go_wp2_with fail
    go_ret2
    exact ⟨by rw [HT.out]; rfl, F', VaultT.ok.fr0 H4.out.1 H5.out, H4.out.2.trans (Step.same H5.out)⟩
  · have hp' : panB (bl s) = false := by simpa using hp
    rw [hp'] at HI
    have HT := Lib.hid (show tokenB (maskV master n) v (bl s) = ([], 10) by unfold tokenB; rw [if_neg hp])
    clear h hG hml hn1 hn hv1 hp hp' HC
    go_enter Tryz.func111, Tryz.ntmps111
    go_wp2_with fail
    refine (HI.out _).mono ?_
    rintro e w1 ⟨rfl, f1⟩
    have H1 := Lib.hid f1
    clear f1
    go_wp2_with fail
    go_ret2
    exact ⟨by rw [HT.out]; rfl, F, VaultT.ok.fr0 HV.out.1 H1.out, Step.same H1.out⟩
set_option maxRecDepth 100000 in
set_option maxHeartbeats 1600000 in
theorem vback_any {w : World} {F : Nat → Prop} {vb n v : Nat} {master : List UInt8} (h : VaultT vb master n v w F) (hG : Glob w F) (hml : master.length ≤ 64) (hn1 : 1 ≤ n) (hn : n ≤ 64) (hv : v ≤ 255) (t : ByteArray) (ht : t.size < 4294967281) :
    Calls Tryz.prog 84 #[.pointer (some ⟨vb, 0, none⟩), .string t] w (VTokP (backB (maskV master n) v (bl t)) vb master n v F w) := by
  have HSp := Lib.hid (psplit_any hG t ht)
  have HV := Lib.hid (And.intro h hG)
  unfold VTokP
  cases hsp : splitB (bl t) with
  | none =>
    have e : splN t = (⟨#[]⟩, 0, 11) := by unfold splN; rw [hsp]
    have HB := Lib.hid (show backB (maskV master n) v (bl t) = ([], 11) by unfold backB; rw [hsp])
    rw [e] at HSp
    clear h hG hml hn1 hn hsp e
    go_enter Tryz.func84, Tryz.ntmps84
    go_wp2_with fail
    refine HSp.out.mono ?_
    rintro e w1 ⟨rfl, f1⟩
    have H1 := Lib.hid f1
    clear f1
    go_wp2_with fail
    go_ret2
    exact ⟨by rw [HB.out]; rfl, F, VaultT.ok.fr0 HV.out.1 H1.out, Step.same H1.out⟩
  | some q =>
    obtain ⟨l, i⟩ := q
    obtain ⟨hsh, i1, i255, _⟩ := split_some hsp
    have e : splN t = (strB l, i, 0) := by unfold splN; rw [hsp]
    rw [e] at HSp
    by_cases hvi : v < i
    · have HB := Lib.hid (show backB (maskV master n) v (bl t) = ([], 12) by unfold backB; rw [hsp]; dsimp only; rw [if_pos hvi])
      have q1 : (v : Int) < (i : Int) := by omega
      clear h hG hml hn1 hn hsp e hsh i1 i255 hvi
      go_enter Tryz.func84, Tryz.ntmps84
      go_wp2_with fail
      refine HSp.out.mono ?_
      rintro e w1 ⟨rfl, f1⟩
      have H1 := Lib.hid f1
      have HS1 := Lib.hid (version_any (VaultT.ok.fr0 HV.out.1 f1))
      clear f1
      go_wp2_with fail
      refine HS1.out.mono ?_
      rintro e w2 ⟨rfl, rfl⟩
      go_wp2_with fail
      go_ret2
      exact ⟨by rw [HB.out]; rfl, F, VaultT.ok.fr0 HV.out.1 H1.out, Step.same H1.out⟩
    · have q1 : (i : Int) ≤ (v : Int) := by omega
      obtain ⟨e1, e2, e3⟩ := cut_texts (s := strB l) hsh
      rw [bl_strB] at e1 e2 e3
      obtain ⟨_, l2, l3⟩ := shape_iff.1 hsh
      obtain ⟨c1, c2, c3⟩ := cut_len l2
      obtain ⟨m6, m9⟩ := mid_size hsh
      have hd := mid_dig (shape_iff.1 hsh).1
      have HC := Lib.hid (fun W => pcut_any (strB l) (by rw [strB_size]; unfold maxLen; omega) W)
      rw [e1, e2, e3, bl_strB, if_pos hsh] at HC
      have hhs := show_shape (maskV master n) i hsh
      have HH := Lib.hid (show (strB (binB l) ++ strB (ffxD (maskV master n i (binB l ++ lastB l)) (midB l))) ++ strB (lastB l) = strB (showB (maskV master n) i l) by rw [strB_add, strB_add]; rfl)
      have HCi := Lib.hid (fun (W : World) (hW : Fr noBlock w W) => cipher_any (VaultT.ok.fr0 h hW) hml hn1 hn i1 i255 ((hG.ito (n := i) (by omega)).fr0 hW) (strB (binB l)) (strB (lastB l)) (by rw [strB_size, c1]) (by rw [strB_size, c3]))
      unfold VCipP at HCi
      rw [ends_bl] at HCi
      have HEn := Lib.hid (fun (W : World) (cb : Nat) (G : Nat → Prop) (hc : CipT cb (keyK master n 1 i) (binB l ++ lastB l) W G) => fdec_any hc (keyK_len _ _ _ _) (by rw [List.length_append, c1, c3]) (strB (midB l)) hd (by rw [strB_size]; exact m6) (by rw [strB_size]; exact m9))
      unfold FCryP at HEn
      rw [bl_strB, show maskK (keyK master n 1 i) (binB l ++ lastB l) = maskV master n i (binB l ++ lastB l) from rfl] at HEn
      have z1 : (strB (binB l)).size = 6 := by rw [strB_size, c1]
      have z2 : (strB (ffxD (maskV master n i (binB l ++ lastB l)) (midB l))).size = (midB l).length := by rw [strB_size, ffxD_len]
      have z3 : (strB (lastB l)).size = 4 := by rw [strB_size, c3]
      have hhl : (strB (showB (maskV master n) i l)).size ≤ 19 := by rw [strB_size]; exact (shape_iff.1 hhs).2.2
      have HI := Lib.hid (fun W => is_any (strB (showB (maskV master n) i l)) (by unfold maxLen; omega) W)
      rw [bl_strB] at HI
      have HB := Lib.hid (show backB (maskV master n) v (bl t) = if panB (showB (maskV master n) i l) = true then (showB (maskV master n) i l, 0) else ([], 11) by unfold backB; rw [hsp]; dsimp only; rw [if_neg hvi])
      obtain ⟨a, hae⟩ : ∃ x, strB (binB l) = x := ⟨_, rfl⟩
      obtain ⟨m, hme⟩ : ∃ x, strB (midB l) = x := ⟨_, rfl⟩
      obtain ⟨z, hze⟩ : ∃ x, strB (lastB l) = x := ⟨_, rfl⟩
      obtain ⟨hd', hde⟩ : ∃ x, strB (ffxD (maskV master n i (binB l ++ lastB l)) (midB l)) = x := ⟨_, rfl⟩
      obtain ⟨hh, hhe⟩ : ∃ x, strB (showB (maskV master n) i l) = x := ⟨_, rfl⟩
      rw [hae, hme, hze] at HC
      rw [hae, hze] at HCi
      rw [hme, hde] at HEn
      rw [hae, hde, hze, hhe] at HH
      rw [hhe] at HI
      rw [hae] at z1
      rw [hde] at z2
      rw [hze] at z3
      have q2 : hd'.size ≤ 9 := by omega
      obtain ⟨bp, hbp⟩ : ∃ x, panB (showB (maskV master n) i l) = x := ⟨_, rfl⟩
      rw [hbp] at HI HB
      have HHe := Lib.hid hhe
      clear h hG hml hn1 hn hsp e hsh e1 e2 e3 l2 l3 c1 c2 c3 m6 m9 hd hhs hhl hae hme hze hde hhe z2 hbp i1 i255 hvi
      go_enter Tryz.func84, Tryz.ntmps84
      go_wp2_with fail
      refine HSp.out.mono ?_
      rintro e w1 ⟨rfl, f1⟩
      have H1 := Lib.hid f1
      have HS1 := Lib.hid (version_any (VaultT.ok.fr0 HV.out.1 f1))
      clear f1 HSp
      go_wp2_with fail
      refine HS1.out.mono ?_
      rintro e w2 ⟨rfl, rfl⟩
      go_wp2_with fail
      refine (HC.out _).mono ?_
      rintro e w2 ⟨rfl, f2⟩
      have H2 := Lib.hid (H1.out.trans' f2)
      have HCi2 := Lib.hid (HCi.out _ H2.out)
      have HSz := Lib.hid H2.out.size
      clear f2 HCi HS1 H1
      go_wp2_with fail
      refine HCi2.out.mono ?_
      rintro e w3 ⟨cb, F', G', rfl, k1, k2, k3, k4⟩
      have H3 := Lib.hid (And.intro k1 (And.intro k2 (And.intro ((Step.same H2.out).trans k3) k4)))
      have HE3 := Lib.hid (HEn.out _ _ _ k2)
      clear k1 k2 k3 k4 HCi2 H2
      go_wp2_with fail
      refine HE3.out.mono ?_
      rintro e w4 ⟨rfl, G2, j1, j2⟩
      have H4 := Lib.hid (show VaultT vb master n v w4 F' ∧ Step F F' w w4 from by
        obtain ⟨k1, k2, k3, k4⟩ := H3.out
        exact ⟨VaultT.ok.fr k1 j2.fr (fun k hk hg => (k4 k hg).2 hk), k3.news j2.fr (fun k hk => Nat.le_trans HSz.out (k4 k hk).1)⟩)
      clear j1 j2 HE3 H3
      go_wp2_with fail
      rw [HH.out]
      refine (HI.out _).mono ?_
      rintro e w5 ⟨rfl, f5⟩
      have H5 := Lib.hid f5
      clear f5
      cases bp with
      | true =>
        go_wp2_with fail
        go_ret2
        exact ⟨by rw [HB.out, if_pos trivial, ← HHe.out]; rfl, F', VaultT.ok.fr0 H4.out.1 H5.out, H4.out.2.trans (Step.same H5.out)⟩
      | false =>
        go_wp2_with fail
        go_ret2
        exact ⟨by rw [HB.out]; rfl, F', VaultT.ok.fr0 H4.out.1 H5.out, H4.out.2.trans (Step.same H5.out)⟩
end Go.Proofs.YtajhgejhdalobaaGreatDoor
namespace Go.Proofs.YtajhgejhdalobaaGreatDoor
open Go.RowKit

theorem keep_b {W : World} {g : Nat} {a b c d u v : Value} (h0 : W.cell? ⟨g, 0, none⟩ = some a) (h1 : W.cell? ⟨g, 1, none⟩ = some b) (h2 : W.cell? ⟨g + 1, 0, none⟩ = some c) (h3 : W.cell? ⟨g + 1, 1, none⟩ = some d) : ((W.setCell ⟨g + 1 + 1, 0, none⟩ u).setCell ⟨g + 1 + 1, 1, none⟩ v).cell? ⟨g, 0, none⟩ = some a ∧ ((W.setCell ⟨g + 1 + 1, 0, none⟩ u).setCell ⟨g + 1 + 1, 1, none⟩ v).cell? ⟨g, 1, none⟩ = some b ∧ ((W.setCell ⟨g + 1 + 1, 0, none⟩ u).setCell ⟨g + 1 + 1, 1, none⟩ v).cell? ⟨g + 1, 0, none⟩ = some c ∧ ((W.setCell ⟨g + 1 + 1, 0, none⟩ u).setCell ⟨g + 1 + 1, 1, none⟩ v).cell? ⟨g + 1, 1, none⟩ = some d := by
  have hf : Fr (fun k => k = g + 1 + 1) W ((W.setCell ⟨g + 1 + 1, 0, none⟩ u).setCell ⟨g + 1 + 1, 1, none⟩ v) := fr_set_at (fr_set_at (Fr.refl _ W) 0 _) 1 _
  exact ⟨(hf.cell (p := ⟨g, 0, none⟩) (World.block_lt_of_cell? _ _ h0) (by show ¬ g = _; omega)).trans h0, (hf.cell (p := ⟨g, 1, none⟩) (World.block_lt_of_cell? _ _ h1) (by show ¬ g = _; omega)).trans h1, (hf.cell (p := ⟨g + 1, 0, none⟩) (World.block_lt_of_cell? _ _ h2) (by show ¬ g + 1 = _; omega)).trans h2, (hf.cell (p := ⟨g + 1, 1, none⟩) (World.block_lt_of_cell? _ _ h3) (by show ¬ g + 1 = _; omega)).trans h3⟩
theorem keep_a {W : World} {g : Nat} {a b c d u v : Value} (h0 : W.cell? ⟨g, 0, none⟩ = some a) (h1 : W.cell? ⟨g, 1, none⟩ = some b) (h2 : W.cell? ⟨g + 1, 0, none⟩ = some c) (h3 : W.cell? ⟨g + 1, 1, none⟩ = some d) : ((W.setCell ⟨g + 1 + 1, 0, none⟩ u).setCell ⟨g + 1 + 1, 1, none⟩ v).drew.cell? ⟨g, 0, none⟩ = some a ∧ ((W.setCell ⟨g + 1 + 1, 0, none⟩ u).setCell ⟨g + 1 + 1, 1, none⟩ v).drew.cell? ⟨g, 1, none⟩ = some b ∧ ((W.setCell ⟨g + 1 + 1, 0, none⟩ u).setCell ⟨g + 1 + 1, 1, none⟩ v).drew.cell? ⟨g + 1, 0, none⟩ = some c ∧ ((W.setCell ⟨g + 1 + 1, 0, none⟩ u).setCell ⟨g + 1 + 1, 1, none⟩ v).drew.cell? ⟨g + 1, 1, none⟩ = some d := keep_b h0 h1 h2 h3
theorem saidB_add (tok : Bs) (a b : Nat) : saidB tok a b = [48, 48] ++ 32 :: (tok ++ 32 :: (itoB a ++ 32 :: itoB b)) := by simp [saidB]
set_option maxRecDepth 100000 in
set_option maxHeartbeats 3200000 in
theorem text_any {w : World} {F : Nat → Prop} (hG : Glob w F) (tok : ByteArray) (a b : Nat) (ht : tok.size ≤ 100000) (ha : a ≤ 9223372036854775807) (hb : b ≤ 9223372036854775807) : Calls Tryz.prog 113 #[.agg #[.string tok, .int .i64 (a : Int), .int .i64 (b : Int)]] w fun e w' => e = .returned (.string (strB (saidB (bl tok) a b))) ∧ Fr noBlock w w' := by
  have HIa := Lib.hid (show ∀ W, Fr noBlock w W → Calls Tryz.prog 61 #[.int .i64 (a : Int)] W fun e w' => e = .returned (.string (strB (itoB a))) ∧ Fr noBlock W w' from fun W hW => ito_glob (hG.fr hW) a ha)
  have HIb := Lib.hid (show ∀ W, Fr noBlock w W → Calls Tryz.prog 61 #[.int .i64 (b : Int)] W fun e w' => e = .returned (.string (strB (itoB b))) ∧ Fr noBlock W w' from fun W hW => ito_glob (hG.fr hW) b hb)
  have za : (strB (itoB a)).size ≤ 20 := by rw [strB_size]; exact (ito_len (k := 20) (by decide) (by omega)).2
  have zb : (strB (itoB b)).size ≤ 20 := by rw [strB_size]; exact (ito_len (k := 20) (by decide) (by omega)).2
  have HJ := Lib.hid (show ∀ (W : World) (g : Nat), W.heap[g]? = some (.cells #[.string ⟨#[48, 48]⟩, .string tok, .string (strB (itoB a)), .string (strB (itoB b))] 9 (0, 0)) → Calls Tryz.prog 176 #[.slice (some ⟨g, 0, none⟩) 4 4, .string ⟨#[32]⟩] W fun e w' => e = .returned (.string (strB (saidB (bl tok) a b))) ∧ Fr noBlock W w' from fun W g hg => by
    have e : Lib.join (([⟨#[48, 48]⟩, tok, strB (itoB a), strB (itoB b)] : List ByteArray).map (·.data.toList)) (⟨#[32]⟩ : ByteArray).data.toList = saidB (bl tok) a b := by
      show Lib.join [[48, 48], bl tok, itoB a, itoB b] [32] = _
      rw [saidB_add]
      unfold Lib.join
      simp [List.intercalate, List.intersperse]
    have hl : (saidB (bl tok) a b).length ≤ 140737488355328 := by
      rw [strB_size] at za zb
      have := bl_len tok
      simp [saidB]
      omega
    refine (Tryz.strings_Join g 0 4 [⟨#[48, 48]⟩, tok, strB (itoB a), strB (itoB b)] ⟨#[32]⟩ W (fun j x hx => ?_) (heap_lt hg) (by simp) (Nat.le_refl _) (by rw [e]; exact hl)).mono ?_
    · rw [Nat.zero_add, cell_of hg]
      rcases (show j = 0 ∨ j = 1 ∨ j = 2 ∨ j = 3 ∨ 4 ≤ j by omega) with rfl | rfl | rfl | rfl | h4
      · cases hx; rfl
      · cases hx; rfl
      · cases hx; rfl
      · cases hx; rfl
      · rw [List.getElem?_eq_none (by simpa using h4)] at hx
        cases hx
    · rintro e' w' ⟨rfl, hb⟩
      exact ⟨by rw [e]; rfl, Fr.of_below hb⟩)
  obtain ⟨sa, hsa⟩ : ∃ s, strB (itoB a) = s := ⟨_, rfl⟩
  obtain ⟨sb, hsb⟩ : ∃ s, strB (itoB b) = s := ⟨_, rfl⟩
  rw [hsa] at HIa HJ za
  rw [hsb] at HIb HJ zb
  have HR := Lib.hid (show True from trivial)
  clear hG ha hb hsa hsb za zb HR
  obtain ⟨R, hR⟩ : ∃ R, strB (saidB (bl tok) a b) = R := ⟨_, rfl⟩
  rw [hR] at HJ ⊢
  clear hR
  go_enter Tryz.func113, Tryz.ntmps113
  go_upto_region 1 with fail
  refine wp_at (fun W => W.heap[w.heap.size]? = some (.cells #[.string tok, .int .i64 (a : Int), .int .i64 (b : Int)] 175 (0, 0)) ∧ Fr noBlock w W) ⟨heap_new w _, (Fr.refl _ w).alloc _⟩ ?_
  obtain ⟨g, hg⟩ : ∃ g, w.heap.size = g := ⟨_, rfl⟩
  rw [hg]
  rintro w1 ⟨b1, f1⟩
  have H1 := Lib.hid f1
  have HK := Lib.hid (show ∀ W, Fr noBlock w1 W → W.cell? ⟨g, 0, none⟩ = some (.string tok) ∧ W.cell? ⟨g, 1, none⟩ = some (.int .i64 (a : Int)) ∧ W.cell? ⟨g, 2, none⟩ = some (.int .i64 (b : Int)) from fun W hW => by
    have h := hW.obj b1 (fun z => z)
    exact ⟨cell_of h 0, cell_of h 1, cell_of h 2⟩)
  obtain ⟨c0, c1, c2⟩ := HK.out w1 (Fr.refl _ _)
  clear b1 f1 hg
  go_region_held3 (fun W => W.cell? ⟨g, 0, none⟩ = some (.string tok) ∧ W.cell? ⟨g, 1, none⟩ = some (.int .i64 (a : Int)) ∧ W.cell? ⟨g, 2, none⟩ = some (.int .i64 (b : Int)))
    (first | exact HK.out _ (by repeat (first | (with_reducible exact Fr.refl _ _) | (with_reducible refine Fr.drew ?_) | (with_reducible refine Fr.alloc ?_ _) | (with_reducible refine Fr.trans' ?_ f2) | (with_reducible refine Fr.trans' ?_ f3) | (with_reducible refine Fr.trans' ?_ f4))) | fail "nokeep")
    (first
      | (go_at_call 61; (with_reducible refine (HIa.out _ ?_).mono ?_); (exact H1.out.trans' (by repeat (first | (with_reducible exact Fr.refl _ _) | (with_reducible refine Fr.drew ?_) | (with_reducible refine Fr.alloc ?_ _) | (with_reducible refine Fr.trans' ?_ f3)))); rintro e w2 ⟨rfl, f2⟩)
      | (go_at_call 61; (with_reducible refine (HIb.out _ ?_).mono ?_); (exact H1.out.trans' (by repeat (first | (with_reducible exact Fr.refl _ _) | (with_reducible refine Fr.drew ?_) | (with_reducible refine Fr.alloc ?_ _) | (with_reducible refine Fr.trans' ?_ f2)))); rintro e w3 ⟨rfl, f3⟩)
      | (go_at_call 176; (with_reducible refine (HJ.out _ _ ?_).mono ?_); (exact Fr.obj (S := noBlock) (by repeat (first | (with_reducible exact Fr.refl _ _) | (with_reducible refine Fr.drew ?_))) (heap_new _ _) (fun z => z)); rintro e w4 ⟨rfl, f4⟩)
      | fail "noarm")
  all_goals
    have H4 := Lib.hid (H1.out.trans' (Fr.trans' (show Fr noBlock w1 _ from (by repeat (first | (with_reducible exact Fr.refl _ _) | (with_reducible refine Fr.drew ?_) | (with_reducible refine Fr.alloc ?_ _) | (with_reducible refine Fr.trans' ?_ f2) | (with_reducible refine Fr.trans' ?_ f3)))) f4))
    clear f2 f3 f4
    go_wp2_with fail
    go_ret
    exact ⟨rfl, H4.out⟩
set_option maxRecDepth 100000 in
set_option maxHeartbeats 3200000 in
theorem approved_any {w : World} {F : Nat → Prop} (hG : Glob w F) (t : ByteArray) (h4 : t.size = 4) {ao : Option Addr} {q : List Fld} (h : RowRd FldR w ao q) (cap : Nat) (hl : q.length ≤ maxLen) (tok : ByteArray) (a : Nat) (b : Int) (ha : a ≤ 9223372036854775807) :
    Calls Tryz.prog 114 #[msgV t ao q.length cap, .agg #[.string tok, .int .i64 (a : Int), .int .i64 b]] w (AnsP (upT t) (ansL q cOk [⟨32, strB (itoB a)⟩, ⟨48, tok⟩]) w) := by
  have HI := Lib.hid (show ∀ W, Fr noBlock w W → Calls Tryz.prog 61 #[.int .i64 (a : Int)] W fun e w' => e = .returned (.string (strB (itoB a))) ∧ Fr noBlock W w' from fun W hW => ito_glob (hG.fr hW) a ha)
  have HA := Lib.hid (show ∀ (W : World) (g : Nat), Fr noBlock w W → W.heap[g]? = some (.cells #[.int .i64 32, .string (strB (itoB a)), .int .i64 48, .string tok] 31 (0, 0)) → Calls Tryz.prog 46 #[msgV t ao q.length cap, .string ⟨#[48, 48]⟩, .slice (some ⟨g, 0, none⟩) 2 2] W (AnsP (upT t) (ansL q cOk [⟨32, strB (itoB a)⟩, ⟨48, tok⟩]) W) from fun W g hW hg =>
    answer_any t h4 (h.fr0 hW) cap hl ⟨#[48, 48]⟩ (more := [⟨32, strB (itoB a)⟩, ⟨48, tok⟩]) (RowRd.of_flat hg rfl (by unfold maxLen; simp)) 2 (by simp))
  unfold AnsP at HA
  obtain ⟨X, hX⟩ : ∃ X, ansL q cOk [⟨32, strB (itoB a)⟩, ⟨48, tok⟩] = X := ⟨_, rfl⟩
  obtain ⟨sa, hsa⟩ : ∃ s, strB (itoB a) = s := ⟨_, rfl⟩
  rw [hX, hsa] at HA
  rw [hX]
  rw [hsa] at HI
  obtain ⟨T, hT⟩ : ∃ T, upT t = T := ⟨_, rfl⟩
  rw [hT] at HA ⊢
  obtain ⟨qn, hqn⟩ : ∃ x, q.length = x := ⟨_, rfl⟩
  rw [hqn] at HA ⊢
  clear hG h hl ha hX hsa hT hqn
  unfold AnsP
  go_enter Tryz.func114, Tryz.ntmps114
  go_upto_region 1 with fail
  refine wp_at (fun W => W.heap[w.heap.size]? = some (.cells #[.string t, .slice ao qn cap] 85 (0, 0)) ∧ W.heap[w.heap.size + 1]? = some (.cells #[.string tok, .int .i64 (a : Int), .int .i64 b] 175 (0, 0)) ∧ W.heap[w.heap.size + 1 + 1]? = some (.cells #[.string ⟨#[]⟩, .slice none 0 0] 25 (0, 0)) ∧ Fr noBlock w W) ?_ ?_
  · have hs1 : (w.alloc (.cells #[.string t, .slice ao qn cap] 85)).heap.size = w.heap.size + 1 := by simp
    have b1 := heap_new (w.alloc (.cells #[.string t, .slice ao qn cap] 85)) (.cells #[.string tok, .int .i64 (a : Int), .int .i64 b] 175)
    rw [hs1] at b1
    have hs2 : ((w.alloc (.cells #[.string t, .slice ao qn cap] 85)).alloc (.cells #[.string tok, .int .i64 (a : Int), .int .i64 b] 175)).heap.size = w.heap.size + 1 + 1 := by simp
    have b2 := heap_new ((w.alloc (.cells #[.string t, .slice ao qn cap] 85)).alloc (.cells #[.string tok, .int .i64 (a : Int), .int .i64 b] 175)) (.cells #[.string ⟨#[]⟩, .slice none 0 0] 25)
    rw [hs2] at b2
    exact ⟨heap_old _ (heap_old _ (heap_new w _)), heap_old _ b1, b2, (((Fr.refl noBlock w).alloc _).alloc _).alloc _⟩
  · obtain ⟨g, hg⟩ : ∃ g, w.heap.size = g := ⟨_, rfl⟩
    have Hg := Lib.hid hg
    rw [hg]
    rintro w1 ⟨b1, b2, b3, f1⟩
    have H1 := Lib.hid (And.intro f1 b3)
    have HK := Lib.hid (show ∀ W, Fr noBlock w1 W → W.cell? ⟨g, 0, none⟩ = some (.string t) ∧ W.cell? ⟨g, 1, none⟩ = some (.slice ao qn cap) ∧ W.cell? ⟨g + 1, 0, none⟩ = some (.string tok) ∧ W.cell? ⟨g + 1, 1, none⟩ = some (.int .i64 (a : Int)) from fun W hW => by
      have h := hW.obj b1 (fun z => z)
      have h' := hW.obj b2 (fun z => z)
      exact ⟨cell_of h 0, cell_of h 1, cell_of h' 0, cell_of h' 1⟩)
    have HM := Lib.hid (show ∀ W, Fr noBlock w1 W → W.cell? ⟨g + 1 + 1, 0, none⟩ = some (.string ⟨#[]⟩) ∧ W.cell? ⟨g + 1 + 1, 1, none⟩ = some (.slice none 0 0) ∧ W.frozen? ⟨g + 1 + 1, 0, none⟩ = false ∧ W.frozen? ⟨g + 1 + 1, 1, none⟩ = false from fun W hW => by
      have h := hW.obj b3 (fun z => z)
      exact ⟨cell_of h 0, cell_of h 1, free_of h 0, free_of h 1⟩)
    obtain ⟨c0, c1, c2, c3⟩ := HK.out w1 (Fr.refl _ _)
    clear b1 b2 b3 f1 hg
    go_region_held3 (fun W => W.cell? ⟨g, 0, none⟩ = some (.string t) ∧ W.cell? ⟨g, 1, none⟩ = some (.slice ao qn cap) ∧ W.cell? ⟨g + 1, 0, none⟩ = some (.string tok) ∧ W.cell? ⟨g + 1, 1, none⟩ = some (.int .i64 (a : Int)))
      (first | exact keep_a k0 k1 k2 k3 | exact keep_b k0 k1 k2 k3 | exact HK.out _ (by repeat (first | (with_reducible exact Fr.refl _ _) | (with_reducible refine Fr.drew ?_) | (with_reducible refine Fr.alloc ?_ _) | (with_reducible refine Fr.trans' ?_ f2) | (with_reducible refine Fr.trans' ?_ f3))) | fail "nokeep")
      (first
        | (go_at_call 61; (with_reducible refine (HI.out _ ?_).mono ?_); (exact H1.out.1.trans' (by repeat (first | (with_reducible exact Fr.refl _ _) | (with_reducible refine Fr.drew ?_) | (with_reducible refine Fr.alloc ?_ _)))); rintro e w2 ⟨rfl, f2⟩)
        | (go_at_call 46; (with_reducible refine (HA.out _ _ ?_ ?_).mono ?_); (exact H1.out.1.trans' (by repeat (first | (with_reducible exact Fr.refl _ _) | (with_reducible refine Fr.drew ?_) | (with_reducible refine Fr.alloc ?_ _) | (with_reducible refine Fr.trans' ?_ f2)))); (exact Fr.obj (S := noBlock) (by repeat (first | (with_reducible exact Fr.refl _ _) | (with_reducible refine Fr.drew ?_))) (heap_new _ _) (fun z => z)); rintro e w3 ⟨⟨xa, xn, xc⟩, rfl, j1, j2, f3, j4⟩; dsimp only [SV.val] at j1 j2 j4 ⊢; have F3 := Lib.hid (show Fr noBlock w1 w3 from Fr.trans' (by repeat (first | (with_reducible exact Fr.refl _ _) | (with_reducible refine Fr.drew ?_) | (with_reducible refine Fr.alloc ?_ _) | (with_reducible refine Fr.trans' ?_ f2))) f3); have J3 := Lib.hid (And.intro j1 (And.intro j2 (show ∀ k, (Value.slice xa xn xc).ownBlock = some k → w1.heap.size ≤ k from fun k hk => Nat.le_trans (Fr.size (S := noBlock) (by repeat (first | (with_reducible exact Fr.refl _ _) | (with_reducible refine Fr.drew ?_) | (with_reducible refine Fr.alloc ?_ _) | (with_reducible refine Fr.trans' ?_ f2)))) (j4 k hk)))); clear j1 j2 j4; obtain ⟨k0, k1, k2, k3⟩ := HK.out w3 F3.out; obtain ⟨m0, m1, m2, m3⟩ := HM.out w3 F3.out)
        | fail "noarm")
    all_goals
      have hb := F3.out.obj H1.out.2 (fun z => z)
      have hlt := heap_lt H1.out.2
      have hgw := Hg.out
      clear m0 m1 m2 m3 k0 k1 k2 k3
      go_wp2_with fail
      refine bodyPost_ret (v := .agg #[.string T, .slice xa xn xc]) (results_cell_row Tryz.results114 _ _ (g + 1 + 1) _ _ _ _ rfl (msg_set hb _ _) Tryz.underlying25 rfl info_msg) rfl ⟨⟨xa, xn, xc⟩, rfl, J3.out.1, ?_, ?_, ?_⟩
      · exact J3.out.2.1.fr (fr_set_at (fr_set_at (Fr.refl _ w3) 0 _) 1 _) (fun k hk e => by have := J3.out.2.2 k hk; omega)
      · exact (((H1.out.1.trans' F3.out).setCell (.inr (by show w.heap.size ≤ g + 1 + 1; omega)) _).setCell (.inr (by show w.heap.size ≤ g + 1 + 1; omega)) _)
      · exact fun k hk => by have := J3.out.2.2 k hk; have := H1.out.1.size; omega
end Go.Proofs.YtajhgejhdalobaaGreatDoor
