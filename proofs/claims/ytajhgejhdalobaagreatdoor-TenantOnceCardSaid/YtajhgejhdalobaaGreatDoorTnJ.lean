/-
  A TENANT: THE WALK of Handle.
-/
import Derived.Test.YtajhgejhdalobaaGreatDoorTnH
namespace Go.Proofs.YtajhgejhdalobaaGreatDoor
open Go.RowKit

section
variable {M : MaskF} {S : TenS} {t : ByteArray} {q : List Fld}
theorem backT_form (h : lacksB q [41, 90] = true) : backT M S t q = (S, ansM t q cForm []) := by unfold backT; rw [if_pos h]
variable (h0 : lacksB q [41, 90] = false)
include h0
theorem backT_missing (h1 : Lg.askP S.ps (revK q) = none) : backT M S t q = (S, ansM t q cMissing []) := by unfold backT; rw [if_neg (by rw [h0]; simp), h1]
theorem backT_no {p : Lg.Post} (h1 : Lg.askP S.ps (revK q) = some p) (h2 : Lg.revE S.ps (revK q) ≠ 0) : backT M S t q = (S, ansM t q cOk []) := by unfold backT; rw [if_neg (by rw [h0]; simp), h1]; dsimp only; rw [if_neg h2]
theorem backT_yes {p : Lg.Post} (h1 : Lg.askP S.ps (revK q) = some p) (h2 : Lg.revE S.ps (revK q) = 0) {tok l : Bs} {a b : Nat} (hs : p.answer = strB (saidB tok a b)) (hb : backB M S.v tok = (l, 0)) (k1 : 1 ≤ a) (k2 : a ≤ 99) (k3 : b ≤ 1099511627776) :
    backT M S t q = ({ S with ps := Lg.revL S.ps (revK q), us := Lm.undoL S.us S.rule (cardOf M l) (Lg.revN S.ps (revK q)) b }, ansM t q cOk []) := by
  unfold backT
  rw [if_neg (by rw [h0]; simp), h1]
  dsimp only
  rw [if_pos h2, hs, bl_strB, read_said hb k1 k2 k3]
  dsimp only
  rw [hb]
end
set_option maxRecDepth 100000 in
set_option maxHeartbeats 6400000 in
theorem back_any {A : TenW} {K : Bs} {n : Nat} {S : TenS} {w : World} {H : Nat → Prop} (h : TenA A K n S w H) (hG : Glob w H) (hp : TenP K n S.v) (ho : TenantOk (maskV K n) S) (t : ByteArray) (h4 : t.size = 4) {ao : Option Addr} {q : List Fld} (hq : Bes FldR ao q w H) (hr : RightL q) (cap : Nat) (hl : q.length ≤ maxLen) :
    Calls Tryz.prog 44 #[.pointer (some ⟨A.tb, 0, none⟩), msgV t ao q.length cap] w (AnsT A K n (backT (maskV K n) S t q).1 (backT (maskV K n) S t q).2 H w) := by
  have HK0 := Lib.hid (AskK.start h hG hq)
  have HC := Lib.hid (askC (w := w) (H := H) (A := A) (K := K) (n := n) (S := S) h4 (ao := ao) (cap := cap) hl)
  have v90 := val_len hr (n := 90) (by decide)
  have v41 := val_len hr (n := 41) (by decide)
  have hks : (revK q).size ≤ maxLen := by
    unfold revK
    rw [ByteArray.size_append, ByteArray.size_extract]
    unfold maxLen
    omega
  have HV90 := Lib.hid (fun W L => HC.out.value W L 90)
  have HV41 := Lib.hid (fun W L => HC.out.value W L 41)
  have HLa := Lib.hid (fun W L g => HC.out.lacks2 W L g 41 90)
  have HAk := Lib.hid (fun W L => HC.out.ask W L (revK q) hks)
  have HRv := Lib.hid (show ∀ W L, AskK w H A K n S ao q L W → Calls Tryz.prog 115 #[.pointer (some ⟨A.ll, 0, none⟩), .string (revK q)] W (fun e w' => e = .returned (.tuple #[.int .i64 (Lg.revN S.ps (revK q)), .int .i64 (Lg.revE S.ps (revK q))]) ∧ AskK w H A K n { S with ps := Lg.revL S.ps (revK q) } ao q L w') from fun W L k => k.call fun H' t g => by
    obtain ⟨G, g1, g2, g3⟩ := t.ledger
    refine (Lg.reverse_at g1 _ hks rfl rfl rfl).mono ?_
    rintro e w' ⟨F', k1, rfl, k2⟩
    obtain ⟨H', t1, t2⟩ := g3 _ _ _ k1 (step_lg k2)
    exact ⟨rfl, H', t1, t2⟩)
  have HRd := Lib.hid (show ∀ p, Lg.askP S.ps (revK q) = some p → ∃ tok l a b, panB l = true ∧ (Lg.revE S.ps (revK q) = 0 → lacksB q [41, 90] = false → backT (maskV K n) S t q = ({ S with ps := Lg.revL S.ps (revK q), us := Lm.undoL S.us S.rule (cardOf (maskV K n) l) (Lg.revN S.ps (revK q)) (b : Nat) }, ansM t q cOk [])) ∧ (∀ W L S2, S2.v = S.v → AskK w H A K n S2 ao q L W → Calls Tryz.prog 116 #[.pointer (some ⟨A.tb, 0, none⟩), .string p.answer] W (fun e w' => e = .returned (.tuple #[.agg #[.string (strB tok), .int .i64 ((a : Nat) : Int), .int .i64 (b : Int)], .bool true]) ∧ AskK w H A K n S2 ao q L w')) ∧ (∀ W L S2, S2.v = S.v → AskK w H A K n S2 ao q L W → Calls Tryz.prog 84 #[.pointer (some ⟨A.va, 0, none⟩), .string (strB tok)] W (fun e w' => e = .returned (.tuple #[.string (strB l), .int .i64 0]) ∧ AskK w H A K n S2 ao q L w')) from fun p hpp => by
    obtain ⟨tok, l, a, b, z1, z2, z3, z4, z5⟩ := said_of ho hpp
    obtain ⟨_, _, _, _, _, _, _, _, _, hpan⟩ := back_tok z2
    have hts : tok.length ≤ 60 := by
      have := said_len z2 z4 z5
      rw [saidB_add] at this
      simp at this
      omega
    refine ⟨tok, l, a, b, hpan, fun x y => backT_yes y hpp x z1 z2 z3 z4 z5, fun W L S2 hv k => k.call fun H' t g => read_ok t g (hv ▸ hp) (by rw [hv]; exact z2) z3 z4 z5 z1, fun W L S2 hv k => k.call fun H' t g => ?_⟩
    obtain ⟨G, g1, g2, g3⟩ := t.vault
    rw [hv] at g1
    have hc := vback_any g1 (g.sub g2) hp.k64 hp.n1 hp.n64 hp.v99 (strB tok) (by rw [strB_size]; omega)
    unfold VTokP at hc
    rw [bl_strB, z2] at hc
    refine hc.mono ?_
    rintro e w' ⟨rfl, F', k1, k2⟩
    obtain ⟨H', t1, t2⟩ := g3 _ _ _ k1 k2
    rw [← hv] at t1
    exact ⟨rfl, H', t1, t2⟩)
  have HCd := Lib.hid (show ∀ l, panB l = true → ∀ W L S2, S2.v = S.v → AskK w H A K n S2 ao q L W → Calls Tryz.prog 110 #[.pointer (some ⟨A.tb, 0, none⟩), .string (strB l)] W (fun e w' => e = .returned (.string (cardOf (maskV K n) l)) ∧ AskK w H A K n S2 ao q L w') from fun l hl' W L S2 hv k => k.call fun H' t g => by
    have hc := card_any t g (hv ▸ hp) (strB l) (by rw [bl_strB]; exact hl')
    rw [bl_strB] at hc
    exact hc)
  have HUn := Lib.hid (show ∀ W L S2 c a b, S2.us = S.us → S2.rule = S.rule → AskK w H A K n S2 ao q L W → Calls Tryz.prog 117 #[.pointer (some ⟨A.bk, 0, none⟩), .agg #[.int .i64 S.rule.ticks, .int .i64 S.rule.times, .int .i64 S.rule.sum, .int .i64 S.rule.once], .string c, .int .i64 a, .int .i64 b] W (fun e w' => (∃ x, e = .returned (.int .i64 x)) ∧ AskK w H A K n { S2 with us := Lm.undoL S.us S.rule c a b } ao q L w') from fun W L S2 c a b hu hrl k => k.call fun H' t g => by
    obtain ⟨G, g1, g2, g3⟩ := t.book
    rw [hu] at g1
    refine (Lm.undo_any g1 S.rule c a b rfl rfl).mono ?_
    rintro e w' ⟨F', rfl, k1, k2⟩
    obtain ⟨H', t1, t2⟩ := g3 _ _ _ k1 k2
    exact ⟨⟨_, rfl⟩, H', t1, t2⟩)
  have T1 := Lib.hid (fun x => backT_form (M := maskV K n) (S := S) (t := t) (q := q) x)
  have T2 := Lib.hid (fun x y => backT_missing (M := maskV K n) (S := S) (t := t) (q := q) x y)
  have T3 := Lib.hid (fun x p y z => backT_no (M := maskV K n) (S := S) (t := t) (q := q) x (p := p) y z)
  have HRl := Lib.hid (show Lg.revE S.ps (revK q) ≠ 0 → Lg.revL S.ps (revK q) = S.ps from Lg.revL_no)
  simp only [ansM] at T1 T2 T3 HRd
  have HTen := Lib.hid (show ∀ W L S2, AskK w H A K n S2 ao q L W → W.cell? ⟨A.tb, 0, none⟩ = some (.pointer (some ⟨A.va, 0, none⟩)) ∧ W.cell? ⟨A.tb, 8, none⟩ = some (.pointer (some ⟨A.ll, 0, none⟩)) ∧ W.cell? ⟨A.tb, 7, none⟩ = some (.pointer (some ⟨A.bk, 0, none⟩)) ∧ W.cell? ⟨A.tb, 3, none⟩ = some (.int .i64 S2.rule.ticks) ∧ W.cell? ⟨A.tb, 4, none⟩ = some (.int .i64 S2.rule.times) ∧ W.cell? ⟨A.tb, 5, none⟩ = some (.int .i64 S2.rule.sum) ∧ W.cell? ⟨A.tb, 6, none⟩ = some (.int .i64 S2.rule.once) from fun W L S2 k => by
    obtain ⟨a, _, _, d, e, f, g, b, c⟩ := k.ten.choose_spec.cells
    exact ⟨a, c, b, d, e, f, g⟩)
  obtain ⟨U, hU⟩ : ∃ T, upT t = T := ⟨_, rfl⟩
  have HAns := Lib.hid (show ∀ W L S2 c, AskK w H A K n S2 ao q L W → Calls Tryz.prog 46 #[msgV t ao q.length cap, .string c, .slice none 0 0] W (fun e w' => ∃ sv : SV, e = .returned (.agg #[.string U, sv.val]) ∧ AskA w H A K n S2 L (U, lN q c) sv w') from fun W L S2 c k => by
    rw [← hU]
    exact (askC (w := w) (H := H) (A := A) (K := K) (n := n) (S := S2) h4 (ao := ao) (cap := cap) hl).answer W L c k)
  obtain ⟨r, hr'⟩ : ∃ r, backT (maskV K n) S t q = r := ⟨_, rfl⟩
  rw [hr'] at T1 T2 T3 HRd ⊢
  have e90 : lacksB q [41, 90] = false → 10 ≤ (valS 90 q).size := fun x => by
    have h1 := lacks_no x (n := 90) (by decide)
    have h2 := (fldv_len (val_right hr h1)).2 (by decide)
    have h3 : longOf 90 = 42 := by decide
    rw [h3] at h2
    change ((valS 90 q).size : Int) = 42 at h2
    omega
  have HkE := Lib.hid (show revK q = (valS 90 q).extract 4 10 ++ valS 41 q from rfl)
  have q4 : ((valS 90 q).extract 4 10).size + (valS 41 q).size ≤ 9223372036854775807 := by
    rw [ByteArray.size_extract]
    omega
  obtain ⟨lk, hlk⟩ : ∃ b, lacksB q [41, 90] = b := ⟨_, rfl⟩
  rw [hlk] at HLa T1 T2 T3 HRd e90
  have T1 := Lib.hid (show lk = true → r = (S, (U, lN q cForm)) from fun x => by rw [← hU]; exact T1.out x)
  have T2 := Lib.hid (show lk = false → Lg.askP S.ps (revK q) = none → r = (S, (U, lN q cMissing)) from fun x y => by rw [← hU]; exact T2.out x y)
  have T3 := Lib.hid (show lk = false → ∀ p, Lg.askP S.ps (revK q) = some p → Lg.revE S.ps (revK q) ≠ 0 → r = (S, (U, lN q cOk)) from fun x p y z => by rw [← hU]; exact T3.out x p y z)
  rw [hU] at HRd
  obtain ⟨ky, hky⟩ : ∃ x, revK q = x := ⟨_, rfl⟩
  rw [hky] at HAk HRv HRd T2 T3 HkE HRl
  obtain ⟨po, hpo⟩ : ∃ b, Lg.askP S.ps ky = b := ⟨_, rfl⟩
  rw [hpo] at HAk HRd T2 T3
  obtain ⟨rn, hrn⟩ : ∃ b, Lg.revN S.ps ky = b := ⟨_, rfl⟩
  obtain ⟨re, hre⟩ : ∃ b, Lg.revE S.ps ky = b := ⟨_, rfl⟩
  obtain ⟨rl, hrl⟩ : ∃ b, Lg.revL S.ps ky = b := ⟨_, rfl⟩
  rw [hrn, hre, hrl] at HRv HRd
  rw [hre, hrl] at HRl
  rw [hre] at T3
  obtain ⟨qn, hqn⟩ : ∃ x, q.length = x := ⟨_, rfl⟩
  rw [hqn] at HV90 HV41 HLa HAns ⊢
  obtain ⟨V90, hV90⟩ : ∃ x, valS 90 q = x := ⟨_, rfl⟩
  obtain ⟨V41, hV41⟩ : ∃ x, valS 41 q = x := ⟨_, rfl⟩
  rw [hV90] at HV90 HkE e90 q4
  rw [hV41] at HV41 HkE q4
  clear h hG hp ho hq hl hr v90 v41 hks HC hU hr' hlk hky hpo hrn hre hrl hqn hV90 hV41
  have HkE' := HkE.out
  subst HkE'
  go_enter Tryz.func44, Tryz.ntmps44
  go_upto_region 1 with fail
  refine wp_at (fun W => AskK w H A K n S ao q [(w.heap.size + 1, .cells #[.string ⟨#[]⟩, .slice none 0 0] 25 (0, 0)), (w.heap.size, .cells #[.string t, .slice ao qn cap] 85 (0, 0))] W) ?_ ?_
  · have k1 := HK0.out.new (.cells #[.string t, .slice ao qn cap] 85 (0, 0))
    have k3 := k1.new (.cells #[.string ⟨#[]⟩, .slice none 0 0] 25 (0, 0))
    have s1 : (w.alloc (.cells #[.string t, .slice ao qn cap] 85 (0, 0))).heap.size = w.heap.size + 1 := by simp
    rw [s1] at k3
    exact k3
  obtain ⟨g, hg⟩ : ∃ g, w.heap.size = g := ⟨_, rfl⟩
  rw [hg]
  rintro w1 k1
  have H1 := Lib.hid k1
  have c0 := cell_of (k1.at' in1) 0
  have c1 := cell_of (k1.at' in1) 1
  clear hg k1 HK0
  go_wp2_with fail
  refine (HLa.out _ _ _ (H1.out.fr ((Fr.refl _ _).alloc _)) (heap_new _ _)).mono ?_
  rintro e w3 ⟨rfl, k3⟩
  have H3 := Lib.hid k3
  have c0 := cell_of (k3.at' in1) 0
  have c1 := cell_of (k3.at' in1) 1
  clear k3 H1 HLa
  cases lk with
  | true =>
    go_wp2_with fail
    refine ((HAns.out _ _ S ⟨#[51, 48]⟩ H3.out)).mono ?_
    rintro e w9 ⟨⟨xa, xn, xc⟩, he9, a1⟩
    subst he9
    have b9 := a1.at' in0
    have d0 := cell_of b9 0
    have d1 := cell_of b9 1
    have d2 := free_of b9 0
    have d3 := free_of b9 1
    have H9 := Lib.hid a1
    clear a1 b9
    try dsimp only [SV.val]
    go_wp2_with fail
    refine bodyPost_ret (v := .agg #[_, .slice xa xn xc]) (results_cell_row Tryz.results44 _ _ (g + 1) _ _ _ _ rfl (msg_set (H9.out.at' in0) _ _) Tryz.underlying25 rfl info_msg) rfl (by rw [show _ = _ from (T1.out (by first | rfl | trivial | assumption))]; exact H9.out.done in0)
  | false =>
  have e90 := e90 rfl
  have e91 : (10 : Int) ≤ (V90.size : Int) := by omega
  have q7 : ¬ 9223372036854775807 < 6 + V41.size := by
    rw [ByteArray.size_extract] at q4
    omega
  have q8 : ¬ 9223372036854775807 < min 10 V90.size - 4 + V41.size := by
    rw [ByteArray.size_extract] at q4
    omega
  have q9 : ¬ 9223372036854775807 < (V90.extract 4 10).size + V41.size := by omega
  have q5 : 6 + V41.size ≤ 9223372036854775807 := by
    rw [ByteArray.size_extract] at q4
    omega
  have q6 : min 10 V90.size - 4 + V41.size ≤ 9223372036854775807 := by
    rw [ByteArray.size_extract] at q4
    exact q4
  have H5' := Lib.hid (H3.out.fr (Fr.drew (Fr.refl _ _)))
  have HRq := Lib.hid (show ∀ W, AskK w H A K n S ao q [(g + 1, .cells #[.string ⟨#[]⟩, .slice none 0 0] 25 (0, 0)), (g, .cells #[.string t, .slice ao qn cap] 85 (0, 0))] W → W.cell? ⟨g, 0, none⟩ = some (.string t) ∧ W.cell? ⟨g, 1, none⟩ = some (.slice ao qn cap) from fun W k => ⟨cell_of (k.at' in1) 0, cell_of (k.at' in1) 1⟩)
  go_upto_region 3 with fail
  go_region_held3 (fun W => W.cell? ⟨g, 0, none⟩ = some (.string t) ∧ W.cell? ⟨g, 1, none⟩ = some (.slice ao qn cap))
    (first | exact HRq.out _ H7.out | exact HRq.out _ H6.out | exact HRq.out _ H5'.out | exact HRq.out _ H3.out | fail "nokeep")
    (first
      | (go_at_call 104; (with_reducible refine (HV90.out _ _ H5'.out).mono ?_); rintro e w6 ⟨rfl, k6⟩; have H6 := Lib.hid k6; clear k6)
      | (go_at_call 104; (with_reducible refine (HV41.out _ _ H6.out).mono ?_); rintro e w7 ⟨rfl, k7⟩; have H7 := Lib.hid k7; clear k7)
      | fail "noarm")
  all_goals
    clear H3 H5' H6 HV90 HV41 c0 c1 HRq
    have c0 := cell_of (H7.out.at' in1) 0
    have c1 := cell_of (H7.out.at' in1) 1
    have c2 := (HTen.out _ _ _ H7.out).2.1
    go_wp2_with fail
    refine (HAk.out _ _ H7.out).mono ?_
    rintro e w8 ⟨rfl, k8⟩
    have H8 := Lib.hid k8
    clear k8 H7 HAk c0 c1 c2
    obtain ⟨gp, hgp⟩ : ∃ g, w8.heap.size = g := ⟨_, rfl⟩
    cases po with
    | none =>
      unfold Lg.Post.val Lg.zeroPost
      dsimp only [Option.getD_none, Option.isSome_none]
      go_upto_region 5 with fail
      refine wp_at (fun W => AskK w H A K n S ao q [(gp, .cells #[.string ⟨#[]⟩, .int .i64 0, .int .i64 0, .string ⟨#[]⟩] 53 (0, 0)), (g + 1, .cells #[.string ⟨#[]⟩, .slice none 0 0] 25 (0, 0)), (g, .cells #[.string t, .slice ao qn cap] 85 (0, 0))] W) (hgp ▸ H8.out.new _) ?_
      rintro w9 k9
      have H9 := Lib.hid k9
      clear k9 H8 hgp
      have c0 := cell_of (H9.out.at' in2) 0
      have c1 := cell_of (H9.out.at' in2) 1
      go_wp2_with fail
      refine ((HAns.out _ _ S ⟨#[50, 53]⟩ H9.out)).mono ?_
      rintro e w9 ⟨⟨xa, xn, xc⟩, he9, a1⟩
      subst he9
      have b9 := a1.at' in1
      have d0 := cell_of b9 0
      have d1 := cell_of b9 1
      have d2 := free_of b9 0
      have d3 := free_of b9 1
      have H9 := Lib.hid a1
      clear a1 b9
      try dsimp only [SV.val]
      go_wp2_with fail
      refine bodyPost_ret (v := .agg #[_, .slice xa xn xc]) (results_cell_row Tryz.results44 _ _ (g + 1) _ _ _ _ rfl (msg_set (H9.out.at' in1) _ _) Tryz.underlying25 rfl info_msg) rfl (by rw [show _ = _ from (T2.out (by first | rfl | trivial | assumption) (by first | rfl | trivial | assumption))]; exact H9.out.done in1)
    | some p =>
      obtain ⟨tok, l, a, b, hpan, hB, hR, hV⟩ := HRd.out p rfl
      have T3' := Lib.hid (T3.out (by first | rfl | trivial | assumption) p rfl)
      have HB := Lib.hid hB
      have HR := Lib.hid hR
      have HVb := Lib.hid hV
      have HCl := Lib.hid (HCd.out l hpan)
      clear hB hR hV HRd HCd hpan T1 T2 T3
      obtain ⟨pk, pa, ps, pt⟩ := p
      unfold Lg.Post.val
      dsimp only [Option.getD_some, Option.isSome_some] at HR ⊢
      go_upto_region 5 with fail
      refine wp_at (fun W => AskK w H A K n S ao q [(gp, .cells #[.string pk, .int .i64 pa, .int .i64 ps, .string pt] 53 (0, 0)), (g + 1, .cells #[.string ⟨#[]⟩, .slice none 0 0] 25 (0, 0)), (g, .cells #[.string t, .slice ao qn cap] 85 (0, 0))] W) (hgp ▸ H8.out.new _) ?_
      rintro w9 k9
      have H9 := Lib.hid k9
      clear k9 H8 hgp
      have c0 := cell_of (H9.out.at' in2) 0
      have c1 := cell_of (H9.out.at' in2) 1
      have c2 := (HTen.out _ _ _ H9.out).2.1
      go_wp2_with fail
      refine (HRv.out _ _ H9.out).mono ?_
      rintro e w10 ⟨rfl, k10⟩
      have H10 := Lib.hid k10
      clear k10 H9 HRv c0 c1 c2
      have c0 := cell_of (H10.out.at' in2) 0
      have c1 := cell_of (H10.out.at' in2) 1
      have c2 := cell_of (H10.out.at' in0) 3
      by_cases hz : re = 0
      · have HB2 := Lib.hid (HB.out hz (by first | rfl | trivial | assumption))
        clear HB
        obtain ⟨TK, hTK⟩ : ∃ x, strB tok = x := ⟨_, rfl⟩
        obtain ⟨PN, hPN⟩ : ∃ x, strB l = x := ⟨_, rfl⟩
        obtain ⟨CR, hCR⟩ : ∃ x, cardOf (maskV K n) l = x := ⟨_, rfl⟩
        rw [hTK] at HR HVb
        rw [hPN] at HVb HCl
        rw [hCR] at HB2 HCl
        clear hTK hPN hCR T3'
        subst hz
        go_wp2_with fail
        refine (HR.out _ _ { S with ps := rl } rfl H10.out).mono ?_
        rintro e w11 ⟨rfl, k11⟩
        have H11 := Lib.hid k11
        obtain ⟨gs, hgs⟩ : ∃ g, w11.heap.size = g := ⟨_, rfl⟩
        clear k11 H10 HR c0 c1 c2
        go_upto_region 10 with fail
        refine wp_at (fun W => AskK w H A K n { S with ps := rl } ao q [(gs, .cells #[.string TK, .int .i64 (a : Int), .int .i64 (b : Int)] 175 (0, 0)), (gp, .cells #[.string pk, .int .i64 pa, .int .i64 ps, .string pt] 53 (0, 0)), (g + 1, .cells #[.string ⟨#[]⟩, .slice none 0 0] 25 (0, 0)), (g, .cells #[.string t, .slice ao qn cap] 85 (0, 0))] W) (hgs ▸ H11.out.new _) ?_
        rintro w12 k12
        have H12 := Lib.hid k12
        clear k12 H11 hgs
        have HKs := Lib.hid (show ∀ W S2, AskK w H A K n S2 ao q [(gs, .cells #[.string TK, .int .i64 (a : Int), .int .i64 (b : Int)] 175 (0, 0)), (gp, .cells #[.string pk, .int .i64 pa, .int .i64 ps, .string pt] 53 (0, 0)), (g + 1, .cells #[.string ⟨#[]⟩, .slice none 0 0] 25 (0, 0)), (g, .cells #[.string t, .slice ao qn cap] 85 (0, 0))] W → W.cell? ⟨A.tb, 0, none⟩ = some (.pointer (some ⟨A.va, 0, none⟩)) ∧ W.cell? ⟨gs, 0, none⟩ = some (.string TK) from fun W S2 k => ⟨(HTen.out _ _ _ k).1, cell_of (k.at' in0) 0⟩)
        have HD12 := Lib.hid (H12.out.fr (Fr.drew (Fr.refl _ w12)))
        go_region_held3 (fun W => W.cell? ⟨A.tb, 0, none⟩ = some (.pointer (some ⟨A.va, 0, none⟩)) ∧ W.cell? ⟨gs, 0, none⟩ = some (.string TK))
          (first | exact HKs.out _ _ H13.out | exact HKs.out _ _ HD12.out | exact HKs.out _ _ H12.out | fail "nokeep")
          (first
            | (go_at_call 84; (with_reducible refine (HVb.out _ _ { S with ps := rl } rfl HD12.out).mono ?_); rintro e w13 ⟨rfl, k13⟩; have H13 := Lib.hid k13; clear k13)
            | fail "noarm")
        all_goals
          clear H12 HD12 HVb HKs
          have HKt := Lib.hid (show ∀ W, AskK w H A K n { S with ps := rl } ao q [(gs, .cells #[.string TK, .int .i64 (a : Int), .int .i64 (b : Int)] 175 (0, 0)), (gp, .cells #[.string pk, .int .i64 pa, .int .i64 ps, .string pt] 53 (0, 0)), (g + 1, .cells #[.string ⟨#[]⟩, .slice none 0 0] 25 (0, 0)), (g, .cells #[.string t, .slice ao qn cap] 85 (0, 0))] W → W.cell? ⟨A.tb, 7, none⟩ = some (.pointer (some ⟨A.bk, 0, none⟩)) ∧ W.cell? ⟨A.tb, 3, none⟩ = some (.int .i64 S.rule.ticks) ∧ W.cell? ⟨A.tb, 4, none⟩ = some (.int .i64 S.rule.times) ∧ W.cell? ⟨A.tb, 5, none⟩ = some (.int .i64 S.rule.sum) ∧ W.cell? ⟨A.tb, 6, none⟩ = some (.int .i64 S.rule.once) ∧ W.cell? ⟨gs, 2, none⟩ = some (.int .i64 (b : Int)) from fun W k => by
            obtain ⟨_, _, x1, x2, x3, x4, x5⟩ := HTen.out _ _ _ k
            exact ⟨x1, x2, x3, x4, x5, cell_of (k.at' in0) 2⟩)
          have HKu := Lib.hid (show ∀ W us, AskK w H A K n { S with ps := rl, us := us } ao q [(gs, .cells #[.string TK, .int .i64 (a : Int), .int .i64 (b : Int)] 175 (0, 0)), (gp, .cells #[.string pk, .int .i64 pa, .int .i64 ps, .string pt] 53 (0, 0)), (g + 1, .cells #[.string ⟨#[]⟩, .slice none 0 0] 25 (0, 0)), (g, .cells #[.string t, .slice ao qn cap] 85 (0, 0))] W → W.cell? ⟨A.tb, 7, none⟩ = some (.pointer (some ⟨A.bk, 0, none⟩)) ∧ W.cell? ⟨A.tb, 3, none⟩ = some (.int .i64 S.rule.ticks) ∧ W.cell? ⟨A.tb, 4, none⟩ = some (.int .i64 S.rule.times) ∧ W.cell? ⟨A.tb, 5, none⟩ = some (.int .i64 S.rule.sum) ∧ W.cell? ⟨A.tb, 6, none⟩ = some (.int .i64 S.rule.once) ∧ W.cell? ⟨gs, 2, none⟩ = some (.int .i64 (b : Int)) from fun W us k => by
            obtain ⟨_, _, x1, x2, x3, x4, x5⟩ := HTen.out _ _ _ k
            exact ⟨x1, x2, x3, x4, x5, cell_of (k.at' in0) 2⟩)
          have HD13 := Lib.hid (H13.out.fr (Fr.drew (Fr.refl _ w13)))
          go_upto_region 11 with fail
          go_region_held3 (fun W => W.cell? ⟨A.tb, 7, none⟩ = some (.pointer (some ⟨A.bk, 0, none⟩)) ∧ W.cell? ⟨A.tb, 3, none⟩ = some (.int .i64 S.rule.ticks) ∧ W.cell? ⟨A.tb, 4, none⟩ = some (.int .i64 S.rule.times) ∧ W.cell? ⟨A.tb, 5, none⟩ = some (.int .i64 S.rule.sum) ∧ W.cell? ⟨A.tb, 6, none⟩ = some (.int .i64 S.rule.once) ∧ W.cell? ⟨gs, 2, none⟩ = some (.int .i64 (b : Int)))
            (first | exact HKu.out _ _ H15.out | exact HKt.out _ H14.out | exact HKt.out _ HD13.out | exact HKt.out _ H13.out | fail "nokeep")
            (first
              | (go_at_call 110; (with_reducible refine (HCl.out _ _ { S with ps := rl } rfl HD13.out).mono ?_); rintro e w14 ⟨rfl, k14⟩; have H14 := Lib.hid k14; clear k14)
              | (go_at_call 117; (with_reducible refine (HUn.out _ _ { S with ps := rl } _ _ _ rfl rfl H14.out).mono ?_); rintro e w15 ⟨⟨ux, rfl⟩, k15⟩; have H15 := Lib.hid k15; clear k15)
              | fail "noarm")
          all_goals
            clear H13 HD13 H14 HCl HUn HKt HKu
            have c0 := cell_of (H15.out.at' in3) 0
            have c1 := cell_of (H15.out.at' in3) 1
            go_wp2_with fail
            refine ((HAns.out _ _ _ ⟨#[48, 48]⟩ H15.out)).mono ?_
            rintro e w9 ⟨⟨xa, xn, xc⟩, he9, a1⟩
            subst he9
            have b9 := a1.at' in2
            have d0 := cell_of b9 0
            have d1 := cell_of b9 1
            have d2 := free_of b9 0
            have d3 := free_of b9 1
            have H9 := Lib.hid a1
            clear a1 b9
            try dsimp only [SV.val]
            go_wp2_with fail
            refine bodyPost_ret (v := .agg #[_, .slice xa xn xc]) (results_cell_row Tryz.results44 _ _ (g + 1) _ _ _ _ rfl (msg_set (H9.out.at' in2) _ _) Tryz.underlying25 rfl info_msg) rfl (by rw [show _ = _ from HB2.out]; exact H9.out.done in2)
      · have hz' : (re == 0) = false := by simp [hz]
        have HE10 := Lib.hid H10.out
        rw [HRl.out hz] at HE10
        have T3 := Lib.hid (T3'.out hz)
        clear H10
        go_wp2_with fail
        refine ((HAns.out _ _ S ⟨#[48, 48]⟩ HE10.out)).mono ?_
        rintro e w9 ⟨⟨xa, xn, xc⟩, he9, a1⟩
        subst he9
        have b9 := a1.at' in1
        have d0 := cell_of b9 0
        have d1 := cell_of b9 1
        have d2 := free_of b9 0
        have d3 := free_of b9 1
        have H9 := Lib.hid a1
        clear a1 b9
        try dsimp only [SV.val]
        go_wp2_with fail
        refine bodyPost_ret (v := .agg #[_, .slice xa xn xc]) (results_cell_row Tryz.results44 _ _ (g + 1) _ _ _ _ rfl (msg_set (H9.out.at' in1) _ _) Tryz.underlying25 rfl info_msg) rfl (by rw [show _ = _ from T3.out]; exact H9.out.done in1)
end Go.Proofs.YtajhgejhdalobaaGreatDoor
namespace Go.Proofs.YtajhgejhdalobaaGreatDoor
open Go.RowKit

section
variable {M : MaskF} {S : TenS} {t : ByteArray} {q : List Fld} {now : Int}
theorem handleT_no (h : rightM t q ≠ 0 ∨ now < 0 ∨ 1099511627776 < now) : handleT M S t q now = (S, refM cForm) := by unfold handleT; rw [if_pos h]
theorem handleT_ask (h : ¬ (rightM t q ≠ 0 ∨ now < 0 ∨ 1099511627776 < now)) (h1 : t = t4 48 49 48 48 ∨ t = t4 48 50 48 48) : handleT M S t q now = askT M S t q now.toNat true := by unfold handleT; rw [if_neg h, if_pos h1]
theorem handleT_adv (h : ¬ (rightM t q ≠ 0 ∨ now < 0 ∨ 1099511627776 < now)) (h1 : t = t4 48 49 50 48 ∨ t = t4 48 50 50 48) : handleT M S t q now = askT M S t q now.toNat false := by
  unfold handleT
  rw [if_neg h, if_neg (by rcases h1 with rfl | rfl <;> decide +kernel), if_pos h1]
theorem handleT_back (h : ¬ (rightM t q ≠ 0 ∨ now < 0 ∨ 1099511627776 < now)) (h1 : t = t4 48 52 48 48 ∨ t = t4 48 52 50 48) : handleT M S t q now = backT M S t q := by
  unfold handleT
  rw [if_neg h, if_neg (by rcases h1 with rfl | rfl <;> decide +kernel), if_neg (by rcases h1 with rfl | rfl <;> decide +kernel), if_pos h1]
theorem handleT_net (h : ¬ (rightM t q ≠ 0 ∨ now < 0 ∨ 1099511627776 < now)) (h1 : t = t4 48 56 48 48) : handleT M S t q now = (S, if lacksB q [70] = true then ansM t q cForm [] else ansM t q cOk []) := by
  unfold handleT
  rw [if_neg h, if_neg (by rcases h1 with rfl; decide +kernel), if_neg (by rcases h1 with rfl; decide +kernel), if_neg (by rcases h1 with rfl; decide +kernel), if_pos h1]
theorem handleT_type (h : ¬ (rightM t q ≠ 0 ∨ now < 0 ∨ 1099511627776 < now)) (h1 : ¬ t = t4 48 49 48 48) (h2 : ¬ t = t4 48 50 48 48) (h3 : ¬ t = t4 48 49 50 48) (h4 : ¬ t = t4 48 50 50 48) (h5 : ¬ t = t4 48 52 48 48) (h6 : ¬ t = t4 48 52 50 48) (h7 : ¬ t = t4 48 56 48 48) : handleT M S t q now = (S, refM cType) := by
  unfold handleT
  rw [if_neg h, if_neg (by rintro (x | x); exact h1 x; exact h2 x), if_neg (by rintro (x | x); exact h3 x; exact h4 x), if_neg (by rintro (x | x); exact h5 x; exact h6 x), if_neg h7]
end
theorem lit_ne {t : ByteArray} {a b c d : UInt8} (h : ¬ t = t4 a b c d) : (t.toList == [a, b, c, d]) = false := by
  rw [beq_eq_false_iff_ne]
  intro e
  apply h
  rw [ByteArray.toList_eq] at e
  cases t with
  | mk dd =>
    have e2 : dd.toList = [a, b, c, d] := e
    have : dd = #[a, b, c, d] := Array.toList_inj.1 e2
    rw [this]
    rfl
set_option maxRecDepth 100000 in
set_option maxHeartbeats 6400000 in
theorem handle_any {A : TenW} {K : Bs} {n : Nat} {S : TenS} {w : World} {H : Nat → Prop} (h : TenA A K n S w H) (hG : Glob w H) (hp : TenP K n S.v) (ho : TenantOk (maskV K n) S) (t : ByteArray) {ao : Option Addr} {q : List Fld} (hq : Bes FldR ao q w H) (hs : SmallM t q) (cap : Nat) (now : Int) :
    Calls Tryz.prog 13 #[.pointer (some ⟨A.tb, 0, none⟩), msgV t ao q.length cap, .int .i64 now] w (AnsT A K n (handleT (maskV K n) S t q now).1 (handleT (maskV K n) S t q now).2 H w) := by
  have HK0 := Lib.hid (AskK.start h hG hq)
  have hl : q.length ≤ maxLen := hs.n
  have HRi := Lib.hid (show ∀ W L, AskK w H A K n S ao q L W → Calls Tryz.prog 41 #[msgV t ao q.length cap] W (fun e w' => e = .returned (.int .i64 (rightM t q)) ∧ AskK w H A K n S ao q L w') from fun W L k => k.calm (right_any t k.row cap hs))
  have HRf := Lib.hid (show ∀ W L c, AskK w H A K n S ao q L W → Calls Tryz.prog 42 #[.string c] W (fun e w' => ∃ sv : SV, e = .returned (.agg #[.string (t4 48 48 48 48), sv.val]) ∧ AskA w H A K n S L (t4 48 48 48 48, [⟨39, c⟩]) sv w') from fun W L c k => k.ansP (refuse_any c W))
  obtain ⟨r, hr⟩ : ∃ r, handleT (maskV K n) S t q now = r := ⟨_, rfl⟩
  have T1 := Lib.hid (fun x => hr.symm.trans (handleT_no (M := maskV K n) (S := S) (t := t) (q := q) (now := now) x))
  have T2 := Lib.hid (fun x y => hr.symm.trans (handleT_ask (M := maskV K n) (S := S) (t := t) (q := q) (now := now) x y))
  have T3 := Lib.hid (fun x y => hr.symm.trans (handleT_adv (M := maskV K n) (S := S) (t := t) (q := q) (now := now) x y))
  have T4 := Lib.hid (fun x y => hr.symm.trans (handleT_back (M := maskV K n) (S := S) (t := t) (q := q) (now := now) x y))
  have T5 := Lib.hid (fun x y => hr.symm.trans (handleT_net (M := maskV K n) (S := S) (t := t) (q := q) (now := now) x y))
  have T6 := Lib.hid (fun x x1 x2 x3 x4 x5 x6 x7 => hr.symm.trans (handleT_type (M := maskV K n) (S := S) (t := t) (q := q) (now := now) x x1 x2 x3 x4 x5 x6 x7))
  rw [hr]
  have HC := Lib.hid (show rightM t q = 0 → AskC w H A K n S t ao q cap q.length (upT t) (lN q) from fun e => askC (by
    have := (value_ok (rightM_iff.1 e).1).2.2 (by decide)
    rw [bl_len] at this
    omega) hl)
  have HAs := Lib.hid (show rightM t q = 0 → ∀ x : Nat, (x : Int) = now → x ≤ 1099511627776 → ∀ W L lim, AskK w H A K n S ao q L W → Calls Tryz.prog 43 #[.pointer (some ⟨A.tb, 0, none⟩), msgV t ao q.length cap, .int .i64 now, .bool lim] W (fun e w' => ∃ sv : SV, e = .returned (.agg #[.string (askT (maskV K n) S t q now.toNat lim).2.1, sv.val]) ∧ AskA w H A K n (askT (maskV K n) S t q now.toNat lim).1 L (askT (maskV K n) S t q now.toNat lim).2 sv w') from fun e x hx hxl W L lim k => k.ansT (fun H' y1 y2 y3 => by
    subst hx
    rw [Int.toNat_natCast]
    exact ask_any y1 y2 hp ho t (by
      have := (value_ok (rightM_iff.1 e).1).2.2 (by decide)
      rw [bl_len] at this
      omega) y3 (rightM_iff.1 e).2 cap hl x hxl lim))
  have HBk := Lib.hid (show rightM t q = 0 → ∀ W L, AskK w H A K n S ao q L W → Calls Tryz.prog 44 #[.pointer (some ⟨A.tb, 0, none⟩), msgV t ao q.length cap] W (fun e w' => ∃ sv : SV, e = .returned (.agg #[.string (backT (maskV K n) S t q).2.1, sv.val]) ∧ AskA w H A K n (backT (maskV K n) S t q).1 L (backT (maskV K n) S t q).2 sv w') from fun e W L k => k.ansT (fun H' y1 y2 y3 => back_any y1 y2 hp ho t (by
      have := (value_ok (rightM_iff.1 e).1).2.2 (by decide)
      rw [bl_len] at this
      omega) y3 (rightM_iff.1 e).2 cap hl))
  obtain ⟨rm, hrm⟩ : ∃ x, rightM t q = x := ⟨_, rfl⟩
  rw [hrm] at HRi T1 T2 T3 T4 T5 T6 HC HAs HBk
  obtain ⟨qn, hqn⟩ : ∃ x, q.length = x := ⟨_, rfl⟩
  rw [hqn] at HRi HC HAs HBk ⊢
  clear h hG hp ho hq hs hl hr hrm hqn
  go_enter Tryz.func13, Tryz.ntmps13
  go_upto_region 1 with fail
  refine wp_at (fun W => AskK w H A K n S ao q [(w.heap.size + 1, .cells #[.string ⟨#[]⟩, .slice none 0 0] 25 (0, 0)), (w.heap.size, .cells #[.string t, .slice ao qn cap] 25 (0, 0))] W) ?_ ?_
  · have k1 := HK0.out.new (.cells #[.string t, .slice ao qn cap] 25 (0, 0))
    have k3 := k1.new (.cells #[.string ⟨#[]⟩, .slice none 0 0] 25 (0, 0))
    have s1 : (w.alloc (.cells #[.string t, .slice ao qn cap] 25 (0, 0))).heap.size = w.heap.size + 1 := by simp
    rw [s1] at k3
    exact k3
  obtain ⟨g, hg⟩ : ∃ g, w.heap.size = g := ⟨_, rfl⟩
  rw [hg]
  rintro w1 k1
  have H1 := Lib.hid k1
  have c0 := cell_of (k1.at' in1) 0
  have c1 := cell_of (k1.at' in1) 1
  clear hg k1 HK0
  go_wp2_with fail
  refine (HRi.out _ _ H1.out).mono ?_
  rintro e w2 ⟨rfl, k2⟩
  have H2 := Lib.hid k2
  clear k2 H1 HRi c0 c1
  by_cases hr0 : rm ≠ 0
  · have hne : (rm != 0) = true := by simpa using hr0
    go_wp2_with fail
    refine ((HRf.out _ _ ⟨#[51, 48]⟩ H2.out)).mono ?_
    rintro e w9 ⟨⟨xa, xn, xc⟩, he9, a1⟩
    subst he9
    have b9 := a1.at' in0
    have d0 := cell_of b9 0
    have d1 := cell_of b9 1
    have d2 := free_of b9 0
    have d3 := free_of b9 1
    have H9 := Lib.hid a1
    clear a1 b9
    try dsimp only [SV.val]
    go_wp2_with fail
    refine bodyPost_ret (v := .agg #[_, .slice xa xn xc]) (results_cell_row Tryz.results13 _ _ (g + 1) _ _ _ _ rfl (msg_set (H9.out.at' in0) _ _) Tryz.underlying25 rfl info_msg) rfl (by rw [show _ = _ from (T1.out (.inl hr0))]; exact H9.out.done in0)
  obtain rfl : rm = 0 := Decidable.byContradiction hr0
  clear hr0
  by_cases hn0 : now < 0
  · go_wp2_with fail
    refine ((HRf.out _ _ ⟨#[51, 48]⟩ H2.out)).mono ?_
    rintro e w9 ⟨⟨xa, xn, xc⟩, he9, a1⟩
    subst he9
    have b9 := a1.at' in0
    have d0 := cell_of b9 0
    have d1 := cell_of b9 1
    have d2 := free_of b9 0
    have d3 := free_of b9 1
    have H9 := Lib.hid a1
    clear a1 b9
    try dsimp only [SV.val]
    go_wp2_with fail
    refine bodyPost_ret (v := .agg #[_, .slice xa xn xc]) (results_cell_row Tryz.results13 _ _ (g + 1) _ _ _ _ rfl (msg_set (H9.out.at' in0) _ _) Tryz.underlying25 rfl info_msg) rfl (by rw [show _ = _ from (T1.out (.inr (.inl hn0)))]; exact H9.out.done in0)
  by_cases hn1 : 1099511627776 < now
  · have q0 : (0 : Int) ≤ now := by omega
    go_wp2_with fail
    refine ((HRf.out _ _ ⟨#[51, 48]⟩ H2.out)).mono ?_
    rintro e w9 ⟨⟨xa, xn, xc⟩, he9, a1⟩
    subst he9
    have b9 := a1.at' in0
    have d0 := cell_of b9 0
    have d1 := cell_of b9 1
    have d2 := free_of b9 0
    have d3 := free_of b9 1
    have H9 := Lib.hid a1
    clear a1 b9
    try dsimp only [SV.val]
    go_wp2_with fail
    refine bodyPost_ret (v := .agg #[_, .slice xa xn xc]) (results_cell_row Tryz.results13 _ _ (g + 1) _ _ _ _ rfl (msg_set (H9.out.at' in0) _ _) Tryz.underlying25 rfl info_msg) rfl (by rw [show _ = _ from (T1.out (.inr (.inr hn1)))]; exact H9.out.done in0)
  have q0 : (0 : Int) ≤ now := by omega
  have q1 : now ≤ 1099511627776 := by omega
  have hall : ¬ ((0 : Int) ≠ 0 ∨ now < 0 ∨ 1099511627776 < now) := by rintro (x | x | x); exact x rfl; omega; omega
  have U2 := Lib.hid (T2.out hall)
  have U3 := Lib.hid (T3.out hall)
  have U4 := Lib.hid (T4.out hall)
  have U5 := Lib.hid (T5.out hall)
  have U6 := Lib.hid (T6.out hall)
  have HCb := Lib.hid (HC.out rfl)
  have HAb := Lib.hid (HAs.out rfl now.toNat (by omega) (by omega))
  have HBb := Lib.hid (HBk.out rfl)
  clear T1 T2 T3 T4 T5 T6 HC HAs HBk hn0 hn1 hall
  obtain ⟨g2, hg2⟩ : ∃ g, w2.heap.size = g := ⟨_, rfl⟩
  have c0 := cell_of (H2.out.at' in1) 0
  have c1 := cell_of (H2.out.at' in1) 1
  go_upto_region 4 with fail
  refine wp_at (fun W => AskK w H A K n S ao q [(g2, .cells #[.string t, .slice ao qn cap] 85 (0, 0)), (g + 1, .cells #[.string ⟨#[]⟩, .slice none 0 0] 25 (0, 0)), (g, .cells #[.string t, .slice ao qn cap] 25 (0, 0))] W) (hg2 ▸ H2.out.new _) ?_
  rintro w3 k3
  have H3 := Lib.hid k3
  clear k3 H2 hg2 c0 c1 q0 q1
  have c0 := cell_of (H3.out.at' in2) 0
  have c2 := cell_of (H3.out.at' in0) 0
  have c3 := cell_of (H3.out.at' in0) 1
  have HAn := Lib.hid HCb.out.answer
  have HLk := Lib.hid HCb.out.lacks1
  obtain ⟨U, hU⟩ : ∃ T, upT t = T := ⟨_, rfl⟩
  rw [hU] at HAn
  have V5 := Lib.hid (show t = t4 48 56 48 48 → r = (S, if lacksB q [70] = true then (U, lN q cForm) else (U, lN q cOk)) from fun x => by rw [← hU]; exact U5.out x)
  clear HCb hU U5
  obtain ⟨⟨S1, M1, l1⟩, h1⟩ : ∃ x, askT (maskV K n) S t q now.toNat true = x := ⟨_, rfl⟩
  obtain ⟨⟨S2, M2, l2⟩, h2⟩ : ∃ x, askT (maskV K n) S t q now.toNat false = x := ⟨_, rfl⟩
  obtain ⟨⟨S3, M3, l3⟩, h3⟩ : ∃ x, backT (maskV K n) S t q = x := ⟨_, rfl⟩
  have HA1 := Lib.hid (fun W L k => HAb.out W L true k)
  have HA2 := Lib.hid (fun W L k => HAb.out W L false k)
  rw [h1] at HA1 U2
  rw [h2] at HA2 U3
  rw [h3] at HBb U4
  clear HAb h1 h2 h3
  dsimp only at HA1 HA2 HBb
  obtain ⟨lk, hlk⟩ : ∃ b, lacksB q [70] = b := ⟨_, rfl⟩
  have HL7 := Lib.hid (fun W L g k h => HLk.out W L g 70 k h)
  rw [hlk] at HL7 V5
  clear hlk HLk
  by_cases e1 : t = t4 48 49 48 48
  · have X := Lib.hid (U2.out (.inl e1))
    clear U2 U3 U4 V5 U6 HA2 HBb HAn HL7 HRf
    unfold t4 at e1
    subst e1
    go_wp2_with fail
    refine ((HA1.out _ _ H3.out)).mono ?_
    rintro e w9 ⟨⟨xa, xn, xc⟩, he9, a1⟩
    subst he9
    have b9 := a1.at' in1
    have d0 := cell_of b9 0
    have d1 := cell_of b9 1
    have d2 := free_of b9 0
    have d3 := free_of b9 1
    have H9 := Lib.hid a1
    clear a1 b9
    try dsimp only [SV.val]
    go_wp2_with fail
    refine bodyPost_ret (v := .agg #[_, .slice xa xn xc]) (results_cell_row Tryz.results13 _ _ (g + 1) _ _ _ _ rfl (msg_set (H9.out.at' in1) _ _) Tryz.underlying25 rfl info_msg) rfl (by rw [show _ = _ from X.out]; exact H9.out.done in1)
  by_cases e2 : t = t4 48 50 48 48
  · have X := Lib.hid (U2.out (.inr e2))
    clear U2 U3 U4 V5 U6 HA2 HBb HAn HL7 HRf
    unfold t4 at e2
    subst e2
    go_wp2_with fail
    refine ((HA1.out _ _ H3.out)).mono ?_
    rintro e w9 ⟨⟨xa, xn, xc⟩, he9, a1⟩
    subst he9
    have b9 := a1.at' in1
    have d0 := cell_of b9 0
    have d1 := cell_of b9 1
    have d2 := free_of b9 0
    have d3 := free_of b9 1
    have H9 := Lib.hid a1
    clear a1 b9
    try dsimp only [SV.val]
    go_wp2_with fail
    refine bodyPost_ret (v := .agg #[_, .slice xa xn xc]) (results_cell_row Tryz.results13 _ _ (g + 1) _ _ _ _ rfl (msg_set (H9.out.at' in1) _ _) Tryz.underlying25 rfl info_msg) rfl (by rw [show _ = _ from X.out]; exact H9.out.done in1)
  by_cases e3 : t = t4 48 49 50 48
  · have X := Lib.hid (U3.out (.inl e3))
    clear U2 U3 U4 V5 U6 HA1 HBb HAn HL7 HRf e1 e2
    unfold t4 at e3
    subst e3
    go_wp2_with fail
    refine ((HA2.out _ _ H3.out)).mono ?_
    rintro e w9 ⟨⟨xa, xn, xc⟩, he9, a1⟩
    subst he9
    have b9 := a1.at' in1
    have d0 := cell_of b9 0
    have d1 := cell_of b9 1
    have d2 := free_of b9 0
    have d3 := free_of b9 1
    have H9 := Lib.hid a1
    clear a1 b9
    try dsimp only [SV.val]
    go_wp2_with fail
    refine bodyPost_ret (v := .agg #[_, .slice xa xn xc]) (results_cell_row Tryz.results13 _ _ (g + 1) _ _ _ _ rfl (msg_set (H9.out.at' in1) _ _) Tryz.underlying25 rfl info_msg) rfl (by rw [show _ = _ from X.out]; exact H9.out.done in1)
  by_cases e4 : t = t4 48 50 50 48
  · have X := Lib.hid (U3.out (.inr e4))
    clear U2 U3 U4 V5 U6 HA1 HBb HAn HL7 HRf e1 e2 e3
    unfold t4 at e4
    subst e4
    go_wp2_with fail
    refine ((HA2.out _ _ H3.out)).mono ?_
    rintro e w9 ⟨⟨xa, xn, xc⟩, he9, a1⟩
    subst he9
    have b9 := a1.at' in1
    have d0 := cell_of b9 0
    have d1 := cell_of b9 1
    have d2 := free_of b9 0
    have d3 := free_of b9 1
    have H9 := Lib.hid a1
    clear a1 b9
    try dsimp only [SV.val]
    go_wp2_with fail
    refine bodyPost_ret (v := .agg #[_, .slice xa xn xc]) (results_cell_row Tryz.results13 _ _ (g + 1) _ _ _ _ rfl (msg_set (H9.out.at' in1) _ _) Tryz.underlying25 rfl info_msg) rfl (by rw [show _ = _ from X.out]; exact H9.out.done in1)
  by_cases e5 : t = t4 48 52 48 48
  · have X := Lib.hid (U4.out (.inl e5))
    clear U2 U3 U4 V5 U6 HA1 HA2 HAn HL7 HRf e1 e2 e3 e4
    unfold t4 at e5
    subst e5
    go_wp2_with fail
    refine ((HBb.out _ _ H3.out)).mono ?_
    rintro e w9 ⟨⟨xa, xn, xc⟩, he9, a1⟩
    subst he9
    have b9 := a1.at' in1
    have d0 := cell_of b9 0
    have d1 := cell_of b9 1
    have d2 := free_of b9 0
    have d3 := free_of b9 1
    have H9 := Lib.hid a1
    clear a1 b9
    try dsimp only [SV.val]
    go_wp2_with fail
    refine bodyPost_ret (v := .agg #[_, .slice xa xn xc]) (results_cell_row Tryz.results13 _ _ (g + 1) _ _ _ _ rfl (msg_set (H9.out.at' in1) _ _) Tryz.underlying25 rfl info_msg) rfl (by rw [show _ = _ from X.out]; exact H9.out.done in1)
  by_cases e6 : t = t4 48 52 50 48
  · have X := Lib.hid (U4.out (.inr e6))
    clear U2 U3 U4 V5 U6 HA1 HA2 HAn HL7 HRf e1 e2 e3 e4 e5
    unfold t4 at e6
    subst e6
    go_wp2_with fail
    refine ((HBb.out _ _ H3.out)).mono ?_
    rintro e w9 ⟨⟨xa, xn, xc⟩, he9, a1⟩
    subst he9
    have b9 := a1.at' in1
    have d0 := cell_of b9 0
    have d1 := cell_of b9 1
    have d2 := free_of b9 0
    have d3 := free_of b9 1
    have H9 := Lib.hid a1
    clear a1 b9
    try dsimp only [SV.val]
    go_wp2_with fail
    refine bodyPost_ret (v := .agg #[_, .slice xa xn xc]) (results_cell_row Tryz.results13 _ _ (g + 1) _ _ _ _ rfl (msg_set (H9.out.at' in1) _ _) Tryz.underlying25 rfl info_msg) rfl (by rw [show _ = _ from X.out]; exact H9.out.done in1)
  by_cases e7 : t = t4 48 56 48 48
  · have X := Lib.hid (V5.out e7)
    clear U2 U3 U4 V5 U6 HA1 HA2 HBb HRf e1 e2 e3 e4 e5 e6
    unfold t4 at e7
    subst e7
    go_wp2_with fail
    refine (HL7.out _ _ _ (H3.out.fr ((Fr.refl _ _).alloc _)) (heap_new _ _)).mono ?_
    rintro e w4 ⟨rfl, k4⟩
    have H4 := Lib.hid k4
    clear k4 H3 HL7 c0 c2 c3
    have c0 := cell_of (H4.out.at' in2) 0
    have c2 := cell_of (H4.out.at' in0) 0
    have c3 := cell_of (H4.out.at' in0) 1
    cases lk with
    | true =>
      go_wp2_with fail
      refine ((HAn.out _ _ ⟨#[51, 48]⟩ H4.out)).mono ?_
      rintro e w9 ⟨⟨xa, xn, xc⟩, he9, a1⟩
      subst he9
      have b9 := a1.at' in1
      have d0 := cell_of b9 0
      have d1 := cell_of b9 1
      have d2 := free_of b9 0
      have d3 := free_of b9 1
      have H9 := Lib.hid a1
      clear a1 b9
      try dsimp only [SV.val]
      go_wp2_with fail
      refine bodyPost_ret (v := .agg #[_, .slice xa xn xc]) (results_cell_row Tryz.results13 _ _ (g + 1) _ _ _ _ rfl (msg_set (H9.out.at' in1) _ _) Tryz.underlying25 rfl info_msg) rfl (by rw [show _ = _ from X.out]; exact H9.out.done in1)
    | false =>
      go_wp2_with fail
      refine ((HAn.out _ _ ⟨#[48, 48]⟩ H4.out)).mono ?_
      rintro e w9 ⟨⟨xa, xn, xc⟩, he9, a1⟩
      subst he9
      have b9 := a1.at' in1
      have d0 := cell_of b9 0
      have d1 := cell_of b9 1
      have d2 := free_of b9 0
      have d3 := free_of b9 1
      have H9 := Lib.hid a1
      clear a1 b9
      try dsimp only [SV.val]
      go_wp2_with fail
      refine bodyPost_ret (v := .agg #[_, .slice xa xn xc]) (results_cell_row Tryz.results13 _ _ (g + 1) _ _ _ _ rfl (msg_set (H9.out.at' in1) _ _) Tryz.underlying25 rfl info_msg) rfl (by rw [show _ = _ from X.out]; exact H9.out.done in1)
  have X := Lib.hid (U6.out e1 e2 e3 e4 e5 e6 e7)
  have n1 := lit_ne e1
  have n2 := lit_ne e2
  have n3 := lit_ne e3
  have n4 := lit_ne e4
  have n5 := lit_ne e5
  have n6 := lit_ne e6
  have n7 := lit_ne e7
  clear U2 U3 U4 V5 U6 HA1 HA2 HBb HAn HL7 e1 e2 e3 e4 e5 e6 e7
  go_wp2_with fail
  refine ((HRf.out _ _ ⟨#[49, 50]⟩ H3.out)).mono ?_
  rintro e w9 ⟨⟨xa, xn, xc⟩, he9, a1⟩
  subst he9
  have b9 := a1.at' in1
  have d0 := cell_of b9 0
  have d1 := cell_of b9 1
  have d2 := free_of b9 0
  have d3 := free_of b9 1
  have H9 := Lib.hid a1
  clear a1 b9
  try dsimp only [SV.val]
  go_wp2_with fail
  refine bodyPost_ret (v := .agg #[_, .slice xa xn xc]) (results_cell_row Tryz.results13 _ _ (g + 1) _ _ _ _ rfl (msg_set (H9.out.at' in1) _ _) Tryz.underlying25 rfl info_msg) rfl (by rw [show _ = _ from X.out]; exact H9.out.done in1)
end Go.Proofs.YtajhgejhdalobaaGreatDoor
