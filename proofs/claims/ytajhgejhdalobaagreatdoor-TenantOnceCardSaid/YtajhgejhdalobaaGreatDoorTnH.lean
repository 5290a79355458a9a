/-
  A TENANT: THE WALK of ask.
-/
import Derived.Test.YtajhgejhdalobaaGreatDoorTnG
namespace Go.Proofs.YtajhgejhdalobaaGreatDoor
open Go.RowKit

set_option maxRecDepth 100000 in
set_option maxHeartbeats 6400000 in
theorem ask_any {A : TenW} {K : Bs} {n : Nat} {S : TenS} {w : World} {H : Nat → Prop} (h : TenA A K n S w H) (hG : Glob w H) (hp : TenP K n S.v) (ho : TenantOk (maskV K n) S) (t : ByteArray) (h4 : t.size = 4) {ao : Option Addr} {q : List Fld} (hq : Bes FldR ao q w H) (hr : RightL q) (cap : Nat) (hl : q.length ≤ maxLen) (now : Nat) (hn : now ≤ 1099511627776) (lim : Bool) :
    Calls Tryz.prog 43 #[.pointer (some ⟨A.tb, 0, none⟩), msgV t ao q.length cap, .int .i64 (now : Int), .bool lim] w (AnsT A K n (askT (maskV K n) S t q now lim).1 (askT (maskV K n) S t q now lim).2 H w) := by
  have HK0 := Lib.hid (AskK.start h hG hq)
  have HC := Lib.hid (askC (w := w) (H := H) (A := A) (K := K) (n := n) (S := S) h4 (ao := ao) (cap := cap) hl)
  have v2 := val_len hr (n := 2) (by decide)
  have v4 := val_len hr (n := 4) (by decide)
  have v11 := val_len hr (n := 11) (by decide)
  have v41 := val_len hr (n := 41) (by decide)
  have hks : (valS 11 q ++ valS 41 q).size ≤ maxLen := by rw [ByteArray.size_append]; unfold maxLen; omega
  have HV2 := Lib.hid (fun W L => HC.out.value W L 2)
  have HV4 := Lib.hid (fun W L => HC.out.value W L 4)
  have HV11 := Lib.hid (fun W L => HC.out.value W L 11)
  have HV41 := Lib.hid (fun W L => HC.out.value W L 41)
  have HIs := Lib.hid (fun W => is_any (valS 2 q) (by unfold maxLen; omega) W)
  have HNum := Lib.hid (fun W => number_all (valS 4 q) W (by unfold maxLen; omega))
  rw [show (numR (bl (valS 4 q))).1 = amountOf q from rfl] at HNum
  have HLa := Lib.hid (fun W L g => HC.out.lacks W L g 2 4 11 41)
  have HAk := Lib.hid (fun W L => HC.out.ask W L (valS 11 q ++ valS 41 q) hks)
  have HFi := Lib.hid (fun W L => HC.out.find W L (valS 2 q) (by unfold maxLen; omega))
  have HAg := Lib.hid (show ∀ W L p, AskK w H A K n S ao q L W → Lg.askP S.ps (keyOf q) = some p → Calls Tryz.prog 107 #[.pointer (some ⟨A.tb, 0, none⟩), msgV t ao q.length cap, p.val, .int .i64 (amountOf q : Int)] W (fun e w' => ∃ sv : SV, e = .returned (.agg #[.string (upT t), sv.val]) ∧ AskA w H A K n S L (againT (maskV K n) S t q p) sv w') from fun W L p k hk => by
    obtain ⟨tok, l, a, b, z1, z2, z3, z4, z5⟩ := said_of ho hk
    have hc := k.ansT (S' := S) (m := againT (maskV K n) S t q p) (fun H' y1 y2 y3 => by
      rw [againT_said z1 z2 z3 z4 z5]
      exact again_any y1 y2 hp t h4 y3 cap hl p z1 z2 z3 z4 z5 (amountOf q))
    have e : (againT (maskV K n) S t q p).1 = upT t := by
      rw [againT_said z1 z2 z3 z4 z5]
      split <;> rfl
    rw [e] at hc
    exact hc)
  have hkE : keyOf q = valS 11 q ++ valS 41 q := rfl
  have T1 := Lib.hid (fun x => askT_form (M := maskV K n) (S := S) (t := t) (q := q) (now := now) (lim := lim) x)
  have T2 := Lib.hid (fun x y => askT_pan (M := maskV K n) (S := S) (t := t) (q := q) (now := now) (lim := lim) x y)
  have T3 := Lib.hid (fun x y p z => askT_again (M := maskV K n) (S := S) (t := t) (q := q) (now := now) (lim := lim) x y (p := p) z)
  have T4 := Lib.hid (fun x y z u => askT_route (M := maskV K n) (S := S) (t := t) (q := q) (now := now) (lim := lim) x y z u)
  have T5 := Lib.hid (fun x y z a u v => askT_room (M := maskV K n) (S := S) (t := t) (q := q) (now := now) (lim := lim) x y z (a := a) u v)
  have T6 := Lib.hid (fun x y z a u v h5 h6 => askT_limit (M := maskV K n) (S := S) (t := t) (q := q) (now := now) (lim := lim) x y z (a := a) u v h5 h6)
  have T7 := Lib.hid (fun x y z a u v h5 => askT_yes (M := maskV K n) (S := S) (t := t) (q := q) (now := now) (lim := lim) x y z (a := a) u v h5)
  simp only [ansM] at T1 T2 T4 T5 T6
  obtain ⟨r, hr⟩ : ∃ r, askT (maskV K n) S t q now lim = r := ⟨_, rfl⟩
  rw [hr] at T1 T2 T3 T4 T5 T6 T7 ⊢
  obtain ⟨lk, hlk⟩ : ∃ b, lacksB q [2, 4, 11, 41] = b := ⟨_, rfl⟩
  rw [hlk] at HLa T1 T2 T3 T4 T5 T6 T7
  obtain ⟨pn, hpn⟩ : ∃ b, panB (bl (valS 2 q)) = b := ⟨_, rfl⟩
  have Hpn := Lib.hid hpn
  rw [hpn] at HIs T2 T3 T4 T5 T6 T7
  obtain ⟨po, hpo⟩ : ∃ b, Lg.askP S.ps (valS 11 q ++ valS 41 q) = b := ⟨_, rfl⟩
  rw [hpo] at HAk
  have hpo' : Lg.askP S.ps (keyOf q) = po := hpo
  rw [hpo'] at T3 T4 T5 T6 T7 HAg
  obtain ⟨fo, hfo⟩ : ∃ b, Rt.findR S.rs (valS 2 q) = b := ⟨_, rfl⟩
  have Hfo := Lib.hid (show ∀ a, fo = some a → 1 ≤ a ∧ a ≤ 99 from fun a e => by
    obtain ⟨n, _, _, h, _⟩ := Rt.findN_some.1 (hfo.trans e)
    obtain ⟨r, hr, _, e⟩ := Rt.lookR_mem h
    rw [← e]
    exact ho.rs.tgt r hr)
  rw [hfo] at HFi T4 T5 T6 T7
  have HTk := Lib.hid (show ∀ W L S2, S2.v = S.v → AskK w H A K n S2 ao q L W → Calls Tryz.prog 111 #[.pointer (some ⟨A.va, 0, none⟩), .string (valS 2 q)] W (fun e w' => e = .returned (.tuple #[.string (strB (tokenB (maskV K n) S.v (bl (valS 2 q))).1), .int .i64 (tokenB (maskV K n) S.v (bl (valS 2 q))).2]) ∧ AskK w H A K n S2 ao q L w') from fun W L S2 hv k => k.call fun H' t g => by
    obtain ⟨G, g1, g2, g3⟩ := t.vault
    rw [hv] at g1
    have hc := vtoken_any g1 (g.sub g2) hp.k64 hp.n1 hp.n64 hp.v1 hp.v99 (valS 2 q) (by omega)
    unfold VTokP at hc
    refine hc.mono ?_
    rintro e w' ⟨rfl, F', k1, k2⟩
    obtain ⟨H', t1, t2⟩ := g3 _ _ _ k1 k2
    rw [← hv] at t1
    exact ⟨rfl, H', t1, t2⟩)
  have HTx := Lib.hid (show panB (bl (valS 2 q)) = true → ∀ a : Nat, 1 ≤ a → a ≤ 99 → ∀ W L S2, AskK w H A K n S2 ao q L W → Calls Tryz.prog 113 #[.agg #[.string (strB (tokenB (maskV K n) S.v (bl (valS 2 q))).1), .int .i64 (a : Int), .int .i64 (now : Int)]] W (fun e w' => e = .returned (.string (strB (saidB (tokenB (maskV K n) S.v (bl (valS 2 q))).1 a now))) ∧ AskK w H A K n S2 ao q L w') from fun hpan a ha1 ha W L S2 k => k.calm (by
    have hb := (back_token (maskV K n) hpan ho.v1 ho.v2 (Nat.le_refl _)).2
    have hlen := said_len hb (a := a) (b := now) ha hn
    rw [saidB_add] at hlen
    simp at hlen
    have hc := text_any k.tab.choose_spec (strB (tokenB (maskV K n) S.v (bl (valS 2 q))).1) a now (by rw [strB_size]; omega) (by omega) (by omega)
    rw [bl_strB] at hc
    exact hc))
  have HAp := Lib.hid (show ∀ W L us tx, AskK w H A K n { S with us := us } ao q L W → Calls Tryz.prog 112 #[.pointer (some ⟨A.ll, 0, none⟩), .string (valS 11 q ++ valS 41 q), .int .i64 (amountOf q : Int), .string tx] W (fun e w' => e = .returned (.int .i64 (Lg.addE S.ps ⟨keyOf q, (amountOf q : Int), 1, tx⟩)) ∧ AskK w H A K n { S with us := us, ps := Lg.addL S.ps ⟨keyOf q, (amountOf q : Int), 1, tx⟩ } ao q L w') from fun W L us tx k => k.call fun H' t g => by
    obtain ⟨G, g1, g2, g3⟩ := t.ledger
    refine (Lg.approve_at g1 _ _ _ hks rfl rfl).mono ?_
    rintro e w' ⟨F', k1, rfl, k2⟩
    obtain ⟨H', t1, t2⟩ := g3 _ _ _ k1 (step_lg k2)
    exact ⟨rfl, H', t1, t2⟩)
  have HYe := Lib.hid (show ∀ a : Nat, a ≤ 99 → ∀ W L S2, AskK w H A K n S2 ao q L W → Calls Tryz.prog 114 #[msgV t ao q.length cap, .agg #[.string (strB (tokenB (maskV K n) S.v (bl (valS 2 q))).1), .int .i64 (a : Int), .int .i64 (now : Int)]] W (fun e w' => ∃ sv : SV, e = .returned (.agg #[.string (upT t), sv.val]) ∧ AskA w H A K n S2 L (okM t q (tokenB (maskV K n) S.v (bl (valS 2 q))).1 a) sv w') from fun a ha W L S2 k => k.ansP (approved_any k.tab.choose_spec t h4 k.row cap hl (strB (tokenB (maskV K n) S.v (bl (valS 2 q))).1) a (now : Int) (by omega)))
  have HCa := Lib.hid (show panB (bl (valS 2 q)) = true → ∀ W L, AskK w H A K n S ao q L W → Calls Tryz.prog 110 #[.pointer (some ⟨A.tb, 0, none⟩), .string (valS 2 q)] W (fun e w' => e = .returned (.string (cardOf (maskV K n) (bl (valS 2 q)))) ∧ AskK w H A K n S ao q L w') from fun hpan W L k => k.call fun H' t g => card_any t g hp _ hpan)
  have HUs := Lib.hid (show ∀ W L, AskK w H A K n S ao q L W → Calls Tryz.prog 109 #[.pointer (some ⟨A.tb, 0, none⟩), .string (cardOf (maskV K n) (bl (valS 2 q))), .int .i64 (amountOf q : Int), .int .i64 (now : Int)] W (fun e w' => e = .returned (.string (tryC (Lm.tryE S.us S.rule (cardOf (maskV K n) (bl (valS 2 q))) (amountOf q) now))) ∧ AskK w H A K n { S with us := Lm.tryL S.us S.rule (cardOf (maskV K n) (bl (valS 2 q))) (amountOf q) now } ao q L w') from fun W L k => k.call fun H' t g => use_any t _ _ _)
  have hs0 : 0 ≤ Lg.sumA S.ps := Lg.sumA_nonneg ho.ps.may
  have hs1 := ho.ps.total
  have hAm : lk = false → amountOf q ≤ 999999999999 := fun e => (amount_ok ‹RightL q› (lacks_no (hlk.trans e) (by decide))).2
  have HAm := Lib.hid hAm
  have HLi := Lib.hid HC.out.list
  have HTo := Lib.hid HC.out.total
  have HAns := Lib.hid HC.out.answer
  have HTen := Lib.hid (show ∀ W L S2, AskK w H A K n S2 ao q L W → W.cell? ⟨A.tb, 0, none⟩ = some (.pointer (some ⟨A.va, 0, none⟩)) ∧ W.cell? ⟨A.tb, 2, none⟩ = some (.pointer (some ⟨A.rl, 0, none⟩)) ∧ W.cell? ⟨A.tb, 8, none⟩ = some (.pointer (some ⟨A.ll, 0, none⟩)) from fun W L S2 k => by
    obtain ⟨a, _, b, _, _, _, _, _, c⟩ := k.ten.choose_spec.cells
    exact ⟨a, b, c⟩)
  obtain ⟨U, hU⟩ : ∃ T, upT t = T := ⟨_, rfl⟩
  rw [hU] at HAns
  have T1 := Lib.hid (show lk = true → r = (S, (U, lN q cForm)) from fun x => by rw [← hU]; exact T1.out x)
  have T2 := Lib.hid (show lk = false → pn = false → r = (S, (U, lN q cPan)) from fun x y => by rw [← hU]; exact T2.out x y)
  have T4 := Lib.hid (show lk = false → pn = true → po = none → fo = none → r = (S, (U, lN q cRoute)) from fun x y z u => by rw [← hU]; exact T4.out x y z u)
  obtain ⟨tot, htot⟩ : ∃ x, Lg.sumA S.ps = x := ⟨_, rfl⟩
  obtain ⟨cnt, hcnt⟩ : ∃ x, S.ps.length = x := ⟨_, rfl⟩
  obtain ⟨amt, hamt⟩ : ∃ x, amountOf q = x := ⟨_, rfl⟩
  obtain ⟨crd, hcrd⟩ : ∃ x, cardOf (maskV K n) (bl (valS 2 q)) = x := ⟨_, rfl⟩
  rw [htot] at hs0 hs1 HTo
  rw [hcnt] at HLi
  rw [htot, hcnt, hamt] at T5
  rw [htot, hcnt, hamt, hcrd] at T6 T7
  rw [hamt] at HAg HAp HUs HAm HNum
  rw [hcrd] at HCa HUs
  have T5 := Lib.hid (show lk = false → pn = true → po = none → ∀ a, fo = some a → (24 ≤ cnt ∨ 5000000000000 - tot < (amt : Int)) → r = (S, (U, lN q cRoom)) from fun x y z a u v => by rw [← hU]; exact T5.out x y z a u v)
  obtain ⟨te, hte⟩ : ∃ x, Lm.tryE S.us S.rule crd (amt : Int) (now : Int) = x := ⟨_, rfl⟩
  rw [hte] at T6 T7 HUs
  have HTL := Lib.hid (show te ≠ 0 → Lm.tryL S.us S.rule crd (amt : Int) (now : Int) = S.us from fun x => by unfold Lm.tryL; rw [hte, if_neg x])
  have HTC := Lib.hid (show te ≠ 0 → ¬ tryC te = ⟨#[48, 48]⟩ from fun x => (tryC_no x).2)
  have T6 := Lib.hid (show lk = false → pn = true → po = none → ∀ a, fo = some a → ¬ (24 ≤ cnt ∨ 5000000000000 - tot < (amt : Int)) → lim = true → te ≠ 0 → r = (S, (U, lN q (tryC te))) from fun x y z a u v h5 h6 => by rw [← hU]; exact T6.out x y z a u v h5 h6)
  have HAgL := Lib.hid (show ∀ p, po = some p → ∃ l, againT (maskV K n) S t q p = (U, l) from fun p hp' => by
    obtain ⟨tok, l, a, b, z1, z2, z3, z4, z5⟩ := said_of ho (hpo'.trans hp')
    rw [againT_said z1 z2 z3 z4 z5, ← hU]
    split
    · exact ⟨_, rfl⟩
    · exact ⟨_, rfl⟩)
  have HYL := Lib.hid (show ∀ tok a, ∃ l, okM t q tok a = (U, l) from fun tok a => ⟨_, by rw [← hU]; rfl⟩)
  rw [hU] at HAg HYe
  obtain ⟨qn, hqn⟩ : ∃ x, q.length = x := ⟨_, rfl⟩
  rw [hqn] at HV2 HV4 HV11 HV41 HLa HAg HAns HYe ⊢
  obtain ⟨z41, hz⟩ : ∃ x, (numR (bl (valS 4 q))).2 = x := ⟨_, rfl⟩
  rw [hz] at HNum
  obtain ⟨ky, hky⟩ : ∃ x, keyOf q = x := ⟨_, rfl⟩
  rw [hky] at HAp T7
  rw [hky] at hkE
  have HkE := Lib.hid hkE
  have q4 : (valS 11 q).size + (valS 41 q).size ≤ 9223372036854775807 := by omega
  clear h hG hp ho hq hl hpo hpo' hfo hlk hpn htot hcnt hamt hcrd hte hr hU hqn hn v2 v4 v11 v41 hks hAm hz hky hkE HC
  obtain ⟨V2, hV2⟩ : ∃ x, valS 2 q = x := ⟨_, rfl⟩
  obtain ⟨V4, hV4⟩ : ∃ x, valS 4 q = x := ⟨_, rfl⟩
  obtain ⟨V11, hV11⟩ : ∃ x, valS 11 q = x := ⟨_, rfl⟩
  obtain ⟨V41, hV41⟩ : ∃ x, valS 41 q = x := ⟨_, rfl⟩
  rw [hV2] at HV2 HIs HFi HTk HTx HYe HCa Hpn T7
  rw [hV4] at HV4 HNum
  rw [hV11] at HV11 HAk HAp HkE
  rw [hV41] at HV41 HAk HAp HkE
  rw [hV11, hV41] at q4
  clear hV2 hV4 hV11 hV41
  have q1 : (0 : Int) ≤ tot := hs0
  have q2 : tot ≤ 5000000000000 := hs1
  have q3 : IntKind.i64.wrap (5000000000000 - tot) = 5000000000000 - tot := by rw [IntKind.wrap_i64]; omega
  have q5 : ¬ 9223372036854775807 < V11.size + V41.size := by omega
  clear hs0 hs1
  go_enter Tryz.func43, Tryz.ntmps43
  go_upto_region 1 with fail
  refine wp_at (fun W => AskK w H A K n S ao q [(w.heap.size + 1, .cells #[.string ⟨#[]⟩, .slice none 0 0] 25 (0, 0)), (w.heap.size, .cells #[.string t, .slice ao qn cap] 85 (0, 0))] W) ?_ ?_
  · have k1 := HK0.out.new (.cells #[.string t, .slice ao qn cap] 85 (0, 0))
    have k3 := k1.new (.cells #[.string ⟨#[]⟩, .slice none 0 0] 25 (0, 0))
    have s1 : (w.alloc (.cells #[.string t, .slice ao qn cap] 85 (0, 0))).heap.size = w.heap.size + 1 := by simp
    rw [s1] at k3
    exact k3
  obtain ⟨g, hg⟩ : ∃ g, w.heap.size = g := ⟨_, rfl⟩
  rw [hg]
  rintro w1 k1
  have H1 := Lib.hid k1
  have c0 := cell_of (k1.at' in1) 0
  have c1 := cell_of (k1.at' in1) 1
  clear hg k1 HK0
  go_wp2_with fail
  refine (HV2.out _ _ H1.out).mono ?_
  rintro e w2 ⟨rfl, k2⟩
  have H2 := Lib.hid k2
  have c0 := cell_of (k2.at' in1) 0
  have c1 := cell_of (k2.at' in1) 1
  clear k2 H1 HV2
  go_wp2_with fail
  refine (HLa.out _ _ _ (H2.out.fr ((Fr.refl _ _).alloc _)) (heap_new _ _)).mono ?_
  rintro e w3 ⟨rfl, k3⟩
  have H3 := Lib.hid k3
  have c0 := cell_of (k3.at' in1) 0
  have c1 := cell_of (k3.at' in1) 1
  clear k3 H2 HLa
  cases lk with
  | true =>
    go_wp2_with fail
    refine ((HAns.out _ _ ⟨#[51, 48]⟩ H3.out)).mono ?_
    rintro e w9 ⟨⟨xa, xn, xc⟩, he9, a1⟩
    subst he9
    have b9 := a1.at' in0
    have d0 := cell_of b9 0
    have d1 := cell_of b9 1
    have d2 := free_of b9 0
    have d3 := free_of b9 1
    have H9 := Lib.hid a1
    clear a1 b9
    try dsimp only [SV.val]
    go_wp2_with fail
    refine bodyPost_ret (v := .agg #[_, .slice xa xn xc]) (results_cell_row Tryz.results43 _ _ (g + 1) _ _ _ _ rfl (msg_set (H9.out.at' in0) _ _) Tryz.underlying25 rfl info_msg) rfl (by rw [show _ = _ from (T1.out (by first | rfl | trivial | assumption))]; exact H9.out.done in0)
  | false =>
  go_wp2_with fail
  refine (HIs.out _).mono ?_
  rintro e w4 ⟨rfl, f4⟩
  have H4 := Lib.hid (H3.out.fr f4)
  have c0 := cell_of (H4.out.at' in1) 0
  have c1 := cell_of (H4.out.at' in1) 1
  clear f4 H3 HIs T1
  cases pn with
  | false =>
    go_wp2_with fail
    refine ((HAns.out _ _ ⟨#[49, 52]⟩ H4.out)).mono ?_
    rintro e w9 ⟨⟨xa, xn, xc⟩, he9, a1⟩
    subst he9
    have b9 := a1.at' in0
    have d0 := cell_of b9 0
    have d1 := cell_of b9 1
    have d2 := free_of b9 0
    have d3 := free_of b9 1
    have H9 := Lib.hid a1
    clear a1 b9
    try dsimp only [SV.val]
    go_wp2_with fail
    refine bodyPost_ret (v := .agg #[_, .slice xa xn xc]) (results_cell_row Tryz.results43 _ _ (g + 1) _ _ _ _ rfl (msg_set (H9.out.at' in0) _ _) Tryz.underlying25 rfl info_msg) rfl (by rw [show _ = _ from (T2.out (by first | rfl | trivial | assumption) (by first | rfl | trivial | assumption))]; exact H9.out.done in0)
  | true =>
  go_wp2_with fail
  refine (HV4.out _ _ H4.out).mono ?_
  rintro e w5 ⟨rfl, k5⟩
  have H5 := Lib.hid k5
  clear k5 H4 HV4 T2 c0 c1
  have c0 := cell_of (H5.out.at' in1) 0
  have c1 := cell_of (H5.out.at' in1) 1
  go_wp2_with fail
  refine (HNum.out _).mono ?_
  rintro e w6 ⟨rfl, rfl⟩
  clear HNum
  have H5' := Lib.hid (H5.out.fr (Fr.drew (Fr.refl _ _)))
  have HRq := Lib.hid (show ∀ W, AskK w H A K n S ao q [(g + 1, .cells #[.string ⟨#[]⟩, .slice none 0 0] 25 (0, 0)), (g, .cells #[.string t, .slice ao qn cap] 85 (0, 0))] W → W.cell? ⟨g, 0, none⟩ = some (.string t) ∧ W.cell? ⟨g, 1, none⟩ = some (.slice ao qn cap) from fun W k => ⟨cell_of (k.at' in1) 0, cell_of (k.at' in1) 1⟩)
  go_upto_region 7 with fail
  go_region_held3 (fun W => W.cell? ⟨g, 0, none⟩ = some (.string t) ∧ W.cell? ⟨g, 1, none⟩ = some (.slice ao qn cap))
    (first | exact HRq.out _ H7.out | exact HRq.out _ H6.out | exact HRq.out _ H5'.out | exact HRq.out _ H5.out | fail "nokeep")
    (first
      | (go_at_call 104; (with_reducible refine (HV11.out _ _ H5'.out).mono ?_); rintro e w6 ⟨rfl, k6⟩; have H6 := Lib.hid k6; clear k6)
      | (go_at_call 104; (with_reducible refine (HV41.out _ _ H6.out).mono ?_); rintro e w7 ⟨rfl, k7⟩; have H7 := Lib.hid k7; clear k7)
      | fail "noarm")
  all_goals
    clear H5 H5' H6 HV11 HV41 c0 c1
    have c0 := cell_of (H7.out.at' in1) 0
    have c1 := cell_of (H7.out.at' in1) 1
    have c2 := (HTen.out _ _ _ H7.out).2.2
    go_wp2_with fail
    refine (HAk.out _ _ H7.out).mono ?_
    rintro e w8 ⟨rfl, k8⟩
    have H8 := Lib.hid k8
    clear k8 H7 HAk c0 c1 c2
    obtain ⟨gp, hgp⟩ : ∃ g, w8.heap.size = g := ⟨_, rfl⟩
    cases po with
    | some p =>
      obtain ⟨l3, hl3⟩ := HAgL.out p rfl
      have HAg3 := Lib.hid (fun W L k => HAg.out W L p k rfl)
      have T3' := Lib.hid (T3.out (by first | rfl | trivial | assumption) (by first | rfl | trivial | assumption) p rfl)
      rw [hl3] at HAg3 T3'
      clear HAg HAgL T3 hl3
      obtain ⟨pk, pa, ps, pt⟩ := p
      unfold Lg.Post.val at HAg3 ⊢
      dsimp only [Option.getD_some, Option.isSome_some] at HAg3 ⊢
      go_upto_region 9 with fail
      refine wp_at (fun W => AskK w H A K n S ao q [(gp, .cells #[.string pk, .int .i64 pa, .int .i64 ps, .string pt] 53 (0, 0)), (g + 1, .cells #[.string ⟨#[]⟩, .slice none 0 0] 25 (0, 0)), (g, .cells #[.string t, .slice ao qn cap] 85 (0, 0))] W) (hgp ▸ H8.out.new _) ?_
      rintro w9 k9
      have H9 := Lib.hid k9
      clear k9 H8 hgp
      have c0 := cell_of (H9.out.at' in2) 0
      have c1 := cell_of (H9.out.at' in2) 1
      have c2 := cell_of (H9.out.at' in0) 0
      have c3 := cell_of (H9.out.at' in0) 1
      have c4 := cell_of (H9.out.at' in0) 2
      have c5 := cell_of (H9.out.at' in0) 3
      go_wp2_with fail
      refine ((HAg3.out _ _ H9.out)).mono ?_
      rintro e w9 ⟨⟨xa, xn, xc⟩, he9, a1⟩
      subst he9
      have b9 := a1.at' in1
      have d0 := cell_of b9 0
      have d1 := cell_of b9 1
      have d2 := free_of b9 0
      have d3 := free_of b9 1
      have H9 := Lib.hid a1
      clear a1 b9
      try dsimp only [SV.val]
      go_wp2_with fail
      refine bodyPost_ret (v := .agg #[_, .slice xa xn xc]) (results_cell_row Tryz.results43 _ _ (g + 1) _ _ _ _ rfl (msg_set (H9.out.at' in1) _ _) Tryz.underlying25 rfl info_msg) rfl (by rw [show _ = _ from T3'.out]; exact H9.out.done in1)
    | none =>
      have T7' := T7
      unfold Lg.Post.val Lg.zeroPost
      dsimp only [Option.getD_none, Option.isSome_none]
      go_upto_region 9 with fail
      refine wp_at (fun W => AskK w H A K n S ao q [(gp, .cells #[.string ⟨#[]⟩, .int .i64 0, .int .i64 0, .string ⟨#[]⟩] 53 (0, 0)), (g + 1, .cells #[.string ⟨#[]⟩, .slice none 0 0] 25 (0, 0)), (g, .cells #[.string t, .slice ao qn cap] 85 (0, 0))] W) (hgp ▸ H8.out.new _) ?_
      rintro w9 k9
      have H9 := Lib.hid k9
      clear k9 H8 hgp HAg HAgL T3
      have c0 := (HTen.out _ _ _ H9.out).2.1
      go_wp2_with fail
      refine (HFi.out _ _ H9.out).mono ?_
      rintro e w10 ⟨rfl, k10⟩
      have H10 := Lib.hid k10
      clear k10 H9 HFi c0
      have c0 := cell_of (H10.out.at' in2) 0
      have c1 := cell_of (H10.out.at' in2) 1
      have c2 := (HTen.out _ _ _ H10.out).2.2
      cases fo with
      | none =>
        dsimp only [Option.getD_none, Option.isSome_none]
        go_wp2_with fail
        refine ((HAns.out _ _ ⟨#[49, 53]⟩ H10.out)).mono ?_
        rintro e w9 ⟨⟨xa, xn, xc⟩, he9, a1⟩
        subst he9
        have b9 := a1.at' in1
        have d0 := cell_of b9 0
        have d1 := cell_of b9 1
        have d2 := free_of b9 0
        have d3 := free_of b9 1
        have H9 := Lib.hid a1
        clear a1 b9
        try dsimp only [SV.val]
        go_wp2_with fail
        refine bodyPost_ret (v := .agg #[_, .slice xa xn xc]) (results_cell_row Tryz.results43 _ _ (g + 1) _ _ _ _ rfl (msg_set (H9.out.at' in1) _ _) Tryz.underlying25 rfl info_msg) rfl (by rw [show _ = _ from (T4.out (by first | rfl | trivial | assumption) (by first | rfl | trivial | assumption) (by first | rfl | trivial | assumption) (by first | rfl | trivial | assumption))]; exact H9.out.done in1)
      | some a' =>
      obtain ⟨a1, a2⟩ := Hfo.out a' rfl
      obtain ⟨a, rfl⟩ : ∃ a : Nat, a' = (a : Int) := ⟨a'.toNat, by omega⟩
      have a3 : 1 ≤ a := by omega
      have a4 : a ≤ 99 := by omega
      dsimp only [Option.getD_some, Option.isSome_some]
      have HTx := Lib.hid (HTx.out Hpn.out a a3 a4)
      have HYe := Lib.hid (HYe.out a a4)
      obtain ⟨l2, hl2⟩ := HYL.out (tokenB (maskV K n) S.v (bl V2)).1 a
      have T7 := Lib.hid (show ¬ (24 ≤ cnt ∨ 5000000000000 - tot < (amt : Int)) → ¬ (lim = true ∧ te ≠ 0) → r = ({ S with us := if lim = true then Lm.tryL S.us S.rule crd (amt : Int) (now : Int) else S.us, ps := Lg.addL S.ps ⟨ky, (amt : Int), 1, strB (saidB (tokenB (maskV K n) S.v (bl V2)).1 a now)⟩ }, (U, l2)) from fun x y => by
        have h := T7.out (by first | rfl | trivial | assumption) (by first | rfl | trivial | assumption) (by first | rfl | trivial | assumption) (a : Int) rfl x y
        rw [h, ← hl2, Int.toNat_natCast])
      rw [hl2] at HYe
      have T5 := Lib.hid (show (24 ≤ cnt ∨ 5000000000000 - tot < (amt : Int)) → r = (S, (U, lN q cRoom)) from fun x => T5.out (by first | rfl | trivial | assumption) (by first | rfl | trivial | assumption) (by first | rfl | trivial | assumption) (a : Int) rfl x)
      have T6 := Lib.hid (show ¬ (24 ≤ cnt ∨ 5000000000000 - tot < (amt : Int)) → lim = true → te ≠ 0 → r = (S, (U, lN q (tryC te))) from fun x => T6.out (by first | rfl | trivial | assumption) (by first | rfl | trivial | assumption) (by first | rfl | trivial | assumption) (a : Int) rfl x)
      have HCa := Lib.hid (HCa.out Hpn.out)
      clear HYL Hfo Hpn hl2 T4 T7'
      obtain ⟨TK, hTK⟩ : ∃ x, strB (tokenB (maskV K n) S.v (bl V2)).1 = x := ⟨_, rfl⟩
      obtain ⟨TX, hTX⟩ : ∃ x, strB (saidB (tokenB (maskV K n) S.v (bl V2)).1 a now) = x := ⟨_, rfl⟩
      obtain ⟨tz, htz⟩ : ∃ x, (tokenB (maskV K n) S.v (bl V2)).2 = x := ⟨_, rfl⟩
      rw [hTK, htz] at HTk
      rw [hTK, hTX] at HTx
      rw [hTK] at HYe
      rw [hTX] at T7
      clear hTK hTX htz
      have HkE' := HkE.out
      subst HkE'
      go_wp2_with fail
      refine (HLi.out _ _ H10.out).mono ?_
      rintro e w11 ⟨⟨vo, cp, rfl⟩, k11⟩
      have H11 := Lib.hid k11
      clear k11 H10 HLi c0 c1 c2
      have c0 := cell_of (H11.out.at' in2) 0
      have c1 := cell_of (H11.out.at' in2) 1
      have c2 := (HTen.out _ _ _ H11.out).2.2
      by_cases hc : 24 ≤ cnt
      · have hc' : (24 : Int) ≤ (cnt : Int) := by omega
        go_wp2_with fail
        refine ((HAns.out _ _ ⟨#[57, 54]⟩ H11.out)).mono ?_
        rintro e w9 ⟨⟨xa, xn, xc⟩, he9, a1⟩
        subst he9
        have b9 := a1.at' in1
        have d0 := cell_of b9 0
        have d1 := cell_of b9 1
        have d2 := free_of b9 0
        have d3 := free_of b9 1
        have H9 := Lib.hid a1
        clear a1 b9
        try dsimp only [SV.val]
        go_wp2_with fail
        refine bodyPost_ret (v := .agg #[_, .slice xa xn xc]) (results_cell_row Tryz.results43 _ _ (g + 1) _ _ _ _ rfl (msg_set (H9.out.at' in1) _ _) Tryz.underlying25 rfl info_msg) rfl (by rw [show _ = _ from (T5.out (.inl hc))]; exact H9.out.done in1)
      have hc' : (cnt : Int) < 24 := by omega
      go_wp2_with fail
      refine (HTo.out _ _ H11.out).mono ?_
      rintro e w11b ⟨rfl, k11⟩
      have H11b := Lib.hid k11
      clear k11 H11 HTo c0 c1 c2
      have c0 := cell_of (H11b.out.at' in2) 0
      have c1 := cell_of (H11b.out.at' in2) 1
      have c2 := (HTen.out _ _ _ H11b.out).1
      by_cases hr2 : 5000000000000 - tot < (amt : Int)
      · go_wp2_with fail
        refine ((HAns.out _ _ ⟨#[57, 54]⟩ H11b.out)).mono ?_
        rintro e w9 ⟨⟨xa, xn, xc⟩, he9, a1⟩
        subst he9
        have b9 := a1.at' in1
        have d0 := cell_of b9 0
        have d1 := cell_of b9 1
        have d2 := free_of b9 0
        have d3 := free_of b9 1
        have H9 := Lib.hid a1
        clear a1 b9
        try dsimp only [SV.val]
        go_wp2_with fail
        refine bodyPost_ret (v := .agg #[_, .slice xa xn xc]) (results_cell_row Tryz.results43 _ _ (g + 1) _ _ _ _ rfl (msg_set (H9.out.at' in1) _ _) Tryz.underlying25 rfl info_msg) rfl (by rw [show _ = _ from (T5.out (.inr hr2))]; exact H9.out.done in1)
      have hr3 : (amt : Int) ≤ 5000000000000 - tot := by omega
      have T6 := Lib.hid (T6.out (by omega))
      have T7 := Lib.hid (T7.out (by omega))
      clear T5
      cases lim with
      | false =>
        go_wp2_with fail
        refine (HTk.out _ _ S rfl H11b.out).mono ?_
        rintro e w12 ⟨rfl, k12⟩
        have H12 := Lib.hid k12
        obtain ⟨gs, hgs⟩ : ∃ g, w12.heap.size = g := ⟨_, rfl⟩
        clear k12 H11b HTk c0 c1 c2
        go_upto_region 23 with fail
        refine wp_at (fun W => AskK w H A K n S ao q [(gs, .cells #[.string TK, .int .i64 (a : Int), .int .i64 (now : Int)] 175 (0, 0)), (gp, .cells #[.string ⟨#[]⟩, .int .i64 0, .int .i64 0, .string ⟨#[]⟩] 53 (0, 0)), (g + 1, .cells #[.string ⟨#[]⟩, .slice none 0 0] 25 (0, 0)), (g, .cells #[.string t, .slice ao qn cap] 85 (0, 0))] W) (hgs ▸ H12.out.new _) ?_
        rintro w13 k13
        have H13 := Lib.hid k13
        clear k13 H12 hgs
        have HKs := Lib.hid (show ∀ W S2, AskK w H A K n S2 ao q [(gs, .cells #[.string TK, .int .i64 (a : Int), .int .i64 (now : Int)] 175 (0, 0)), (gp, .cells #[.string ⟨#[]⟩, .int .i64 0, .int .i64 0, .string ⟨#[]⟩] 53 (0, 0)), (g + 1, .cells #[.string ⟨#[]⟩, .slice none 0 0] 25 (0, 0)), (g, .cells #[.string t, .slice ao qn cap] 85 (0, 0))] W → W.cell? ⟨A.tb, 8, none⟩ = some (.pointer (some ⟨A.ll, 0, none⟩)) ∧ W.cell? ⟨gs, 0, none⟩ = some (.string TK) ∧ W.cell? ⟨gs, 1, none⟩ = some (.int .i64 (a : Int)) ∧ W.cell? ⟨gs, 2, none⟩ = some (.int .i64 (now : Int)) from fun W S2 k => ⟨(HTen.out _ _ _ k).2.2, cell_of (k.at' in0) 0, cell_of (k.at' in0) 1, cell_of (k.at' in0) 2⟩)
        have HD13 := Lib.hid (H13.out.fr (Fr.drew (Fr.refl _ w13)))
        go_region_held3 (fun W => W.cell? ⟨A.tb, 8, none⟩ = some (.pointer (some ⟨A.ll, 0, none⟩)) ∧ W.cell? ⟨gs, 0, none⟩ = some (.string TK) ∧ W.cell? ⟨gs, 1, none⟩ = some (.int .i64 (a : Int)) ∧ W.cell? ⟨gs, 2, none⟩ = some (.int .i64 (now : Int)))
          (first | exact HKs.out _ _ H15.out | exact HKs.out _ _ H14.out | exact HKs.out _ _ HD13.out | exact HKs.out _ _ H13.out | fail "nokeep")
          (first
            | (go_at_call 113; (with_reducible refine (HTx.out _ _ _ HD13.out).mono ?_); rintro e w14 ⟨rfl, k14⟩; have H14 := Lib.hid k14; clear k14)
            | (go_at_call 112; (with_reducible refine (HAp.out _ _ _ _ H14.out).mono ?_); rintro e w15 ⟨rfl, k15⟩; have H15 := Lib.hid k15; clear k15)
            | fail "noarm")
        all_goals
          clear H13 HD13 H14 HTx HAp
          have c0 := cell_of (H15.out.at' in3) 0
          have c1 := cell_of (H15.out.at' in3) 1
          have c4 := cell_of (H15.out.at' in0) 0
          have c5 := cell_of (H15.out.at' in0) 1
          have c6 := cell_of (H15.out.at' in0) 2
          go_wp2_with fail
          refine ((HYe.out _ _ _ H15.out)).mono ?_
          rintro e w9 ⟨⟨xa, xn, xc⟩, he9, a1⟩
          subst he9
          have b9 := a1.at' in2
          have d0 := cell_of b9 0
          have d1 := cell_of b9 1
          have d2 := free_of b9 0
          have d3 := free_of b9 1
          have H9 := Lib.hid a1
          clear a1 b9
          try dsimp only [SV.val]
          go_wp2_with fail
          refine bodyPost_ret (v := .agg #[_, .slice xa xn xc]) (results_cell_row Tryz.results43 _ _ (g + 1) _ _ _ _ rfl (msg_set (H9.out.at' in2) _ _) Tryz.underlying25 rfl info_msg) rfl (by rw [show _ = _ from (T7.out (by simp))]; exact H9.out.done in2)
      | true =>
        go_wp2_with fail
        refine (HCa.out _ _ H11b.out).mono ?_
        rintro e w11c ⟨rfl, k11⟩
        have H11c := Lib.hid k11
        clear k11 H11b HCa c0 c1 c2
        go_wp2_with fail
        refine (HUs.out _ _ H11c.out).mono ?_
        rintro e w11d ⟨rfl, k11⟩
        have H11d := Lib.hid k11
        clear k11 H11c HUs
        have c0 := cell_of (H11d.out.at' in2) 0
        have c1 := cell_of (H11d.out.at' in2) 1
        have c2 := (HTen.out _ _ _ H11d.out).1
        by_cases hz : te = 0
        · have HTC0 := Lib.hid (show tryC te = ⟨#[48, 48]⟩ from by rw [hz]; rfl)
          rw [HTC0.out]
          clear HTC HTL
          go_wp2_with fail
          refine (HTk.out _ _ { S with us := Lm.tryL S.us S.rule crd (amt : Int) (now : Int) } rfl H11d.out).mono ?_
          rintro e w12 ⟨rfl, k12⟩
          have H12 := Lib.hid k12
          obtain ⟨gs, hgs⟩ : ∃ g, w12.heap.size = g := ⟨_, rfl⟩
          clear k12 H11d HTk c0 c1 c2
          go_upto_region 23 with fail
          refine wp_at (fun W => AskK w H A K n { S with us := Lm.tryL S.us S.rule crd (amt : Int) (now : Int) } ao q [(gs, .cells #[.string TK, .int .i64 (a : Int), .int .i64 (now : Int)] 175 (0, 0)), (gp, .cells #[.string ⟨#[]⟩, .int .i64 0, .int .i64 0, .string ⟨#[]⟩] 53 (0, 0)), (g + 1, .cells #[.string ⟨#[]⟩, .slice none 0 0] 25 (0, 0)), (g, .cells #[.string t, .slice ao qn cap] 85 (0, 0))] W) (hgs ▸ H12.out.new _) ?_
          rintro w13 k13
          have H13 := Lib.hid k13
          clear k13 H12 hgs
          have HKs := Lib.hid (show ∀ W S2, AskK w H A K n S2 ao q [(gs, .cells #[.string TK, .int .i64 (a : Int), .int .i64 (now : Int)] 175 (0, 0)), (gp, .cells #[.string ⟨#[]⟩, .int .i64 0, .int .i64 0, .string ⟨#[]⟩] 53 (0, 0)), (g + 1, .cells #[.string ⟨#[]⟩, .slice none 0 0] 25 (0, 0)), (g, .cells #[.string t, .slice ao qn cap] 85 (0, 0))] W → W.cell? ⟨A.tb, 8, none⟩ = some (.pointer (some ⟨A.ll, 0, none⟩)) ∧ W.cell? ⟨gs, 0, none⟩ = some (.string TK) ∧ W.cell? ⟨gs, 1, none⟩ = some (.int .i64 (a : Int)) ∧ W.cell? ⟨gs, 2, none⟩ = some (.int .i64 (now : Int)) from fun W S2 k => ⟨(HTen.out _ _ _ k).2.2, cell_of (k.at' in0) 0, cell_of (k.at' in0) 1, cell_of (k.at' in0) 2⟩)
          have HD13 := Lib.hid (H13.out.fr (Fr.drew (Fr.refl _ w13)))
          go_region_held3 (fun W => W.cell? ⟨A.tb, 8, none⟩ = some (.pointer (some ⟨A.ll, 0, none⟩)) ∧ W.cell? ⟨gs, 0, none⟩ = some (.string TK) ∧ W.cell? ⟨gs, 1, none⟩ = some (.int .i64 (a : Int)) ∧ W.cell? ⟨gs, 2, none⟩ = some (.int .i64 (now : Int)))
            (first | exact HKs.out _ _ H15.out | exact HKs.out _ _ H14.out | exact HKs.out _ _ HD13.out | exact HKs.out _ _ H13.out | fail "nokeep")
            (first
              | (go_at_call 113; (with_reducible refine (HTx.out _ _ _ HD13.out).mono ?_); rintro e w14 ⟨rfl, k14⟩; have H14 := Lib.hid k14; clear k14)
              | (go_at_call 112; (with_reducible refine (HAp.out _ _ _ _ H14.out).mono ?_); rintro e w15 ⟨rfl, k15⟩; have H15 := Lib.hid k15; clear k15)
              | fail "noarm")
          all_goals
            clear H13 HD13 H14 HTx HAp
            have c0 := cell_of (H15.out.at' in3) 0
            have c1 := cell_of (H15.out.at' in3) 1
            have c4 := cell_of (H15.out.at' in0) 0
            have c5 := cell_of (H15.out.at' in0) 1
            have c6 := cell_of (H15.out.at' in0) 2
            go_wp2_with fail
            refine ((HYe.out _ _ _ H15.out)).mono ?_
            rintro e w9 ⟨⟨xa, xn, xc⟩, he9, a1⟩
            subst he9
            have b9 := a1.at' in2
            have d0 := cell_of b9 0
            have d1 := cell_of b9 1
            have d2 := free_of b9 0
            have d3 := free_of b9 1
            have H9 := Lib.hid a1
            clear a1 b9
            try dsimp only [SV.val]
            go_wp2_with fail
            refine bodyPost_ret (v := .agg #[_, .slice xa xn xc]) (results_cell_row Tryz.results43 _ _ (g + 1) _ _ _ _ rfl (msg_set (H9.out.at' in2) _ _) Tryz.underlying25 rfl info_msg) rfl (by rw [show _ = _ from (T7.out (by simp [hz]))]; exact H9.out.done in2)
        · have HE11 := Lib.hid H11d.out
          rw [HTL.out hz] at HE11
          have T6' := Lib.hid (T6.out (by first | rfl | trivial | assumption) hz)
          have hn := str_ne3 (HTC.out hz)
          rw [show (⟨#[48, 48]⟩ : ByteArray).toList = [48, 48] from by decide +kernel] at hn
          obtain ⟨cc, hcc⟩ : ∃ x, tryC te = x := ⟨_, rfl⟩
          rw [hcc] at hn T6' ⊢
          clear hcc H11d
          go_wp2_with fail
          refine ((HAns.out _ _ cc HE11.out)).mono ?_
          rintro e w9 ⟨⟨xa, xn, xc⟩, he9, a1⟩
          subst he9
          have b9 := a1.at' in1
          have d0 := cell_of b9 0
          have d1 := cell_of b9 1
          have d2 := free_of b9 0
          have d3 := free_of b9 1
          have H9 := Lib.hid a1
          clear a1 b9
          try dsimp only [SV.val]
          go_wp2_with fail
          refine bodyPost_ret (v := .agg #[_, .slice xa xn xc]) (results_cell_row Tryz.results43 _ _ (g + 1) _ _ _ _ rfl (msg_set (H9.out.at' in1) _ _) Tryz.underlying25 rfl info_msg) rfl (by rw [show _ = _ from T6'.out]; exact H9.out.done in1)
end Go.Proofs.YtajhgejhdalobaaGreatDoor
