/-
  TenantRoutes: THE WALK.
-/
import Derived.BigQuiet
import Derived.Test.YtajhgejhdalobaaGreatDoorPgB
import Derived.Test.YtajhgejhdalobaaGreatDoorTnM
namespace Go.Proofs.YtajhgejhdalobaaGreatDoor

def panS : ByteArray := ⟨#[52, 49, 49, 49, 49, 49, 49, 49, 49, 49, 49, 49, 49, 49, 49, 49]⟩
def termS : ByteArray := ⟨#[84, 69, 82, 77, 48, 48, 48, 49]⟩
def smQ (c : UInt8) : List Fld := [⟨2, panS⟩, ⟨4, ⟨#[48, 48, 48, 48, 48, 48, 48, 48, 48, 48, 54, c]⟩⟩, ⟨11, ⟨#[48, 48, 48, 48, 48, 49]⟩⟩, ⟨41, termS⟩]
def smR : Lm.Rule := ⟨10, 2, 100, 80⟩
def smS : TenS := ⟨1, smR, [⟨⟨#[52]⟩, 7⟩], [], []⟩
theorem sm_put : Rt.putE [] ⟨#[52]⟩ 7 = 0 ∧ Rt.putR [] ⟨#[52]⟩ 7 = [⟨⟨#[52]⟩, 7⟩] := by
  have h : Rt.putE [] ⟨#[52]⟩ 7 = 0 := by decide +kernel
  refine ⟨h, ?_⟩
  unfold Rt.putR
  rw [if_pos h]
  rfl
theorem sm_rule : smR.right = true := by decide +kernel
theorem sm_ok (M : MaskF) : TenantOk M smS := by
  have h := ok_new M
  refine ⟨h.v1, h.v2, sm_rule, ?_, h.us, h.win, h.ps, h.said⟩
  have := h.rs.put ⟨#[52]⟩ 7
  rw [show Rt.putR newT.rs ⟨#[52]⟩ 7 = _ from sm_put.2] at this
  exact this
theorem sm_right (c : UInt8) (hc : c = 48 ∨ c = 49) : rightM (t4 48 49 48 48) (smQ c) = 0 := by rcases hc with rfl | rfl <;> decide +kernel
theorem sm_pan : panB (bl panS) = true := by decide +kernel
theorem sm_find : Rt.findR [⟨⟨#[52]⟩, 7⟩] panS = some 7 := by decide +kernel
theorem sm_lack (c : UInt8) : lacksB (smQ c) [2, 4, 11, 41] = false := by
  unfold lacksB
  rw [List.any_eq_false]
  intro n hn
  simp only [List.mem_cons, List.not_mem_nil, or_false] at hn
  rcases hn with rfl | rfl | rfl | rfl <;> simp [valB, valF, smQ]
theorem sm_val2 (c : UInt8) : valS 2 (smQ c) = panS := by simp [valS, valF, smQ]
theorem sm_amt : amountOf (smQ 48) = 60 ∧ amountOf (smQ 49) = 61 := by constructor <;> decide +kernel
theorem sm_key (c : UInt8) : keyOf (smQ c) = ⟨#[48, 48, 48, 48, 48, 49]⟩ ++ termS := by simp [keyOf, valS, valF, smQ]
theorem okM_32 (t : ByteArray) (q : List Fld) (tok : Bs) (a : Nat) : valF 32 (okM t q tok a).2 = some (strB (itoB a)) := by
  show valF 32 (ansL q cOk [⟨32, strB (itoB a)⟩, ⟨48, strB tok⟩]) = _
  unfold ansL
  rw [fold_putIf q _ _ (by decide), List.foldl_cons, List.foldl_cons, List.foldl_cons, List.foldl_nil, put_stays (show (32 : Int) ≠ 48 by decide), put_found]
theorem card_hide {M : MaskF} {l : Bs} (h : panB l = true) : Lm.cardB (cardOf M l) = true := by
  have hs := shape_iff.1 (hide_shape M 1 (pan_shape h))
  have e : (cardOf M l).size = (hideB M 1 l).length := strB_size _
  unfold Lm.cardB
  rw [empty_size (by omega)]
  simp
  omega
theorem sm_try {c : ByteArray} (hc : Lm.cardB c = true) : Lm.tryE [] smR c 60 3 = 0 := by
  have hm : Lm.mayB smR c 60 3 = true := by
    rw [Lm.may_iff]
    exact ⟨sm_rule, hc, by decide, by decide, by decide, by decide⟩
  unfold Lm.tryE
  rw [if_neg (by rw [hm]; simp), if_neg (by decide), if_neg (by show ¬ (2 : Int) ≤ 0; decide), if_neg (by show ¬ (100 - 60 : Int) < 0; decide), if_neg (by simp [Lm.fullB])]
theorem small_plain (M : MaskF) : ∃ S tok, handleT M smS (t4 48 49 48 48) (smQ 48) 3 = (S, okM (t4 48 49 48 48) (smQ 48) tok 7) ∧ handleT M S (t4 48 49 48 48) (smQ 49) 3 = (S, ansM (t4 48 49 48 48) (smQ 49) cOther []) ∧ Lg.sumA S.ps = 60 ∧ TenantOk M S ∧ S.v = 1 := by
  have hb := (back_token M (v := 1) (now := 1) sm_pan (by decide) (by decide) (by decide)).2
  obtain ⟨tok, htok⟩ : ∃ tok, (tokenB M 1 (bl panS)).1 = tok := ⟨_, rfl⟩
  rw [htok] at hb
  obtain ⟨S, hS⟩ : ∃ S : TenS, S = { smS with us := Lm.tryL [] smR (cardOf M (bl panS)) 60 3, ps := Lg.addL [] ⟨keyOf (smQ 48), 60, 1, strB (saidB tok 7 3)⟩ } := ⟨_, rfl⟩
  have h1 : handleT M smS (t4 48 49 48 48) (smQ 48) 3 = (S, okM (t4 48 49 48 48) (smQ 48) tok 7) := by
    unfold handleT
    rw [if_neg (by rw [sm_right 48 (.inl rfl)]; simp), if_pos (.inl rfl), askT_yes (a := 7) (sm_lack 48) (by rw [sm_val2]; exact sm_pan) rfl (by rw [sm_val2]; exact sm_find) (by rw [sm_amt.1]; decide) (by
      rw [sm_val2, sm_amt.1]
      rintro ⟨_, h⟩
      exact h (sm_try (card_hide sm_pan)))]
    rw [sm_val2, sm_amt.1, if_pos rfl, hS, ← htok]
    rfl
  have hc := han_cases M smS (t4 48 49 48 48) (smQ 48) 3
  have ho : TenantOk M S := by
    have := ok_handle (sm_ok M) (t4 48 49 48 48) (smQ 48) 3
    rw [h1] at this
    exact this
  have hps : S.ps = [⟨keyOf (smQ 48), 60, 1, strB (saidB tok 7 3)⟩] := by
    rw [hS]
    show Lg.addL [] _ = _
    have he : Lg.addE [] ⟨keyOf (smQ 48), 60, 1, strB (saidB tok 7 3)⟩ = 0 := by
      have hr := (rightM_iff.1 (sm_right 48 (.inl rfl))).2
      obtain ⟨_, _, _, he⟩ := new_post (now := 3) (sm_ok M) hr (by decide) (a := 7) (tok := tok) (sm_lack 48) (by rw [sm_val2]; exact sm_pan) rfl (by rw [sm_val2]; exact sm_find) (by decide) (by rw [sm_amt.1]; decide) (by rw [sm_val2]; exact htok.symm)
      rw [sm_amt.1] at he
      exact he
    rw [Lg.addL_zero he]
    rfl
  have hv : S.v = 1 := by rw [hS]; rfl
  refine ⟨S, tok, h1, ?_, ?_, ho, hv⟩
  · unfold handleT
    have ha : Lg.askP S.ps (keyOf (smQ 49)) = some ⟨keyOf (smQ 48), 60, 1, strB (saidB tok 7 3)⟩ := by
      rw [hps, sm_key 49, sm_key 48]
      unfold Lg.askP
      rw [List.find?_cons]
      simp
    rw [if_neg (by rw [sm_right 49 (.inr rfl)]; simp), if_pos (.inl rfl), askT_again (sm_lack 49) (by rw [sm_val2]; exact sm_pan) ha, againT_said (l := bl panS) rfl (by rw [hv]; exact hb) (by decide) (by decide) (by decide), if_pos (.inr (by rw [sm_amt.2]; show ((61 : Nat) : Int) ≠ 60; decide))]
  · rw [hps]
    rfl
end Go.Proofs.YtajhgejhdalobaaGreatDoor
namespace Go.Proofs.YtajhgejhdalobaaGreatDoor
open Go.RowKit

def mastB : Bs := [48, 49, 50, 51, 52, 53, 54, 55, 56, 57, 97, 98, 99, 100, 101, 102]
set_option maxRecDepth 100000 in
set_option maxHeartbeats 1600000 in
theorem tmaster_any (w : World) : Calls Tryz.prog 16 #[] w fun e w' => ∃ g, e = .returned (.slice (some ⟨g, 0, none⟩) mastB.length 16) ∧ RowRd ByteR w' (some ⟨g, 0, none⟩) mastB ∧ Fr noBlock w w' ∧ w.heap.size ≤ g := by
  have kc := fun (W : World) (C : Array Value) (n c : Nat) => Lib.run_convert_bytes_const (P := Tryz.prog) W 34 5 C n c Tryz.underlying34 Tryz.underlying5
  go_enter Tryz.func16, Tryz.ntmps16
  go_wp2_with fail
  go_ret
  exact ⟨w.heap.size, rfl, RowRd.of_flat (heap_new w _) rfl (by unfold maxLen; simp [mastB]), (Fr.refl noBlock w).alloc _, Nat.le_refl _⟩
set_option maxRecDepth 100000 in
set_option maxHeartbeats 1600000 in
theorem asks_any (a b c : ByteArray) (w : World) : Calls Tryz.prog 40 #[.string a, .string b, .string c] w fun e w' => ∃ g, e = .returned (.agg #[.string (t4 48 49 48 48), .slice (some ⟨g, 0, none⟩) 4 4]) ∧ RowRd FldR w' (some ⟨g, 0, none⟩) [⟨2, a⟩, ⟨4, b⟩, ⟨11, c⟩, ⟨41, termS⟩] ∧ Fr noBlock w w' ∧ w.heap.size ≤ g := by
  go_enter Tryz.func40, Tryz.ntmps40
  go_wp2_with fail
  have b1 := heap_new w (.cells #[.string ⟨#[48, 49, 48, 48]⟩, .slice (some ⟨w.heap.size + 1, 0, none⟩) 4 4] 25)
  have hs : (w.alloc (.cells #[.string ⟨#[48, 49, 48, 48]⟩, .slice (some ⟨w.heap.size + 1, 0, none⟩) 4 4] 25)).heap.size = w.heap.size + 1 := by simp
  have b2 := heap_new (w.alloc (.cells #[.string ⟨#[48, 49, 48, 48]⟩, .slice (some ⟨w.heap.size + 1, 0, none⟩) 4 4] 25)) (.cells #[.int .i64 2, .string a, .int .i64 4, .string b, .int .i64 11, .string c, .int .i64 41, .string ⟨#[84, 69, 82, 77, 48, 48, 48, 49]⟩] 31)
  rw [hs] at b2
  refine bodyPost_ret (v := .agg #[.string ⟨#[48, 49, 48, 48]⟩, .slice (some ⟨w.heap.size + 1, 0, none⟩) 4 4]) (results_cell_row Tryz.results40 _ _ w.heap.size _ _ _ _ rfl (heap_old _ b1) Tryz.underlying25 rfl info_msg) rfl ⟨w.heap.size + 1, rfl, RowRd.of_flat b2 rfl (by unfold maxLen; simp), ((Fr.refl noBlock w).alloc _).alloc _, Nat.le_succ _⟩
structure OwnT (w W : World) (A : TenW) (K : Bs) (n : Nat) (S : TenS) (H : Nat → Prop) : Prop where
  it : TenA A K n S W H
  fr : Fr noBlock w W
  new : ∀ k, H k → w.heap.size ≤ k
namespace OwnT
variable {w W W' : World} {A : TenW} {K : Bs} {n : Nat} {S S' : TenS} {H H' : Nat → Prop}
theorem glob (h : OwnT w W A K n S H) (hG : Glob w noBlock) : Glob W H := by
  obtain ⟨l1, l2⟩ := hG.lt
  have g := hG.fr h.fr
  exact ⟨g.tab, g.max, fun hk => by have := h.new _ hk; omega, fun hk => by have := h.new _ hk; omega⟩
theorem step (h : OwnT w W A K n S H) (t : TenA A K n S' W' H') (s : Step H H' W W') : OwnT w W' A K n S' H' :=
  ⟨t, h.fr.trans s.fr (fun k hk => .inr (h.new k hk)), fun k hk => (s.foot k hk).elim (h.new k) (fun hle => Nat.le_trans h.fr.size hle)⟩
theorem on (h : OwnT w W A K n S H) (f : Fr noBlock W W') : OwnT w W' A K n S H := ⟨TenA.ok.fr0 h.it f, h.fr.trans' f, h.new⟩
theorem old {α : Type} {R : Rec α} {ao : Option Addr} {xs : List α} (h : OwnT w W A K n S H) (r : RowRd R w ao xs) : Bes R ao xs W H :=
  ⟨r.fr0 h.fr, fun h0 a e => by
    obtain ⟨b, off, e', h1, _⟩ := r.at' 0 h0
    rw [e] at e'
    cases e'
    exact ⟨fun hf => by have h2 := h.new _ hf; dsimp only at h2; omega, Nat.lt_of_lt_of_le h1 h.fr.size⟩⟩
theorem bes {α : Type} {R : Rec α} {g : Nat} {xs : List α} (h : OwnT w W A K n S H) (_f : Fr noBlock W W') (r : RowRd R W' (some ⟨g, 0, none⟩) xs) (hg : W.heap.size ≤ g) : Bes R (some ⟨g, 0, none⟩) xs W' H :=
  ⟨r, fun h0 a e => by
    cases e
    obtain ⟨b, off, e', h1, _⟩ := r.at' 0 h0
    cases e'
    exact ⟨fun hf => by have := TenA.ok.lt h.it _ hf; dsimp only at this; omega, h1⟩⟩
end OwnT
def HandP (w : World) (A : TenW) (K : Bs) (n : Nat) (S : TenS) (m : Msg) (H : Nat → Prop) (W : World) (e : Ending) (w' : World) : Prop := ∃ (sv : SV) (H' : Nat → Prop), e = .returned (.agg #[.string m.1, sv.val]) ∧ sv.n = m.2.length ∧ RowAt 31 FldR w' sv.val m.2 ∧ OwnT w w' A K n S H' ∧ Step H H' W w' ∧ ∀ k, sv.val.ownBlock = some k → W.heap.size ≤ k ∧ ¬ H' k
theorem OwnT.answer {w W : World} {A : TenW} {K : Bs} {n : Nat} {S S' : TenS} {m : Msg} {H : Nat → Prop} (h : OwnT w W A K n S H) {f : Nat} {args : Array Value} (c : Calls Tryz.prog f args W (AnsT A K n S' m H W)) : Calls Tryz.prog f args W (HandP w A K n S' m H W) := by
  refine c.mono ?_
  rintro e w' ⟨sv, e1, a1, a2, H', t, s, a4⟩
  exact ⟨sv, H', e1, a1, a2, h.step t s, s, a4⟩
end Go.Proofs.YtajhgejhdalobaaGreatDoor
namespace Go.Proofs.YtajhgejhdalobaaGreatDoor
open Go.RowKit

structure OwnL (w W : World) (A : TenW) (K : Bs) (n : Nat) (S : TenS) (H : Nat → Prop) (L : List (Nat × Obj)) : Prop where
  own : OwnT w W A K n S H
  each : ∀ p ∈ L, W.heap[p.1]? = some p.2 ∧ w.heap.size ≤ p.1 ∧ ¬ H p.1
namespace OwnL
variable {w W W' : World} {A : TenW} {K : Bs} {n : Nat} {S S' : TenS} {H H' : Nat → Prop} {L : List (Nat × Obj)}
theorem start (h : OwnT w W A K n S H) : OwnL w W A K n S H [] := ⟨h, fun p hp => by cases hp⟩
theorem step (h : OwnL w W A K n S H L) (t : OwnT w W' A K n S' H') (s : Step H H' W W') : OwnL w W' A K n S' H' L := ⟨t, fun p hp => by
  obtain ⟨a, b, c⟩ := h.each p hp
  exact ⟨s.fr.obj a c, b, fun hk => (s.foot _ hk).elim c (fun hle => by have := heap_lt a; omega)⟩⟩
theorem on (h : OwnL w W A K n S H L) (f : Fr noBlock W W') : OwnL w W' A K n S H L := ⟨h.own.on f, fun p hp => ⟨f.obj (h.each p hp).1 (fun z => z), (h.each p hp).2⟩⟩
theorem new (h : OwnL w W A K n S H L) (o : Obj) : OwnL w (W.alloc o) A K n S H ((W.heap.size, o) :: L) := ⟨h.own.on ((Fr.refl _ W).alloc o), fun p hp => by
  rcases List.mem_cons.1 hp with rfl | hp
  · exact ⟨heap_new W o, h.own.fr.size, TenA.ok.new h.own.it⟩
  · exact ⟨heap_old _ (h.each p hp).1, (h.each p hp).2⟩⟩
theorem at' (h : OwnL w W A K n S H L) {p : Nat × Obj} (hp : p ∈ L) : W.heap[p.1]? = some p.2 := (h.each p hp).1
theorem sub (h : OwnL w W A K n S H L) {L' : List (Nat × Obj)} (hs : ∀ p ∈ L', p ∈ L) : OwnL w W A K n S H L' := ⟨h.own, fun p hp => h.each p (hs p hp)⟩
end OwnL
theorem hand_bes {W : World} {H : Nat → Prop} {xa : Option Addr} {n xc : Nat} {l : List Fld} {b : Nat} (h : RowAt 31 FldR W (.slice xa n xc) l) (hk : ∀ k, (Value.slice xa n xc).ownBlock = some k → b ≤ k ∧ ¬ H k) : Bes FldR xa l W H :=
  ⟨RowAt.rd h, fun _ a e => by
    subst e
    exact ⟨(hk a.block rfl).2, h.lt a.block rfl⟩⟩
theorem fold_len : ∀ (fs l : List Fld), (fs.foldl (fun m f => putL m f.n f.v) l).length ≤ l.length + fs.length
  | [], _ => Nat.le_refl _
  | f :: fs, l => by
    rw [List.foldl_cons, List.length_cons]
    have h1 := fold_len fs (putL l f.n f.v)
    have h2 := putL_len l f.n f.v
    omega
theorem foldIf_len (q : List Fld) : ∀ (ns : List Int) (l : List Fld), (ns.foldl (putIf q) l).length ≤ l.length + ns.length
  | [], _ => Nat.le_refl _
  | n :: ns, l => by
    rw [List.foldl_cons, List.length_cons]
    have h1 := foldIf_len q ns (putIf q l n)
    have h2 := putL_len l n (valS n q)
    have h3 : (putIf q l n).length ≤ l.length + 1 := by
      unfold putIf
      split
      · exact h2
      · omega
    omega
theorem ansL_len (q : List Fld) (c : ByteArray) (more : List Fld) : (ansL q c more).length ≤ more.length + 6 := by
  unfold ansL
  have h1 := foldIf_len q [3, 4, 11, 41, 70] (((⟨39, c⟩ : Fld) :: more).foldl (fun m f => putL m f.n f.v) [])
  have h2 := fold_len ((⟨39, c⟩ : Fld) :: more) []
  simp only [List.length_cons, List.length_nil] at h1 h2
  omega
theorem ito7 : strB (itoB 7) = ⟨#[55]⟩ := by
  unfold itoB
  rw [if_pos (by decide)]
  rfl
theorem sm_up : upT (t4 48 49 48 48) = ⟨#[48, 49, 49, 48]⟩ := by decide +kernel
theorem sm_small (c : UInt8) : SmallM (t4 48 49 48 48) (smQ c) := by
  have e : (smQ c).length = 4 := rfl
  have h1 : (t4 48 49 48 48).size = 4 := rfl
  refine ⟨by unfold maxLen; omega, fun f hf => ?_, by unfold maxLen; omega⟩
  have h2 : ∀ f ∈ smQ c, f.v.size ≤ 16 := by
    intro f hf
    simp only [smQ, List.mem_cons, List.not_mem_nil, or_false] at hf
    rcases hf with rfl | rfl | rfl | rfl
    · show panS.size ≤ 16; decide
    · exact Nat.le_of_ble_eq_true rfl
    · exact Nat.le_of_ble_eq_true rfl
    · show termS.size ≤ 16; decide
  have := h2 f hf
  unfold maxLen
  omega
theorem mast_p : TenP mastB 1 1 := ⟨by decide, by decide, by decide, by decide, by decide⟩
set_option maxRecDepth 100000 in
set_option maxHeartbeats 6400000 in
theorem tsmall_any {w : World} (hG : Glob w noBlock) : Calls Tryz.prog 11 #[] w fun e w' => e = .returned (.bool true) ∧ Fr noBlock w w' := by
  obtain ⟨S, tok, p1, p2, p3, p4, p5⟩ := small_plain (maskV mastB 1)
  have HP := Lib.hid (And.intro p1 (And.intro p2 (And.intro p3 (And.intro p4 p5))))
  clear p1 p2 p3 p4 p5
  have HM := Lib.hid (tmaster_any w)
  have HG := Lib.hid hG
  clear hG
  go_enter Tryz.func11, Tryz.ntmps11
  go_wp2_with fail
  refine HM.out.mono ?_
  rintro e w1 ⟨g, rfl, k1, k2, k3⟩
  have HN := Lib.hid (tnew_ok k1 16 (by decide) (by decide) (n := 1) (by decide) (by decide))
  unfold TNewP at HN
  have H1 := Lib.hid k2
  clear k1 k2 k3 HM
  go_wp2_with fail
  refine HN.out.mono ?_
  rintro e w2 ⟨A, H, rfl, t1, t2, t3⟩
  have O2 := Lib.hid (show OwnT w w2 A mastB 1 newT H from ⟨t1, H1.out.trans' t2, fun k hk => Nat.le_trans H1.out.size (t3 k hk)⟩)
  have HPu := Lib.hid (putroute_any t1 ⟨#[52]⟩ 7 (Nat.le_of_ble_eq_true rfl))
  rw [show Rt.putE newT.rs ⟨#[52]⟩ 7 = 0 from sm_put.1, show Rt.putR newT.rs ⟨#[52]⟩ 7 = [⟨⟨#[52]⟩, 7⟩] from sm_put.2] at HPu
  clear t1 t2 t3 HN H1
  go_wp2_with fail
  refine HPu.out.mono ?_
  rintro e w3 ⟨rfl, H3, t1, t2⟩
  have O3 := Lib.hid (O2.out.step t1 t2)
  have HSr := Lib.hid (setrule_any t1 smR)
  rw [if_pos sm_rule, if_pos sm_rule] at HSr
  unfold smR at HSr
  dsimp only at HSr
  clear t1 t2 HPu O2
  go_wp2_with fail
  refine HSr.out.mono ?_
  rintro e w4 ⟨rfl, H4, t1, t2⟩
  have O4 := Lib.hid (show OwnT w w4 A mastB 1 smS H4 from O3.out.step t1 t2)
  have HAs := Lib.hid (asks_any panS ⟨#[48, 48, 48, 48, 48, 48, 48, 48, 48, 48, 54, 48]⟩ ⟨#[48, 48, 48, 48, 48, 49]⟩ w4)
  unfold panS at HAs
  clear t1 t2 HSr O3
  go_wp2_with fail
  refine HAs.out.mono ?_
  rintro e w5 ⟨gq, rfl, k1, k2, k3⟩
  have O5 := Lib.hid (O4.out.on k2)
  have HHa := Lib.hid (O5.out.answer (handle_any O5.out.it (O5.out.glob HG.out) mast_p (sm_ok _) (t4 48 49 48 48) (O4.out.bes k2 (show RowRd FldR w5 (some ⟨gq, 0, none⟩) (smQ 48) from k1) k3) (sm_small 48) 4 3))
  rw [HP.out.1] at HHa
  unfold HandP okM ansM at HHa
  rw [sm_up] at HHa
  rw [show (smQ 48).length = 4 from rfl, show t4 48 49 48 48 = ⟨#[48, 49, 48, 48]⟩ from rfl] at HHa
  clear k1 k2 k3 HAs O4
  obtain ⟨l1, hl1⟩ : ∃ x, ansL (smQ 48) cOk [⟨32, strB (itoB 7)⟩, ⟨48, strB tok⟩] = x := ⟨_, rfl⟩
  have HL1 := Lib.hid (show valF 39 l1 = some ⟨#[48, 48]⟩ ∧ valF 32 l1 = some ⟨#[55]⟩ ∧ l1.length ≤ 1000 from by
    rw [← hl1]
    refine ⟨code_okM (t4 48 49 48 48) (smQ 48) tok 7, (okM_32 (t4 48 49 48 48) (smQ 48) tok 7).trans (by rw [ito7]), ?_⟩
    have := ansL_len (smQ 48) cOk [⟨32, strB (itoB 7)⟩, ⟨48, strB tok⟩]
    simp only [List.length_cons, List.length_nil] at this
    omega)
  rw [hl1] at HHa
  clear hl1
  go_wp2_with fail
  refine HHa.out.mono ?_
  rintro e w6 ⟨⟨xa, xn, xc⟩, H6, rfl, j1, j2, j3, j4, j5⟩
  dsimp only [SV.val] at j1 j2 j5 ⊢
  subst j1
  have J6 := Lib.hid (And.intro (OwnL.start j3) (hand_bes j2 j5))
  obtain ⟨g5, hg5⟩ : ∃ x, w6.heap.size = x := ⟨_, rfl⟩
  clear j2 j3 j4 j5 HHa O5
  go_upto_region 7 with fail
  refine wp_at (fun W => OwnL w W A mastB 1 S H6 [(g5, .cells #[.string ⟨#[48, 49, 49, 48]⟩, .slice xa l1.length xc] 25 (0, 0))] ∧ Bes FldR xa l1 W H6) ⟨hg5 ▸ J6.out.1.new _, J6.out.2.fr ((Fr.refl _ w6).alloc _)⟩ ?_
  clear J6 hg5
  rintro w7 ⟨j1, j2⟩
  have J7 := Lib.hid (And.intro j1 j2)
  have HAs := Lib.hid (asks_any panS ⟨#[48, 48, 48, 48, 48, 48, 48, 48, 48, 48, 54, 49]⟩ ⟨#[48, 48, 48, 48, 48, 49]⟩ w7)
  unfold panS at HAs
  clear j1 j2
  go_wp2_with fail
  refine HAs.out.mono ?_
  rintro e w8 ⟨gq2, rfl, k1, k2, k3⟩
  have J8 := Lib.hid (And.intro (J7.out.1.on k2) (J7.out.2.fr k2))
  have HHa := Lib.hid (J8.out.1.own.answer (handle_any J8.out.1.own.it (J8.out.1.own.glob HG.out) (HP.out.2.2.2.2 ▸ mast_p) HP.out.2.2.2.1 (t4 48 49 48 48) (J7.out.1.own.bes k2 (show RowRd FldR w8 (some ⟨gq2, 0, none⟩) (smQ 49) from k1) k3) (sm_small 49) 4 3))
  rw [HP.out.2.1] at HHa
  unfold HandP ansM at HHa
  rw [sm_up] at HHa
  rw [show (smQ 49).length = 4 from rfl, show t4 48 49 48 48 = ⟨#[48, 49, 48, 48]⟩ from rfl] at HHa
  clear k1 k2 k3 HAs J7
  obtain ⟨l2, hl2⟩ : ∃ x, ansL (smQ 49) cOther [] = x := ⟨_, rfl⟩
  have HL2 := Lib.hid (show valF 39 l2 = some ⟨#[57, 52]⟩ ∧ l2.length ≤ 1000 from by
    rw [← hl2]
    refine ⟨code_of (t4 48 49 48 48) (smQ 49) cOther, ?_⟩
    have := ansL_len (smQ 49) cOther []
    simp only [List.length_nil] at this
    omega)
  rw [hl2] at HHa
  clear hl2
  go_wp2_with fail
  refine HHa.out.mono ?_
  rintro e w9 ⟨⟨ya, yn, yc⟩, H9, rfl, j1, j2, j3, j4, j5⟩
  dsimp only [SV.val] at j1 j2 j5 ⊢
  subst j1
  have J9 := Lib.hid (And.intro (J8.out.1.step j3 j4) (And.intro (J8.out.2.step j4) (hand_bes j2 j5)))
  obtain ⟨g6, hg6⟩ : ∃ x, w9.heap.size = x := ⟨_, rfl⟩
  clear j2 j3 j4 j5 HHa J8
  go_upto_region 8 with fail
  refine wp_at (fun W => OwnL w W A mastB 1 S H9 [(g6, .cells #[.string ⟨#[48, 49, 49, 48]⟩, .slice ya l2.length yc] 25 (0, 0)), (g5, .cells #[.string ⟨#[48, 49, 49, 48]⟩, .slice xa l1.length xc] 25 (0, 0))] ∧ RowRd FldR W xa l1 ∧ RowRd FldR W ya l2) ⟨hg6 ▸ J9.out.1.new _, (J9.out.2.1.fr ((Fr.refl _ w9).alloc _)).rd, (J9.out.2.2.fr ((Fr.refl _ w9).alloc _)).rd⟩ ?_
  clear J9 hg6
  rintro wa ⟨j1, j2, j3⟩
  have JA := Lib.hid (And.intro j1 (And.intro j2 j3))
  have HV1 := Lib.hid (fun W (f : Fr noBlock wa W) n => rvalue_of ⟨#[48, 49, 49, 48]⟩ (JA.out.2.1.fr0 f) xc (by have := HL1.out.2.2; unfold maxLen; omega) n)
  have HV2 := Lib.hid (fun W (f : Fr noBlock wa W) n => rvalue_of ⟨#[48, 49, 49, 48]⟩ (JA.out.2.2.fr0 f) yc (by have := HL2.out.2; unfold maxLen; omega) n)
  unfold ValueP at HV1 HV2
  have HC5 := Lib.hid (show ∀ W, Fr noBlock wa W → W.cell? ⟨g5, 0, none⟩ = some (.string ⟨#[48, 49, 49, 48]⟩) ∧ W.cell? ⟨g5, 1, none⟩ = some (.slice xa l1.length xc) ∧ W.cell? ⟨g6, 0, none⟩ = some (.string ⟨#[48, 49, 49, 48]⟩) ∧ W.cell? ⟨g6, 1, none⟩ = some (.slice ya l2.length yc) from fun W f => by
    have b5 := f.obj (JA.out.1.at' in1) (fun z => z)
    have b6 := f.obj (JA.out.1.at' in0) (fun z => z)
    exact ⟨cell_of b5 0, cell_of b5 1, cell_of b6 0, cell_of b6 1⟩)
  clear j1 j2 j3
  obtain ⟨c0, c1, -, -⟩ := HC5.out _ (Fr.refl _ _)
  have v1 : valS 39 l1 = ⟨#[48, 48]⟩ := by unfold valS; rw [HL1.out.1]; rfl
  have v2 : valS 32 l1 = ⟨#[55]⟩ := by unfold valS; rw [HL1.out.2.1]; rfl
  have v3 : valS 39 l2 = ⟨#[57, 52]⟩ := by unfold valS; rw [HL2.out.1]; rfl
  have HV1a := Lib.hid (HV1.out _ (Fr.refl _ _) 39)
  rw [v1] at HV1a
  have HV2a := Lib.hid (fun W f => HV2.out W f 39)
  rw [v3] at HV2a
  have HV1b := Lib.hid (fun W f => HV1.out W f 32)
  rw [v2] at HV1b
  generalize l1.length = n1 at *
  generalize l2.length = n2 at *
  clear v1 v2 v3 HV1 HV2 HL1 HL2
  go_wp2_with fail
  refine HV1a.out.mono ?_
  rintro e wb ⟨rfl, fb⟩
  have HV2b := Lib.hid (HV2a.out _ fb)
  have FB := Lib.hid fb
  clear HV2a HV1a fb c0 c1
  obtain ⟨-, -, c2, c3⟩ := HC5.out _ FB.out
  go_wp2_with fail
  refine HV2b.out.mono ?_
  rintro e wc ⟨rfl, fc⟩
  have HV1c := Lib.hid (HV1b.out _ (FB.out.trans' fc))
  have FC := Lib.hid (FB.out.trans' fc)
  clear HV2b HV1b fc FB c2 c3
  obtain ⟨c0, c1, -, -⟩ := HC5.out _ FC.out
  go_wp2_with fail
  refine HV1c.out.mono ?_
  rintro e wd ⟨rfl, fd⟩
  have FD := Lib.hid (FC.out.trans' fd)
  clear HV1c fd FC c0 c1
  obtain ⟨c0, -⟩ := HC5.out _ FD.out
  have OD := Lib.hid (JA.out.1.own.on FD.out)
  have HTo := Lib.hid (show Calls Tryz.prog 17 #[.pointer (some ⟨A.tb, 0, none⟩)] wd (fun e w' => e = .returned (.int .i64 60) ∧ wd = w') from by
    have h := ttotal_any OD.out.it
    rw [HP.out.2.2.1] at h
    exact h)
  clear JA HC5 FD
  go_wp2_with fail
  refine HTo.out.mono ?_
  rintro e we ⟨rfl, rfl⟩
  go_wp2_with fail
  go_ret
  exact ⟨rfl, OD.out.fr⟩
end Go.Proofs.YtajhgejhdalobaaGreatDoor
namespace Go.Proofs.YtajhgejhdalobaaGreatDoor
open Go.RowKit

theorem TenP.of {K : Bs} {n : Nat} {M : MaskF} {S : TenS} (ho : TenantOk M S) (h64 : K.length ≤ 64) (h1 : 1 ≤ n) (h2 : n ≤ 64) : TenP K n S.v := ⟨h64, h1, h2, ho.v1, ho.v2⟩
def actsM (xs : List MAct) (k : Nat) : List TAct := (xs.take k).map MAct.plain
theorem actsM_snoc {xs : List MAct} {k : Nat} (hk : k < xs.length) (M : MaskF) (S : TenS) : actsT M S (actsM xs (k + 1)) = (onlyT M (actsT M S (actsM xs k)) xs[k].plain).1 := by
  unfold actsM actsT
  rw [List.take_succ_eq_append_getElem hk, List.map_append, List.foldl_append]
  rfl
theorem actsM_all {xs : List MAct} {k j : Nat} (h : xs.length ≤ k) (h2 : xs.length ≤ j) : actsM xs k = actsM xs j := by
  unfold actsM
  rw [List.take_of_length_le h, List.take_of_length_le h2]
theorem OwnL.only {w W : World} {A : TenW} {K : Bs} {n : Nat} {S : TenS} {H : Nat → Prop} {L : List (Nat × Obj)} (h : OwnL w W A K n S H L) (hG : Glob w noBlock) (h64 : K.length ≤ 64) (h1 : 1 ≤ n) (h2 : n ≤ 64) (ho : TenantOk (maskV K n) S) {pb : Nat} {o : Array Value} {T : TypeId} (hp : (pb, .cells o T (0, 0)) ∈ L) (h3 : o[2]? = some (.pointer (some ⟨A.tb, 0, none⟩))) {a : MAct} (ha : a.Ok w) :
    Calls Tryz.prog 18 #[.pointer (some ⟨pb, 0, none⟩), a.val] W (fun e w' => ∃ (sv : SV) (H' : Nat → Prop), e = .returned (.agg #[.string (onlyT (maskV K n) S a.plain).2.1, sv.val]) ∧ sv.n = (onlyT (maskV K n) S a.plain).2.2.length ∧ RowAt 31 FldR w' sv.val (onlyT (maskV K n) S a.plain).2.2 ∧ OwnL w w' A K n (onlyT (maskV K n) S a.plain).1 H' L ∧ Step H H' W w' ∧ ∀ k, sv.val.ownBlock = some k → W.heap.size ≤ k ∧ ¬ H' k) := by
  obtain ⟨q1, q2, q3⟩ := h.each _ hp
  have hc : W.cell? ⟨pb, 2, none⟩ = some (.pointer (some ⟨A.tb, 0, none⟩)) := by rw [cell_of q1]; exact h3
  have hq : Bes FldR a.ao a.q W H := h.own.old ha.m.rd
  refine (only_any h.own.it (h.own.glob hG) (TenP.of ho h64 h1 h2) ho hc q3 a hq ha.m.small (by have := ha.s; unfold maxLen; omega)).mono ?_
  rintro e w' ⟨sv, e1, a1, a2, H', t, s, a4⟩
  exact ⟨sv, H', e1, a1, a2, h.step (h.own.step t s) s, s, a4⟩
def MadeP (n : Int) (xs : List MAct) (w : World) (e : Ending) (w' : World) : Prop := ((n < 1 ∨ 64 < n) ∧ e = .returned (.pointer none) ∧ Fr noBlock w w') ∨ ∃ (m : Nat) (A : TenW) (H : Nat → Prop), n = (m : Int) ∧ 1 ≤ m ∧ m ≤ 64 ∧ e = .returned (.pointer (some ⟨A.tb, 0, none⟩)) ∧ OwnT w w' A mastB m (actsT (maskV mastB m) newT (actsM xs 40)) H
set_option maxRecDepth 100000 in
set_option maxHeartbeats 6400000 in
theorem made_any {w : World} (hG : Glob w noBlock) {ao : Option Addr} {xs : List MAct} (hx : RowRd MActR w ao xs) (hok : ∀ y ∈ xs, y.Ok w) (cap : Nat) (n : Int) : Calls Tryz.prog 12 #[.int .i64 n, .slice ao xs.length cap] w (MadeP n xs w) := by
  have HX := Lib.hid (And.intro hG (And.intro hx hok))
  have HM := Lib.hid (fun W => tmaster_any W)
  clear hG hx hok
  unfold MadeP
  by_cases hn : n < 1 ∨ 64 < n
  · go_enter Tryz.func12, Tryz.ntmps12
    go_wp2_with fail
    refine (HM.out _).mono ?_
    rintro e w1 ⟨g, rfl, k1, k2, k3⟩
    have HN := Lib.hid (tnew_bad k1 16 (by decide) (by decide) hn)
    have H1 := Lib.hid k2
    have Hn := Lib.hid hn
    clear k1 k2 k3 HM hn
    go_wp2_with fail
    refine HN.out.mono ?_
    rintro e w2 ⟨rfl, f2⟩
    have H2 := Lib.hid (H1.out.trans' f2)
    clear f2 HN H1
    go_wp2_with fail
    go_ret
    exact .inl ⟨Hn.out, rfl, H2.out⟩
  · obtain ⟨m, rfl⟩ : ∃ m : Nat, n = (m : Int) := ⟨n.toNat, by omega⟩
    have hm1 : 1 ≤ m := by omega
    have hm2 : m ≤ 64 := by omega
    clear hn
    go_enter Tryz.func12, Tryz.ntmps12
    go_wp2_with fail
    refine (HM.out _).mono ?_
    rintro e w1 ⟨g, rfl, k1, k2, k3⟩
    have HN := Lib.hid (tnew_ok k1 16 (by decide) (by decide) hm1 hm2)
    unfold TNewP at HN
    have H1 := Lib.hid k2
    clear k1 k2 k3
    go_wp2_with fail
    refine HN.out.mono ?_
    rintro e w2 ⟨A, H, rfl, t1, t2, t3⟩
    have O2 := Lib.hid (show OwnT w w2 A mastB m newT H from ⟨t1, H1.out.trans' t2, fun k hk => Nat.le_trans H1.out.size (t3 k hk)⟩)
    clear t1 t2 t3 HN H1
    go_wp2_with fail
    refine (HM.out _).mono ?_
    rintro e w3 ⟨g3, rfl, k1, k2, k3⟩
    have O3 := Lib.hid (OwnL.start (O2.out.on k2))
    obtain ⟨pb, hpb⟩ : ∃ x, w3.heap.size = x := ⟨_, rfl⟩
    clear k1 k2 k3 O2 HM
    go_upto_region 5 with fail
    refine wp_at (fun W => OwnL w W A mastB m newT H [(pb, .cells #[.slice (some ⟨g3, 0, none⟩) 16 16, .int .i64 (m : Int), .pointer (some ⟨A.tb, 0, none⟩), .pointer none, .slice none 0 0] 43 (0, 0))]) (hpb ▸ O3.out.new _) ?_
    rintro w4 k4
    have H4 := Lib.hid k4
    clear k4 O3 hpb
    go_wp2_with fail
    go_loopw [8] (fun s8 W => ∃ (k : Nat) (H : Nat → Prop), k ≤ xs.length ∧ k ≤ 40 ∧ s8 = .int .i64 k ∧ Hid (OwnL w W A mastB m (actsT (maskV mastB m) newT (actsM xs k)) H [(pb, .cells #[.slice (some ⟨g3, 0, none⟩) 16 16, .int .i64 (m : Int), .pointer (some ⟨A.tb, 0, none⟩), .pointer none, .slice none 0 0] 43 (0, 0))])) (fun s8 _ => 40 - (intOf s8).toNat)
    case atStart => exact ⟨0, H, Nat.zero_le _, Nat.zero_le _, rfl, Lib.hid H4.out⟩
    case round =>
      clear H4
      obtain ⟨k, H4, hk, hk40, rfl, HI⟩ := hrel
      by_cases hlt : k < xs.length ∧ k < 40
      · obtain ⟨hlt, hlt2⟩ := hlt
        have q1 : (k : Int) < (xs.length : Int) := by omega
        have q2 : (k : Int) < 40 := by omega
        have q0 : (0 : Int) ≤ (k : Int) := by omega
        obtain ⟨b, off, rfl, hbw, y0, y1, y2, y3, y4, y5, y6, y7, y8, y9⟩ := mact_cells HX.out.2.1 hlt
        have HF := Lib.hid HI.out.own.fr
        have z0 := (HF.out.cell (p := ⟨b, _, none⟩) hbw (fun z => z)).trans y0
        have z1 := (HF.out.cell (p := ⟨b, _, none⟩) hbw (fun z => z)).trans y1
        have z2 := (HF.out.cell (p := ⟨b, _, none⟩) hbw (fun z => z)).trans y2
        have z3 := (HF.out.cell (p := ⟨b, _, none⟩) hbw (fun z => z)).trans y3
        have z4 := (HF.out.cell (p := ⟨b, _, none⟩) hbw (fun z => z)).trans y4
        have z5 := (HF.out.cell (p := ⟨b, _, none⟩) hbw (fun z => z)).trans y5
        have z6 := (HF.out.cell (p := ⟨b, _, none⟩) hbw (fun z => z)).trans y6
        have z7 := (HF.out.cell (p := ⟨b, _, none⟩) hbw (fun z => z)).trans y7
        have z8 := (HF.out.cell (p := ⟨b, _, none⟩) hbw (fun z => z)).trans y8
        have z9 := (HF.out.cell (p := ⟨b, _, none⟩) hbw (fun z => z)).trans y9
        have HOn := Lib.hid (HI.out.only HX.out.1 (by decide) hm1 hm2 (ok_acts _ (ok_new _)) in0 rfl (HX.out.2.2 _ (List.getElem_mem hlt)))
        have HSn := Lib.hid (actsM_snoc hlt (maskV mastB m) newT)
        generalize xs[k] = a at *
        obtain ⟨d, an, now, t, fo, fc, q, ⟨rt, rm, rs, ro⟩, s⟩ := a
        unfold MAct.val at HOn
        dsimp only at HOn z0 z1 z2 z3 z4 z5 z6 z7 z8 z9
        rw [← HSn.out] at HOn
        clear y0 y1 y2 y3 y4 y5 y6 y7 y8 y9 hbw HF
        go_wp2_with fail
        refine HOn.out.mono ?_
        rintro e w6 ⟨⟨xa, xn, xc⟩, H6, rfl, -, -, j3, -, -⟩
        have HJ := Lib.hid j3
        clear j3 HOn HI z0 z1 z2 z3 z4 z5 z6 z7 z8 z9
        go_wp2_with fail
        go_roundw
        case rel => exact ⟨k + 1, H6, hlt, by omega, by go_num, HJ⟩
        case measure => simp [intOf]; omega
      · have HE := Lib.hid (show actsM xs k = actsM xs 40 from by
          by_cases h : k < xs.length
          · rw [show k = 40 by omega]
          · exact actsM_all (by omega) (by omega))
        have hcs : (xs.length : Int) ≤ (k : Int) ∨ ((k : Int) < (xs.length : Int) ∧ (40 : Int) ≤ (k : Int)) := by omega
        clear hlt
        rcases hcs with q | ⟨q, q'⟩
        all_goals
          go_wp2_with fail
          go_ret
          exact .inr ⟨m, A, H4, rfl, hm1, hm2, rfl, HE.out ▸ HI.out.own⟩
end Go.Proofs.YtajhgejhdalobaaGreatDoor
namespace Go.Proofs.YtajhgejhdalobaaGreatDoor
open Go.RowKit

theorem mmsg_cells {w : World} {ao : Option Addr} {xs : List MMsg} (h : RowRd MMsgR w ao xs) {i : Nat} (hi : i < xs.length) :
    ∃ b off, ao = some ⟨b, off, none⟩ ∧ b < w.heap.size ∧ w.cell? ⟨b, off + i * 2, none⟩ = some (.string xs[i].t) ∧ w.cell? ⟨b, off + i * 2 + 1, none⟩ = some (.slice xs[i].ao xs[i].q.length xs[i].cap) := by
  obtain ⟨b, off, h1, h2, h3⟩ := h.at' i hi
  exact ⟨b, off, h1, h2, h3 0 _ rfl, h3 1 _ rfl⟩
theorem han_len {M : MaskF} {S : TenS} {t : ByteArray} {q : List Fld} {now : Int} {r : TenS × Msg} (h : HanR M S t q now r) : r.2.2.length ≤ 10 := by
  have h0 : ∀ c, (ansM t q c []).2.length ≤ 10 := fun c => Nat.le_trans (ansL_len q c []) (by decide)
  have h1 : ∀ tok a, (okM t q tok a).2.length ≤ 10 := fun tok a => Nat.le_trans (ansL_len q cOk _) (by simp)
  cases h with
  | ref c hc => show (1:Nat) ≤ 10; decide
  | ask _ hr h0' h1' ht h =>
    cases h with
    | no c hc h0' => exact h0 c
    | again p tok a b hl hp h1' h2 h3 h4 => exact h1 _ _
    | new us a tok hl hp h1' h2 h3 h4 h5 hu => exact h1 _ _
  | back _ hr ht h =>
    cases h with
    | same c hc h0' => exact h0 c
    | rev us he hu => exact h0 _
  | net c hc hr ht => exact h0 c
theorem OwnL.handle {w W : World} {A : TenW} {K : Bs} {n : Nat} {S : TenS} {H : Nat → Prop} {L : List (Nat × Obj)} (h : OwnL w W A K n S H L) (hG : Glob w noBlock) (h64 : K.length ≤ 64) (h1 : 1 ≤ n) (h2 : n ≤ 64) (ho : TenantOk (maskV K n) S) {t : ByteArray} {ao : Option Addr} {q : List Fld} {cap : Nat} (hm : ArgM w t ao cap q) (now : Int) :
    Calls Tryz.prog 13 #[.pointer (some ⟨A.tb, 0, none⟩), msgV t ao q.length cap, .int .i64 now] W (fun e w' => ∃ (sv : SV) (H' : Nat → Prop), e = .returned (.agg #[.string (handleT (maskV K n) S t q now).2.1, sv.val]) ∧ sv.n = (handleT (maskV K n) S t q now).2.2.length ∧ RowAt 31 FldR w' sv.val (handleT (maskV K n) S t q now).2.2 ∧ OwnL w w' A K n (handleT (maskV K n) S t q now).1 H' L ∧ Step H H' W w' ∧ ∀ k, sv.val.ownBlock = some k → W.heap.size ≤ k ∧ ¬ H' k) := by
  refine (handle_any h.own.it (h.own.glob hG) (TenP.of ho h64 h1 h2) ho t (h.own.old hm.rd) hm.small cap now).mono ?_
  rintro e w' ⟨sv, e1, a1, a2, H', t, s, a4⟩
  exact ⟨sv, H', e1, a1, a2, h.step (h.own.step t s) s, s, a4⟩
theorem lit_ne2 {t : ByteArray} (h : ¬ t = cOk) : (t.toList == [48, 48]) = false := by
  rw [beq_eq_false_iff_ne]
  intro e
  apply h
  rw [ByteArray.toList_eq] at e
  cases t with
  | mk dd =>
    have e2 : dd.toList = [48, 48] := e
    have : dd = #[48, 48] := Array.toList_inj.1 e2
    rw [this]
    rfl
set_option maxRecDepth 100000 in
set_option maxHeartbeats 6400000 in
theorem routes_walk {w : World} (hG : Glob w noBlock) {ao : Option Addr} {xs : List MMsg} (hx : RowRd MMsgR w ao xs) (hok : ∀ y ∈ xs, y.Ok w) (cap : Nat) (n now : Int) :
    Calls Tryz.prog 6 #[.int .i64 n, .slice ao xs.length cap, .int .i64 now] w fun e w' => e = .returned (.bool true) ∧ Below w.heap.size w w' := by
  have HX := Lib.hid (And.intro hG (And.intro hx hok))
  have HM := Lib.hid (fun W => tmaster_any W)
  have HSm := Lib.hid (tsmall_any hG)
  clear hG hx hok
  go_enter Tryz.func6, Tryz.ntmps6
  go_wp2_with fail
  refine HSm.out.mono ?_
  rintro e w1 ⟨rfl, f1⟩
  have H1 := Lib.hid f1
  clear f1 HSm
  go_wp2_with fail
  refine (HM.out _).mono ?_
  rintro e w2 ⟨g, rfl, k1, k2, k3⟩
  have H2 := Lib.hid (And.intro k1 (H1.out.trans' k2))
  clear k1 k2 k3 HM H1
  by_cases hn : n < 1 ∨ 64 < n
  · have HN := Lib.hid (tnew_bad H2.out.1 16 (by decide) (by decide) hn)
    clear hn
    go_wp2_with fail
    refine HN.out.mono ?_
    rintro e w3 ⟨rfl, f3⟩
    have H3 := Lib.hid (H2.out.2.trans' f3)
    clear f3 HN H2
    go_wp2_with fail
    go_ret
    exact ⟨rfl, H3.out.below (Nat.le_refl _) (fun _ h => h.elim)⟩
  obtain ⟨m, rfl⟩ : ∃ m : Nat, n = (m : Int) := ⟨n.toNat, by omega⟩
  have hm1 : 1 ≤ m := by omega
  have hm2 : m ≤ 64 := by omega
  clear hn
  have HN := Lib.hid (tnew_ok H2.out.1 16 (by decide) (by decide) hm1 hm2)
  unfold TNewP at HN
  go_wp2_with fail
  refine HN.out.mono ?_
  rintro e w3 ⟨A, H, rfl, t1, t2, t3⟩
  have O3 := Lib.hid (OwnL.start (show OwnT w w3 A mastB m newT H from ⟨t1, H2.out.2.trans' t2, fun k hk => Nat.le_trans H2.out.2.size (t3 k hk)⟩))
  clear t1 t2 t3 HN H2
  obtain ⟨sb, hsb⟩ : ∃ x, stateB newT = x := ⟨_, rfl⟩
  have HB := Lib.hid hsb
  clear hsb
  have HS := Lib.hid (show ∀ W H, OwnL w W A mastB m newT H [] → Calls Tryz.prog 26 #[.pointer (some ⟨A.tb, 0, none⟩)] W (StateP sb W) from fun W H o => HB.out ▸ state_any o.own.it (ok_new (maskV mastB m)))
  unfold StateP at HS
  go_wp2_with fail
  refine (HS.out _ _ O3.out).mono ?_
  rintro e w4 ⟨⟨sa, sn, sc⟩, rfl, l4, r4, f4, n4⟩
  dsimp only at l4
  subst l4
  have hcv := conv_rd r4.rd sc
  have O4 := Lib.hid (O3.out.on f4)
  clear r4 f4 n4 O3
  dsimp only [SV.val] at *
  go_wp2_with fail
  go_loopw [11] (fun s11 W => ∃ (k : Nat) (H : Nat → Prop), k ≤ xs.length ∧ k ≤ 20 ∧ s11 = .int .i64 k ∧ Hid (OwnL w W A mastB m newT H [])) (fun s11 _ => 20 - (intOf s11).toNat)
  case atStart => exact ⟨0, H, Nat.zero_le _, Nat.zero_le _, rfl, O4⟩
  case round =>
    clear O4 hcv
    obtain ⟨k, H4, hk, hk50, rfl, HI⟩ := hrel
    by_cases hlt : k < xs.length ∧ k < 20
    · obtain ⟨hlt, hlt2⟩ := hlt
      have q1 : (k : Int) < (xs.length : Int) := by omega
      have q2 : (k : Int) < 20 := by omega
      have q0 : (0 : Int) ≤ (k : Int) := by omega
      obtain ⟨b, off, rfl, hbw, y0, y1⟩ := mmsg_cells HX.out.2.1 hlt
      have z0 := (HI.out.own.fr.cell (p := ⟨b, _, none⟩) hbw (fun z => z)).trans y0
      have z1 := (HI.out.own.fr.cell (p := ⟨b, _, none⟩) hbw (fun z => z)).trans y1
      have HD := Lib.hid (And.intro hbw y0)
      have HHa := Lib.hid (HI.out.handle HX.out.1 (by decide) hm1 hm2 (ok_new _) (HX.out.2.2 _ (List.getElem_mem hlt)) now)
      have HE := Lib.hid (handle_empty (M := maskV mastB m) (S := newT) rfl rfl (han_cases (maskV mastB m) newT xs[k].t xs[k].q now))
      have HLn := Lib.hid (han_len (han_cases (maskV mastB m) newT xs[k].t xs[k].q now))
      unfold msgV at HHa
      clear y0 y1 hbw
      generalize xs[k] = a at *
      obtain ⟨t, mo, mc, q⟩ := a
      dsimp only at HHa HE HLn HD z0 z1
      obtain ⟨⟨S5, T, l⟩, hr⟩ : ∃ r, handleT (maskV mastB m) newT t q now = r := ⟨_, rfl⟩
      rw [hr] at HHa HE HLn
      dsimp only at HHa HE HLn
      clear hr
      go_wp2_with fail
      refine HHa.out.mono ?_
      rintro e w6 ⟨⟨xa, xn, xc⟩, H6, rfl, j1, j2, j3, j4, j5⟩
      dsimp only at j1
      subst j1
      obtain ⟨gx, hgx⟩ : ∃ x, w6.heap.size = x := ⟨_, rfl⟩
      have HJ := Lib.hid (And.intro (HE.out.1 ▸ j3) j2)
      clear j2 j3 j4 j5 HHa HI z0 z1
      dsimp only [SV.val]
      go_upto_region 10 with fail
      refine wp_at (fun W => OwnL w W A mastB m newT H6 [(gx, .cells #[.string T, .slice xa l.length xc] 25 (0, 0))] ∧ RowRd FldR W xa l) ⟨hgx ▸ HJ.out.1.new _, (RowAt.rd HJ.out.2).fr0 ((Fr.refl _ w6).alloc _)⟩ ?_
      clear HJ hgx
      rintro w7 ⟨k7, r7⟩
      have H7 := Lib.hid (k7.sub (L' := []) (fun p hp => by cases hp))
      have b7 := k7.at' in0
      have c0 := cell_of b7 0
      have c1 := cell_of b7 1
      have HV := Lib.hid (rvalue_of T r7 xc (Nat.le_trans HLn.out (by unfold maxLen; omega)) 39)
      unfold ValueP at HV
      clear k7 r7 b7
      go_wp2_with fail
      refine HV.out.mono ?_
      rintro e w8 ⟨rfl, f8⟩
      have H8 := Lib.hid (H7.out.on f8)
      clear f8 HV H7 c0 c1
      have z0 := (H8.out.own.fr.cell (p := ⟨b, _, none⟩) HD.out.1 (fun z => z)).trans HD.out.2
      have HS8 := Lib.hid (HS.out _ _ H8.out)
      obtain ⟨vc, hvc⟩ : ∃ x, valS 39 l = x := ⟨_, rfl⟩
      rw [hvc] at HE ⊢
      clear hvc
      go_wp2_with fail
      refine HS8.out.mono ?_
      rintro e w9 ⟨⟨ta, tn, tc⟩, rfl, l9, r9, f9, n9⟩
      dsimp only at l9
      subst l9
      have hcv := conv_rd r9.rd tc
      have H9 := Lib.hid (H8.out.on f9)
      replace z0 := (f9.cell (p := ⟨b, _, none⟩) (Nat.lt_of_lt_of_le HD.out.1 H8.out.own.fr.size) (fun z => z)).trans z0
      clear r9 f9 n9 H8 HS8
      dsimp only [SV.val] at *
      by_cases hc : vc = cOk
      · have ht := HE.out.2 hc
        subst ht
        have hc2 : vc = ⟨#[48, 48]⟩ := hc
        clear hc
        subst hc2
        unfold t4 at *
        clear HE HLn
        go_wp2_with fail
        go_roundw
        case rel => exact ⟨k + 1, H6, hlt, by omega, by go_num, H9⟩
        case measure => simp [intOf]; omega
      · have hn2 := lit_ne2 hc
        clear HE HLn hc
        go_wp2_with fail
        go_roundw
        case rel => exact ⟨k + 1, H6, hlt, by omega, by go_num, H9⟩
        case measure => simp [intOf]; omega
    · have hcs : (xs.length : Int) ≤ (k : Int) ∨ ((k : Int) < (xs.length : Int) ∧ (20 : Int) ≤ (k : Int)) := by omega
      have HT2 := Lib.hid (ttotal_any HI.out.own.it)
      have HPo := Lib.hid (tposts_any HI.out.own.it)
      clear hlt
      rcases hcs with q | ⟨q, q'⟩
      all_goals
        go_wp2_with fail
        refine HT2.out.mono ?_
        rintro e w5 ⟨rfl, rfl⟩
        clear HT2
        go_wp2_with fail
        refine HPo.out.mono ?_
        rintro e w6 ⟨v, rfl, r6, f6, n6⟩
        obtain ⟨vo, vc, rfl⟩ := Lg.PostsAt.shape r6
        have H6 := Lib.hid (HI.out.own.fr.trans' f6)
        clear HPo HI
        go_wp2_with fail
        go_ret
        exact ⟨rfl, H6.out.below (Nat.le_refl _) (fun _ h => h.elim)⟩
end Go.Proofs.YtajhgejhdalobaaGreatDoor
