/-
  A TENANT: THE WALK of ask.
-/
import Derived.BigQuiet
import Derived.Test.YtajhgejhdalobaaGreatDoorLgPosts
import Derived.Test.YtajhgejhdalobaaGreatDoorTnD
namespace Go.Proofs.YtajhgejhdalobaaGreatDoor
open Go.RowKit

theorem said_set {w1 : World} {g : Nat} {x y z : Value} {T : TypeId} (hb : w1.heap[g]? = some (.cells #[x, y, z] T (0, 0))) (a b c : Value) : (((w1.setCell ⟨g, 0, none⟩ a).setCell ⟨g, 1, none⟩ b).setCell ⟨g, 2, none⟩ c).heap[g]? = some (.cells #[a, b, c] T (0, 0)) := by
  have h1 := heap_set_eq (i := 0) (u := a) hb
  have h2 := heap_set_eq (i := 1) (u := b) h1
  have h3 := heap_set_eq (i := 2) (u := c) h2
  rw [h3]
  rfl
set_option maxRecDepth 100000 in
set_option maxHeartbeats 3200000 in
theorem read_ok {A : TenW} {K : Bs} {n : Nat} {S : TenS} {w : World} {H : Nat → Prop} (h : TenA A K n S w H) (hG : Glob w H) (hp : TenP K n S.v) {tok l : Bs} {a b : Nat} (hb : backB (maskV K n) S.v tok = (l, 0)) (h1 : 1 ≤ a) (h2 : a ≤ 99) (h3 : b ≤ 1099511627776) {s : ByteArray} (hs : s = strB (saidB tok a b)) :
    Calls Tryz.prog 116 #[.pointer (some ⟨A.tb, 0, none⟩), .string s] w fun e w' => e = .returned (.tuple #[.agg #[.string (strB tok), .int .i64 (a : Int), .int .i64 (b : Int)], .bool true]) ∧ ∃ H', TenA A K n S w' H' ∧ Step H H' w w' := by
  have hsz : s.size ≤ 60 := by rw [hs, strB_size]; exact said_len hb h2 h3
  have hts : tok.length ≤ 60 := by
    have := said_len hb h2 h3
    rw [saidB_add] at this
    simp at this
    omega
  have HSp := Lib.hid (show ∀ W, Fr noBlock w W → Calls Tryz.prog 177 #[.string s, .string ⟨#[32]⟩] W fun e w' => e = .returned (.slice (some ⟨W.heap.size, 0, none⟩) 4 4) ∧ w' = W.alloc (.cells #[.string ⟨#[48, 48]⟩, .string (strB tok), .string (strB (itoB a)), .string (strB (itoB b))] 9) from fun W hW => by
    have hc := split_glob (hG.fr hW) s (by omega)
    rw [hs, bl_strB, said_split (tok_space hb)] at hc
    rw [hs]
    exact hc)
  have HNa := Lib.hid (show ∀ W, Calls Tryz.prog 63 #[.string (strB (itoB a))] W fun e w' => e = .returned (.tuple #[.int .i64 (a : Int), .int .i64 0]) ∧ W = w' from fun W => by
    have hc := number_all (strB (itoB a)) W (by rw [strB_size]; have := (ito_len (n := a) (k := 3) (by decide) (by omega)).2; unfold maxLen; omega)
    rw [bl_strB, ito_numR (by omega)] at hc
    exact hc)
  have HNb := Lib.hid (show ∀ W, Calls Tryz.prog 63 #[.string (strB (itoB b))] W fun e w' => e = .returned (.tuple #[.int .i64 (b : Int), .int .i64 0]) ∧ W = w' from fun W => by
    have hc := number_all (strB (itoB b)) W (by rw [strB_size]; have := (ito_len (n := b) (k := 14) (by decide) (by omega)).2; unfold maxLen; omega)
    rw [bl_strB, ito_numR (by omega)] at hc
    exact hc)
  have HB := Lib.hid (show ∀ W, Fr noBlock w W → Calls Tryz.prog 84 #[.pointer (some ⟨A.va, 0, none⟩), .string (strB tok)] W fun e w' => e = .returned (.tuple #[.string (strB l), .int .i64 0]) ∧ ∃ H', TenA A K n S w' H' ∧ Step H H' W w' from fun W hW => by
    obtain ⟨G, g1, g2, g3⟩ := (TenA.ok.fr0 h hW).vault
    have hc := vback_any g1 ((hG.fr hW).sub g2) hp.k64 hp.n1 hp.n64 hp.v99 (strB tok) (by rw [strB_size]; omega)
    unfold VTokP at hc
    rw [bl_strB, hb] at hc
    refine hc.mono ?_
    rintro e w' ⟨rfl, F', k1, k2⟩
    obtain ⟨H', t1, t2⟩ := g3 _ _ _ k1 k2
    exact ⟨rfl, H', t1, t2⟩)
  have HT := Lib.hid (show ∀ (W : World) (F : Nat → Prop), Glob W F → Calls Tryz.prog 113 #[.agg #[.string (strB tok), .int .i64 (a : Int), .int .i64 (b : Int)]] W fun e w' => e = .returned (.string s) ∧ Fr noBlock W w' from fun W F hg => by
    have hc := text_any hg (strB tok) a b (by rw [strB_size]; omega) (by omega) (by omega)
    rw [bl_strB, ← hs] at hc
    exact hc)
  have HX := Lib.hid (And.intro h hG)
  obtain ⟨x0, -⟩ := h.cells
  have q1 : (1 : Int) ≤ (a : Int) := by omega
  have q2 : (a : Int) ≤ 99 := by omega
  have q3 : (b : Int) ≤ 1099511627776 := by omega
  have HC0 := Lib.hid x0
  clear h hG hp hb h1 h2 h3 hs hsz hts x0
  obtain ⟨T, hT⟩ : ∃ T, strB tok = T := ⟨_, rfl⟩
  obtain ⟨sa, hsa⟩ : ∃ T, strB (itoB a) = T := ⟨_, rfl⟩
  obtain ⟨sb, hsb⟩ : ∃ T, strB (itoB b) = T := ⟨_, rfl⟩
  obtain ⟨L, hL⟩ : ∃ T, strB l = T := ⟨_, rfl⟩
  rw [hT, hsa, hsb] at HSp
  rw [hsa] at HNa
  rw [hsb] at HNb
  rw [hT, hL] at HB
  rw [hT] at HT ⊢
  clear hT hsa hsb hL
  go_enter Tryz.func116, Tryz.ntmps116
  go_upto_region 1 with fail
  refine wp_at (fun W => W.heap[w.heap.size]? = some (.cells #[.string ⟨#[]⟩, .int .i64 0, .int .i64 0] 175 (0, 0)) ∧ Fr noBlock w W) ⟨heap_new w _, (Fr.refl _ w).alloc _⟩ ?_
  obtain ⟨g, hg⟩ : ∃ g, w.heap.size = g := ⟨_, rfl⟩
  have Hg := Lib.hid hg
  rw [hg]
  rintro w1 ⟨b1, f1⟩
  have H1 := Lib.hid (And.intro b1 f1)
  have HLt := Lib.hid (show ∀ k, H k → k < g from fun k hk => hg ▸ TenA.ok.lt HX.out.1 k hk)
  clear b1 f1 hg
  go_wp2_with fail
  refine (HSp.out _ H1.out.2).mono ?_
  rintro e w2 ⟨rfl, e2⟩
  obtain ⟨gl, hgl⟩ : ∃ g, w1.heap.size = g := ⟨_, rfl⟩
  have H2 := Lib.hid (show w2.heap[gl]? = some (.cells #[.string ⟨#[48, 48]⟩, .string T, .string sa, .string sb] 9 (0, 0)) ∧ w2.heap[g]? = some (.cells #[.string ⟨#[]⟩, .int .i64 0, .int .i64 0] 175 (0, 0)) ∧ Fr noBlock w w2 from by
    rw [e2, ← hgl]
    exact ⟨heap_new w1 _, heap_old _ H1.out.1, H1.out.2.alloc _⟩)
  have HNg := Lib.hid (show ¬ H g ∧ ¬ H gl from ⟨fun hk => by have := HLt.out _ hk; omega, fun hk => by have := HLt.out _ hk; have := heap_lt H1.out.1; omega⟩)
  rw [hgl]
  clear e2 hgl
  have c0 := cell_of H2.out.1 0
  have c1 := cell_of H2.out.1 1
  have c2 := cell_of H2.out.1 2
  have c3 := cell_of H2.out.1 3
  simp at c0 c1 c2 c3
  have x0 := (TenA.ok.fr0 HX.out.1 H2.out.2.2).cells.1
  go_wp2_with fail
  refine (HNa.out _).mono ?_
  rintro e w3 ⟨rfl, rfl⟩
  go_wp2_with fail
  refine (HNb.out _).mono ?_
  rintro e w3 ⟨rfl, rfl⟩
  go_upto_region 6 with fail
  have HKc := Lib.hid (show ∀ W, Fr noBlock w2 W → W.cell? ⟨A.tb, 0, none⟩ = some (.pointer (some ⟨A.va, 0, none⟩)) ∧ W.cell? ⟨gl, 1, none⟩ = some (.string T) from fun W hW => ⟨(TenA.ok.fr0 HX.out.1 (H2.out.2.2.trans' hW)).cells.1, cell_of (hW.obj H2.out.1 (fun z => z)) 1⟩)
  have HKb := Lib.hid (show ∀ W H', TenA A K n S W H' ∧ Step H H' w2.drew W → W.cell? ⟨A.tb, 0, none⟩ = some (.pointer (some ⟨A.va, 0, none⟩)) ∧ W.cell? ⟨gl, 1, none⟩ = some (.string T) ∧ W.heap[g]? = some (.cells #[.string ⟨#[]⟩, .int .i64 0, .int .i64 0] 175 (0, 0)) from fun W H' ⟨k1, k2⟩ => ⟨k1.cells.1, cell_of (k2.fr.obj (a := w2.drew) H2.out.1 HNg.out.2) 1, k2.fr.obj (a := w2.drew) H2.out.2.1 HNg.out.1⟩)
  go_region_held3 (fun W => W.cell? ⟨A.tb, 0, none⟩ = some (.pointer (some ⟨A.va, 0, none⟩)) ∧ W.cell? ⟨gl, 1, none⟩ = some (.string T))
    (first | exact HKc.out _ ((Fr.refl noBlock w2).drew) | exact HKc.out _ (Fr.refl noBlock w2) | exact ⟨HK3.out.1, HK3.out.2.1⟩ | fail "nokeep")
    (first
      | (go_at_call 84; (with_reducible refine (HB.out _ ?_).mono ?_); (exact H2.out.2.2.drew); rintro e w3 ⟨rfl, k1⟩; have H3 := Lib.hid k1; have HK3 := Lib.hid (HKb.out _ _ H3.out.choose_spec); clear k1)
      | fail "noarm")
  all_goals
    have H4 := Lib.hid (show w3.heap[g]? = some (.cells #[.string ⟨#[]⟩, .int .i64 0, .int .i64 0] 175 (0, 0)) ∧ w3.cell? ⟨gl, 1, none⟩ = some (.string T) ∧ Fr noBlock w w2 ∧ ∃ H', TenA A K n S w3 H' ∧ Step H H' w w3 ∧ Glob w3 H' ∧ ¬ H' g from by
      obtain ⟨H', t1, t2⟩ := H3.out
      have t3 := (Step.same H2.out.2.2.drew).trans t2
      exact ⟨HK3.out.2.2, HK3.out.2.1, H2.out.2.2, H', t1, t3, HX.out.2.step t3, fun hk => (t2.foot _ hk).elim HNg.out.1 (fun hle => by have := heap_lt H2.out.2.1; have hle' : w2.heap.size ≤ g := hle; omega)⟩)
    obtain ⟨gs, hgs⟩ : ∃ g, w3.heap.size = g := ⟨_, rfl⟩
    clear HK3 H3
    go_upto_region 9 with fail
    refine wp_at (fun W => W.heap[g]? = some (.cells #[.string ⟨#[]⟩, .int .i64 0, .int .i64 0] 175 (0, 0)) ∧ W.heap[gs]? = some (.cells #[.string T, .int .i64 (a : Int), .int .i64 (b : Int)] 175 (0, 0)) ∧ ∃ H', TenA A K n S W H' ∧ Step H H' w W ∧ Glob W H' ∧ ¬ H' g) ?_ ?_
    · obtain ⟨y1, y2, y3, H', y4, y5, y6, y7⟩ := H4.out
      refine ⟨heap_old _ y1, by rw [← hgs]; exact heap_new w3 _, H', TenA.ok.fr0 y4 ((Fr.refl noBlock w3).alloc _), y5.trans (Step.same ((Fr.refl noBlock w3).alloc _)), y6.fr ((Fr.refl noBlock w3).alloc _), y7⟩
    have hne : g ≠ gs := by have := heap_lt H4.out.1; omega
    clear H4 hgs
    rintro w5 ⟨b1, b2, k5⟩
    have H5 := Lib.hid k5
    have HB5 := Lib.hid (And.intro b1 b2)
    have HT5 := Lib.hid (show ∀ W, Fr noBlock w5 W → _ from fun W hW => HT.out W _ (H5.out.choose_spec.2.2.1.fr hW))
    have HK5 := Lib.hid (show ∀ W, Fr (fun k => k = g) w5 W → W.cell? ⟨gs, 0, none⟩ = some (.string T) ∧ W.cell? ⟨gs, 1, none⟩ = some (.int .i64 (a : Int)) ∧ W.cell? ⟨gs, 2, none⟩ = some (.int .i64 (b : Int)) from fun W hW => by
      have h := hW.obj b2 (fun e => hne e.symm)
      exact ⟨cell_of h 0, cell_of h 1, cell_of h 2⟩)
    have HF5 := Lib.hid (show ∀ W, Fr noBlock w5 W → W.frozen? ⟨g, 0, none⟩ = false ∧ W.frozen? ⟨g, 1, none⟩ = false ∧ W.frozen? ⟨g, 2, none⟩ = false ∧ W.cell? ⟨g, 0, none⟩ = some (.string ⟨#[]⟩) ∧ W.cell? ⟨g, 1, none⟩ = some (.int .i64 0) ∧ W.cell? ⟨g, 2, none⟩ = some (.int .i64 0) from fun W hW => by
      have h := hW.obj b1 (fun z => z)
      exact ⟨free_of h 0, free_of h 1, free_of h 2, cell_of h 0, cell_of h 1, cell_of h 2⟩)
    obtain ⟨c4, c5, c6⟩ := HK5.out w5 (Fr.refl _ _)
    obtain ⟨m0, m1, m2, m3, m4, m5⟩ := HF5.out w5 (Fr.refl _ _)
    clear b1 b2 k5 c0 c1 c2 c3 x0
    go_region_held3 (fun W => W.cell? ⟨gs, 0, none⟩ = some (.string T) ∧ W.cell? ⟨gs, 1, none⟩ = some (.int .i64 (a : Int)) ∧ W.cell? ⟨gs, 2, none⟩ = some (.int .i64 (b : Int)))
      (first | exact HK5.out _ (by repeat (first | (with_reducible exact Fr.refl _ _) | (with_reducible refine Fr.drew ?_) | (with_reducible refine fr_set_at ?_ _ _) | (with_reducible refine Fr.trans' ?_ f6))) | fail "nokeep")
      (first
        | (go_at_call 113; (with_reducible refine (HT5.out _ ?_).mono ?_); (exact (by repeat (first | (with_reducible exact Fr.refl _ _) | (with_reducible refine Fr.drew ?_)))); rintro e w6 ⟨rfl, f6'⟩; have f6 := f6'.mono (T := fun k => k = g) (fun _ h => h.elim); have H6 := Lib.hid f6'; clear f6'; obtain ⟨n0, n1, n2, n3, n4, n5⟩ := HF5.out w6 (Fr.trans' (by repeat (first | (with_reducible exact Fr.refl _ _) | (with_reducible refine Fr.drew ?_))) H6.out))
        | fail "noarm")
    all_goals
      have HZ := Lib.hid (show ∃ H', TenA A K n S w6 H' ∧ Step H H' w w6 ∧ ¬ H' g from by
        obtain ⟨H', t1, t2, t3, t4⟩ := H5.out
        have f := (Fr.drew (Fr.refl noBlock w5)).trans' H6.out
        exact ⟨H', TenA.ok.fr0 t1 f, t2.trans (Step.same f), t4⟩)
      have HO := Lib.hid ((Fr.drew (Fr.refl noBlock w5)).trans' H6.out |>.obj HB5.out.1 (fun z => z))
      clear f6 n0 n1 n2 n3 n4 n5 c4 c5 c6 m0 m1 m2 m3 m4 m5
      go_wp2_with fail
      refine bodyPost_ret (v := .tuple #[.agg #[.string T, .int .i64 (a : Int), .int .i64 (b : Int)], .bool true]) ?_ rfl ⟨rfl, ?_⟩
      · have z := said_set HO.out (.string T) (.int .i64 (a : Int)) (.int .i64 (b : Int))
        have z0 := cell_of z 0
        have z1 := cell_of z 1
        have z2 := cell_of z 2
        simp at z0 z1 z2
        simp [results, Tryz.results116, go_sem, z0, z1, z2]
      · obtain ⟨H', t1, t2, t3⟩ := HZ.out
        have f : Fr (fun k => k = g) w6 _ := fr_set_at (fr_set_at (fr_set_at (Fr.refl _ w6) 0 (.string T)) 1 (.int .i64 (a : Int))) 2 (.int .i64 (b : Int))
        have hle : w.heap.size ≤ g := by rw [Hg.out]; exact Nat.le_refl _
        exact ⟨H', TenA.ok.fr t1 f (fun k hk e => t3 (e ▸ hk)), ((t2.fr.setCell (.inr hle) _).setCell (.inr hle) _).setCell (.inr hle) _, t2.foot⟩
end Go.Proofs.YtajhgejhdalobaaGreatDoor
namespace Go.Proofs.YtajhgejhdalobaaGreatDoor
open Go.RowKit

def AnsT (A : TenW) (K : Bs) (n : Nat) (S : TenS) (m : Msg) (H : Nat → Prop) (w : World) (e : Ending) (w' : World) : Prop := ∃ sv : SV, e = .returned (.agg #[.string m.1, sv.val]) ∧ sv.n = m.2.length ∧ RowAt 31 FldR w' sv.val m.2 ∧ ∃ H', TenA A K n S w' H' ∧ Step H H' w w' ∧ ∀ k, sv.val.ownBlock = some k → w.heap.size ≤ k ∧ ¬ H' k
def AskK (w : World) (H : Nat → Prop) (A : TenW) (K : Bs) (n : Nat) (S : TenS) (ao : Option Addr) (q : List Fld) (L : List (Nat × Obj)) (W : World) : Prop := ∃ H', TenA A K n S W H' ∧ Glob W H' ∧ Bes FldR ao q W H' ∧ Step H H' w W ∧ ∀ p ∈ L, W.heap[p.1]? = some p.2 ∧ w.heap.size ≤ p.1 ∧ ¬ H' p.1
def AskA (w : World) (H : Nat → Prop) (A : TenW) (K : Bs) (n : Nat) (S : TenS) (L : List (Nat × Obj)) (m : Msg) (sv : SV) (W : World) : Prop := sv.n = m.2.length ∧ RowAt 31 FldR W sv.val m.2 ∧ ∃ H', TenA A K n S W H' ∧ Step H H' w W ∧ (∀ p ∈ L, W.heap[p.1]? = some p.2 ∧ w.heap.size ≤ p.1 ∧ ¬ H' p.1) ∧ ∀ k, sv.val.ownBlock = some k → w.heap.size ≤ k ∧ ¬ H' k ∧ ∀ p ∈ L, k ≠ p.1
namespace AskK
variable {w : World} {H : Nat → Prop} {A : TenW} {K : Bs} {n : Nat} {S S' : TenS} {ao : Option Addr} {q : List Fld} {L : List (Nat × Obj)} {W W' : World}
theorem start (h : TenA A K n S w H) (g : Glob w H) (b : Bes FldR ao q w H) : AskK w H A K n S ao q [] w := ⟨H, h, g, b, Step.same (Fr.refl _ _), fun p hp => by cases hp⟩
theorem stepTo {H1 H2 : Nat → Prop} (h2 : Glob W H1) (h3 : Bes FldR ao q W H1) (h4 : Step H H1 w W) (h5 : ∀ p ∈ L, W.heap[p.1]? = some p.2 ∧ w.heap.size ≤ p.1 ∧ ¬ H1 p.1) (t : TenA A K n S' W' H2) (s : Step H1 H2 W W') : AskK w H A K n S' ao q L W' :=
  ⟨H2, t, h2.step s, h3.step s, h4.trans s, fun p hp => by
    obtain ⟨a, b, c⟩ := h5 p hp
    exact ⟨s.fr.obj a c, b, fun hk => (s.foot _ hk).elim c (fun hle => by have := heap_lt a; omega)⟩⟩
theorem fr (h : AskK w H A K n S ao q L W) (f : Fr noBlock W W') : AskK w H A K n S ao q L W' := by
  obtain ⟨H1, h1, h2, h3, h4, h5⟩ := h
  exact stepTo h2 h3 h4 h5 (TenA.ok.fr0 h1 f) (Step.same f)
theorem new (h : AskK w H A K n S ao q L W) (o : Obj) : AskK w H A K n S ao q ((W.heap.size, o) :: L) (W.alloc o) := by
  have hsz : w.heap.size ≤ W.heap.size := by
    obtain ⟨_, _, _, _, h4, _⟩ := h
    exact h4.fr.size
  have hno : ∃ H1, TenA A K n S (W.alloc o) H1 ∧ Glob (W.alloc o) H1 ∧ Bes FldR ao q (W.alloc o) H1 ∧ Step H H1 w (W.alloc o) ∧ (∀ p ∈ L, (W.alloc o).heap[p.1]? = some p.2 ∧ w.heap.size ≤ p.1 ∧ ¬ H1 p.1) ∧ ¬ H1 W.heap.size := by
    obtain ⟨H1, h1, h2, h3, h4, h5⟩ := h
    have f := (Fr.refl noBlock W).alloc o
    exact ⟨H1, TenA.ok.fr0 h1 f, h2.fr f, h3.fr f, h4.trans (Step.same f), fun p hp => ⟨heap_old _ (h5 p hp).1, (h5 p hp).2⟩, TenA.ok.new h1⟩
  obtain ⟨H1, h1, h2, h3, h4, h5, h6⟩ := hno
  refine ⟨H1, h1, h2, h3, h4, fun p hp => ?_⟩
  rcases List.mem_cons.1 hp with rfl | hp
  · exact ⟨heap_new W o, hsz, h6⟩
  · exact h5 p hp
theorem call {f : Nat} {args : Array Value} {X : Ending → Prop} (h : AskK w H A K n S ao q L W) (c : ∀ H', TenA A K n S W H' → Glob W H' → Calls Tryz.prog f args W (fun e w' => X e ∧ ∃ H'', TenA A K n S' w' H'' ∧ Step H' H'' W w')) : Calls Tryz.prog f args W (fun e w' => X e ∧ AskK w H A K n S' ao q L w') := by
  obtain ⟨H1, h1, h2, h3, h4, h5⟩ := h
  refine (c H1 h1 h2).mono ?_
  rintro e w' ⟨hx, H2, t, s⟩
  exact ⟨hx, stepTo h2 h3 h4 h5 t s⟩
theorem calm {f : Nat} {args : Array Value} {X : Ending → Prop} (h : AskK w H A K n S ao q L W) (c : Calls Tryz.prog f args W (fun e w' => X e ∧ Fr noBlock W w')) : Calls Tryz.prog f args W (fun e w' => X e ∧ AskK w H A K n S ao q L w') :=
  c.mono fun _ _ ⟨a, b⟩ => ⟨a, h.fr b⟩
theorem ansP {f : Nat} {args : Array Value} {T : ByteArray} {l : List Fld} (h : AskK w H A K n S ao q L W) (c : Calls Tryz.prog f args W (AnsP T l W)) : Calls Tryz.prog f args W (fun e w' => ∃ sv : SV, e = .returned (.agg #[.string T, sv.val]) ∧ AskA w H A K n S L (T, l) sv w') := by
  refine c.mono ?_
  rintro e w' ⟨sv, e1, a1, a2, a3, a4⟩
  obtain ⟨H1, h1, h2, h3, h4, h5⟩ := h
  refine ⟨sv, e1, a1, a2, H1, TenA.ok.fr0 h1 a3, h4.trans (Step.same a3), fun p hp => ⟨a3.obj (h5 p hp).1 (fun z => z), (h5 p hp).2⟩, fun k hk => ?_⟩
  have hle := a4 k hk
  have hsz := h4.fr.size
  exact ⟨by omega, fun hf => by have := TenA.ok.lt h1 k hf; omega, fun p hp e => by have := heap_lt (h5 p hp).1; omega⟩
theorem ansT {f : Nat} {args : Array Value} {m : Msg} (h : AskK w H A K n S ao q L W) (c : ∀ H', TenA A K n S W H' → Glob W H' → Bes FldR ao q W H' → Calls Tryz.prog f args W (AnsT A K n S' m H' W)) : Calls Tryz.prog f args W (fun e w' => ∃ sv : SV, e = .returned (.agg #[.string m.1, sv.val]) ∧ AskA w H A K n S' L m sv w') := by
  obtain ⟨H1, h1, h2, h3, h4, h5⟩ := h
  refine (c H1 h1 h2 h3).mono ?_
  rintro e w' ⟨sv, e1, a1, a2, H2, t, s, a4⟩
  refine ⟨sv, e1, a1, a2, H2, t, h4.trans s, fun p hp => ?_, fun k hk => ?_⟩
  · obtain ⟨a, b, c⟩ := h5 p hp
    exact ⟨s.fr.obj a c, b, fun hk => (s.foot _ hk).elim c (fun hle => by have := heap_lt a; omega)⟩
  · obtain ⟨a, b⟩ := a4 k hk
    have hsz := h4.fr.size
    exact ⟨by omega, b, fun p hp e => by have := heap_lt (h5 p hp).1; omega⟩
theorem at' (h : AskK w H A K n S ao q L W) {p : Nat × Obj} (hp : p ∈ L) : W.heap[p.1]? = some p.2 := by
  obtain ⟨_, _, _, _, _, h5⟩ := h
  exact (h5 p hp).1
theorem sub (h : AskK w H A K n S ao q L W) {M : List (Nat × Obj)} (hm : ∀ p ∈ M, p ∈ L) : AskK w H A K n S ao q M W := by
  obtain ⟨H1, h1, h2, h3, h4, h5⟩ := h
  exact ⟨H1, h1, h2, h3, h4, fun p hp => h5 p (hm p hp)⟩
theorem row (h : AskK w H A K n S ao q L W) : RowRd FldR W ao q := by
  obtain ⟨_, _, _, h3, _⟩ := h
  exact h3.rd
theorem tab (h : AskK w H A K n S ao q L W) : ∃ F, Glob W F := by
  obtain ⟨H1, _, h2, _⟩ := h
  exact ⟨H1, h2⟩
theorem ten (h : AskK w H A K n S ao q L W) : ∃ F, TenA A K n S W F := by
  obtain ⟨H1, h1, _⟩ := h
  exact ⟨H1, h1⟩
end AskK
namespace AskA
variable {w : World} {H : Nat → Prop} {A : TenW} {K : Bs} {n : Nat} {S : TenS} {L : List (Nat × Obj)} {m : Msg} {sv : SV} {W : World}
theorem at' (h : AskA w H A K n S L m sv W) {p : Nat × Obj} (hp : p ∈ L) : W.heap[p.1]? = some p.2 := by
  obtain ⟨_, _, _, _, _, h5, _⟩ := h
  exact (h5 p hp).1
theorem done (h : AskA w H A K n S L m sv W) {g : Nat} {o : Obj} (hp : (g, o) ∈ L) : AnsT A K n S m H w (.returned (.agg #[.string m.1, sv.val])) ((W.setCell ⟨g, 0, none⟩ (.string m.1)).setCell ⟨g, 1, none⟩ sv.val) := by
  obtain ⟨a1, a2, H1, t, s, h5, h6⟩ := h
  have f : Fr (fun k => k = g) W ((W.setCell ⟨g, 0, none⟩ (.string m.1)).setCell ⟨g, 1, none⟩ sv.val) := fr_set_at (fr_set_at (Fr.refl _ W) 0 _) 1 _
  obtain ⟨b1, b2, b3⟩ := h5 _ hp
  exact ⟨sv, rfl, a1, a2.fr f (fun k hk e => (h6 k hk).2.2 _ hp e), H1, TenA.ok.fr t f (fun k hk e => b3 (e ▸ hk)), ⟨(s.fr.setCell (.inr b2) _).setCell (.inr b2) _, s.foot⟩, fun k hk => ⟨(h6 k hk).1, (h6 k hk).2.1⟩⟩
end AskA
theorem in0 {α} {a : α} {l : List α} : a ∈ a :: l := List.mem_cons_self
theorem in1 {α} {a b : α} {l : List α} : a ∈ b :: a :: l := List.mem_cons_of_mem _ in0
theorem in2 {α} {a b c : α} {l : List α} : a ∈ b :: c :: a :: l := List.mem_cons_of_mem _ in1
theorem in3 {α} {a b c d : α} {l : List α} : a ∈ b :: c :: d :: a :: l := List.mem_cons_of_mem _ in2

set_option maxRecDepth 100000 in
set_option maxHeartbeats 3200000 in
theorem again_any {A : TenW} {K : Bs} {n : Nat} {S : TenS} {w : World} {H : Nat → Prop} (h : TenA A K n S w H) (hG : Glob w H) (hp : TenP K n S.v) (t : ByteArray) (h4 : t.size = 4) {ao : Option Addr} {q : List Fld} (hq : Bes FldR ao q w H) (cap : Nat) (hl : q.length ≤ maxLen) (p : Lg.Post) {tok l : Bs} {a b : Nat} (hs : p.answer = strB (saidB tok a b)) (hb : backB (maskV K n) S.v tok = (l, 0)) (h1 : 1 ≤ a) (h2 : a ≤ 99) (h3 : b ≤ 1099511627776) (x : Int) :
    Calls Tryz.prog 107 #[.pointer (some ⟨A.tb, 0, none⟩), msgV t ao q.length cap, p.val, .int .i64 x] w (AnsT A K n S (if l ≠ bl (valS 2 q) ∨ x ≠ p.amount then ansM t q cOther [] else okM t q tok a) H w) := by
  have hts : tok.length ≤ 60 := by
    have := said_len hb h2 h3
    rw [saidB_add] at this
    simp at this
    omega
  have HK0 := Lib.hid (AskK.start h hG hq)
  have HR := Lib.hid (show ∀ W L, AskK w H A K n S ao q L W → Calls Tryz.prog 116 #[.pointer (some ⟨A.tb, 0, none⟩), .string p.answer] W (fun e w' => e = .returned (.tuple #[.agg #[.string (strB tok), .int .i64 (a : Int), .int .i64 (b : Int)], .bool true]) ∧ AskK w H A K n S ao q L w') from fun W L k => k.call fun H' t g => read_ok t g hp hb h1 h2 h3 hs)
  have HB := Lib.hid (show ∀ W L, AskK w H A K n S ao q L W → Calls Tryz.prog 84 #[.pointer (some ⟨A.va, 0, none⟩), .string (strB tok)] W (fun e w' => e = .returned (.tuple #[.string (strB l), .int .i64 0]) ∧ AskK w H A K n S ao q L w') from fun W L k => k.call fun H' t g => by
    obtain ⟨G, g1, g2, g3⟩ := t.vault
    have hc := vback_any g1 (g.sub g2) hp.k64 hp.n1 hp.n64 hp.v99 (strB tok) (by rw [strB_size]; omega)
    unfold VTokP at hc
    rw [bl_strB, hb] at hc
    refine hc.mono ?_
    rintro e w' ⟨rfl, F', k1, k2⟩
    obtain ⟨H', t1, t2⟩ := g3 _ _ _ k1 k2
    exact ⟨rfl, H', t1, t2⟩)
  have HV := Lib.hid (show ∀ W L, AskK w H A K n S ao q L W → Calls Tryz.prog 104 #[msgV t ao q.length cap, .int .i64 2] W (fun e w' => e = .returned (.string (valS 2 q)) ∧ AskK w H A K n S ao q L w') from fun W L k => k.calm (qvalue_any t k.row cap hl 2))
  have HN := Lib.hid (show ∀ W L, AskK w H A K n S ao q L W → Calls Tryz.prog 46 #[msgV t ao q.length cap, .string ⟨#[57, 52]⟩, .slice none 0 0] W (fun e w' => ∃ sv : SV, e = .returned (.agg #[.string (upT t), sv.val]) ∧ AskA w H A K n S L (ansM t q cOther []) sv w') from fun W L k => k.ansP (answer_any t h4 k.row cap hl ⟨#[57, 52]⟩ (more := []) RowRd.nil 0 (by simp)))
  have HY := Lib.hid (show ∀ W L, AskK w H A K n S ao q L W → Calls Tryz.prog 114 #[msgV t ao q.length cap, .agg #[.string (strB tok), .int .i64 (a : Int), .int .i64 (b : Int)]] W (fun e w' => ∃ sv : SV, e = .returned (.agg #[.string (upT t), sv.val]) ∧ AskA w H A K n S L (okM t q tok a) sv w') from fun W L k => k.ansP (approved_any k.tab.choose_spec t h4 k.row cap hl (strB tok) a (b : Int) (by omega)))
  have E1 : strB l ≠ valS 2 q ∨ x ≠ p.amount → (if l ≠ bl (valS 2 q) ∨ x ≠ p.amount then ansM t q cOther [] else okM t q tok a) = ansM t q cOther [] := fun z => if_pos (z.imp (fun z e => z (by rw [e, strB_bl])) (fun z => z))
  have E2 : strB l = valS 2 q → x = p.amount → (if l ≠ bl (valS 2 q) ∨ x ≠ p.amount then ansM t q cOther [] else okM t q tok a) = okM t q tok a := fun z1 z2 => if_neg (fun z => z.elim (fun z => z (by rw [← z1, bl_strB])) (fun z => z z2))
  obtain ⟨M, hM⟩ : ∃ M, (if l ≠ bl (valS 2 q) ∨ x ≠ p.amount then ansM t q cOther [] else okM t q tok a) = M := ⟨_, rfl⟩
  rw [hM] at E1 E2 ⊢
  obtain ⟨T, hT⟩ : ∃ T, strB tok = T := ⟨_, rfl⟩
  obtain ⟨P, hP⟩ : ∃ T, strB l = T := ⟨_, rfl⟩
  obtain ⟨V, hV⟩ : ∃ T, valS 2 q = T := ⟨_, rfl⟩
  obtain ⟨U, hU⟩ : ∃ T, upT t = T := ⟨_, rfl⟩
  obtain ⟨m1, hm1⟩ : ∃ T, ansM t q cOther [] = (U, T) := ⟨_, by rw [← hU]; rfl⟩
  obtain ⟨m2, hm2⟩ : ∃ T, okM t q tok a = (U, T) := ⟨_, by rw [← hU]; rfl⟩
  obtain ⟨qn, hqn⟩ : ∃ T, q.length = T := ⟨_, rfl⟩
  obtain ⟨pk, pa, ps, pt⟩ := p
  rw [hT] at HR HY HB
  rw [hP] at HB E1 E2
  rw [hV] at HV E1 E2
  rw [hqn] at HV HN HY ⊢
  rw [hU] at HN HY
  rw [hm1] at HN E1
  rw [hm2] at HY E2
  unfold Lg.Post.val
  dsimp only at HR E1 E2 ⊢
  have HE1 := Lib.hid E1
  have HE2 := Lib.hid E2
  clear h hG hp hq hl hs hb h1 h2 h3 hts hT hP hV hU hm1 hm2 hqn hM E1 E2
  go_enter Tryz.func107, Tryz.ntmps107
  go_upto_region 1 with fail
  refine wp_at (fun W => AskK w H A K n S ao q [(w.heap.size + 1 + 1, .cells #[.string ⟨#[]⟩, .slice none 0 0] 25 (0, 0)), (w.heap.size + 1, .cells #[.string pk, .int .i64 pa, .int .i64 ps, .string pt] 53 (0, 0)), (w.heap.size, .cells #[.string t, .slice ao qn cap] 85 (0, 0))] W) ?_ ?_
  · have k1 := HK0.out.new (.cells #[.string t, .slice ao qn cap] 85 (0, 0))
    have k2 := k1.new (.cells #[.string pk, .int .i64 pa, .int .i64 ps, .string pt] 53 (0, 0))
    have k3 := k2.new (.cells #[.string ⟨#[]⟩, .slice none 0 0] 25 (0, 0))
    have s1 : (w.alloc (.cells #[.string t, .slice ao qn cap] 85 (0, 0))).heap.size = w.heap.size + 1 := by simp
    have s2 : ((w.alloc (.cells #[.string t, .slice ao qn cap] 85 (0, 0))).alloc (.cells #[.string pk, .int .i64 pa, .int .i64 ps, .string pt] 53 (0, 0))).heap.size = w.heap.size + 1 + 1 := by simp
    rw [s1, s2] at k3
    exact k3
  obtain ⟨g, hg⟩ : ∃ g, w.heap.size = g := ⟨_, rfl⟩
  rw [hg]
  rintro w1 k1
  have H1 := Lib.hid k1
  have c0 := cell_of (k1.at' in2) 0
  have c1 := cell_of (k1.at' in2) 1
  have c2 := cell_of (k1.at' in1) 0
  have c3 := cell_of (k1.at' in1) 1
  have c4 := cell_of (k1.at' in1) 3
  clear hg k1 HK0
  go_wp2_with fail
  refine (HR.out _ _ H1.out).mono ?_
  rintro e w2 ⟨rfl, k2⟩
  have H2 := Lib.hid k2
  obtain ⟨gs, hgs⟩ : ∃ g, w2.heap.size = g := ⟨_, rfl⟩
  clear k2 c0 c1 c2 c3 c4 HR H1
  go_upto_region 2 with fail
  refine wp_at (fun W => AskK w H A K n S ao q [(gs, .cells #[.string T, .int .i64 (a : Int), .int .i64 (b : Int)] 175 (0, 0)), (g + 1 + 1, .cells #[.string ⟨#[]⟩, .slice none 0 0] 25 (0, 0)), (g + 1, .cells #[.string pk, .int .i64 pa, .int .i64 ps, .string pt] 53 (0, 0)), (g, .cells #[.string t, .slice ao qn cap] 85 (0, 0))] W) (hgs ▸ H2.out.new _) ?_
  rintro w3 k3
  have H3 := Lib.hid k3
  clear k3 H2 hgs
  have HKc := Lib.hid (show ∀ W L, AskK w H A K n S ao q ((gs, .cells #[.string T, .int .i64 (a : Int), .int .i64 (b : Int)] 175 (0, 0)) :: L) W → W.cell? ⟨A.tb, 0, none⟩ = some (.pointer (some ⟨A.va, 0, none⟩)) ∧ W.cell? ⟨gs, 0, none⟩ = some (.string T) from fun W L k => ⟨k.ten.choose_spec.cells.1, cell_of (k.at' in0) 0⟩)
  have HD3 := Lib.hid (H3.out.fr (Fr.drew (Fr.refl _ w3)))
  go_region_held3 (fun W => W.cell? ⟨A.tb, 0, none⟩ = some (.pointer (some ⟨A.va, 0, none⟩)) ∧ W.cell? ⟨gs, 0, none⟩ = some (.string T))
    (first | exact HKc.out _ _ H3.out | exact HKc.out _ _ HD3.out | exact HKc.out _ _ H4.out | fail "nokeep")
    (first
      | (go_at_call 84; (with_reducible refine (HB.out _ _ HD3.out).mono ?_); rintro e w4 ⟨rfl, k4⟩; have H4 := Lib.hid k4; clear k4)
      | fail "noarm")
  all_goals
    clear HB HD3 H3
    have c0 := cell_of (H4.out.at' in3) 0
    have c1 := cell_of (H4.out.at' in3) 1
    have c2 := cell_of (H4.out.at' in2) 1
    by_cases hv : P = V
    · subst hv
      go_wp2_with fail
      refine (HV.out _ _ H4.out).mono ?_
      rintro e w5 ⟨rfl, k5⟩
      have H5 := Lib.hid k5
      clear c0 c1 c2 H4 HV k5
      have c0 := cell_of (H5.out.at' in3) 0
      have c1 := cell_of (H5.out.at' in3) 1
      have c2 := cell_of (H5.out.at' in2) 1
      have c4 := cell_of (H5.out.at' in0) 0
      have c5 := cell_of (H5.out.at' in0) 1
      have c6 := cell_of (H5.out.at' in0) 2
      by_cases hx : x = pa
      · subst hx
        go_wp2_with fail
        refine ((HY.out _ _ H5.out)).mono ?_
        rintro e w9 ⟨⟨xa, xn, xc⟩, he9, a1⟩
        subst he9
        have b9 := a1.at' in1
        have d0 := cell_of b9 0
        have d1 := cell_of b9 1
        have d2 := free_of b9 0
        have d3 := free_of b9 1
        have H9 := Lib.hid a1
        clear a1 b9
        try dsimp only [SV.val]
        go_wp2_with fail
        refine bodyPost_ret (v := .agg #[_, .slice xa xn xc]) (results_cell_row Tryz.results107 _ _ (g + 1 + 1) _ _ _ _ rfl (msg_set (H9.out.at' in1) _ _) Tryz.underlying25 rfl info_msg) rfl (by rw [show _ = _ from (HE2.out (by first | rfl | trivial) (by first | rfl | trivial))]; exact H9.out.done in1)
      · have hx' : (x == pa) = false := by simpa using hx
        go_wp2_with fail
        refine ((HN.out _ _ H5.out)).mono ?_
        rintro e w9 ⟨⟨xa, xn, xc⟩, he9, a1⟩
        subst he9
        have b9 := a1.at' in1
        have d0 := cell_of b9 0
        have d1 := cell_of b9 1
        have d2 := free_of b9 0
        have d3 := free_of b9 1
        have H9 := Lib.hid a1
        clear a1 b9
        try dsimp only [SV.val]
        go_wp2_with fail
        refine bodyPost_ret (v := .agg #[_, .slice xa xn xc]) (results_cell_row Tryz.results107 _ _ (g + 1 + 1) _ _ _ _ rfl (msg_set (H9.out.at' in1) _ _) Tryz.underlying25 rfl info_msg) rfl (by rw [show _ = _ from (HE1.out (.inr hx))]; exact H9.out.done in1)
    · have hv' := str_ne3 hv
      go_wp2_with fail
      refine (HV.out _ _ H4.out).mono ?_
      rintro e w5 ⟨rfl, k5⟩
      have H5 := Lib.hid k5
      clear c0 c1 c2 H4 HV k5
      have c0 := cell_of (H5.out.at' in3) 0
      have c1 := cell_of (H5.out.at' in3) 1
      go_wp2_with fail
      refine ((HN.out _ _ H5.out)).mono ?_
      rintro e w9 ⟨⟨xa, xn, xc⟩, he9, a1⟩
      subst he9
      have b9 := a1.at' in1
      have d0 := cell_of b9 0
      have d1 := cell_of b9 1
      have d2 := free_of b9 0
      have d3 := free_of b9 1
      have H9 := Lib.hid a1
      clear a1 b9
      try dsimp only [SV.val]
      go_wp2_with fail
      refine bodyPost_ret (v := .agg #[_, .slice xa xn xc]) (results_cell_row Tryz.results107 _ _ (g + 1 + 1) _ _ _ _ rfl (msg_set (H9.out.at' in1) _ _) Tryz.underlying25 rfl info_msg) rfl (by rw [show _ = _ from (HE1.out (.inl hv))]; exact H9.out.done in1)
end Go.Proofs.YtajhgejhdalobaaGreatDoor
namespace Go.Proofs.YtajhgejhdalobaaGreatDoor
open Go.RowKit

section
variable {M : MaskF} {S : TenS} {t : ByteArray} {q : List Fld} {now : Nat} {lim : Bool}
theorem askT_form (h : lacksB q [2, 4, 11, 41] = true) : askT M S t q now lim = (S, ansM t q cForm []) := by unfold askT; rw [if_pos h]
variable (h0 : lacksB q [2, 4, 11, 41] = false)
include h0
theorem askT_pan (h1 : panB (bl (valS 2 q)) = false) : askT M S t q now lim = (S, ansM t q cPan []) := by unfold askT; rw [if_neg (by rw [h0]; simp), if_pos h1]
variable (h1 : panB (bl (valS 2 q)) = true)
include h1
theorem askT_again {p : Lg.Post} (h2 : Lg.askP S.ps (keyOf q) = some p) : askT M S t q now lim = (S, againT M S t q p) := by unfold askT; rw [if_neg (by rw [h0]; simp), if_neg (by rw [h1]; simp), h2]
variable (h2 : Lg.askP S.ps (keyOf q) = none)
include h2
theorem askT_route (h3 : Rt.findR S.rs (valS 2 q) = none) : askT M S t q now lim = (S, ansM t q cRoute []) := by unfold askT; rw [if_neg (by rw [h0]; simp), if_neg (by rw [h1]; simp), h2]; dsimp only; rw [h3]
variable {a : Int} (h3 : Rt.findR S.rs (valS 2 q) = some a)
include h3
theorem askT_room (h4 : 24 ≤ S.ps.length ∨ 5000000000000 - Lg.sumA S.ps < amountOf q) : askT M S t q now lim = (S, ansM t q cRoom []) := by unfold askT; rw [if_neg (by rw [h0]; simp), if_neg (by rw [h1]; simp), h2]; dsimp only; rw [h3]; dsimp only; rw [if_pos h4]
variable (h4 : ¬ (24 ≤ S.ps.length ∨ 5000000000000 - Lg.sumA S.ps < amountOf q))
include h4
theorem askT_limit (h5 : lim = true) (h6 : Lm.tryE S.us S.rule (cardOf M (bl (valS 2 q))) (amountOf q) now ≠ 0) : askT M S t q now lim = (S, ansM t q (tryC (Lm.tryE S.us S.rule (cardOf M (bl (valS 2 q))) (amountOf q) now)) []) := by unfold askT; rw [if_neg (by rw [h0]; simp), if_neg (by rw [h1]; simp), h2]; dsimp only; rw [h3]; dsimp only; rw [if_neg h4, if_pos ⟨h5, h6⟩]
theorem askT_yes (h5 : ¬ (lim = true ∧ Lm.tryE S.us S.rule (cardOf M (bl (valS 2 q))) (amountOf q) now ≠ 0)) : askT M S t q now lim = ({ S with us := if lim = true then Lm.tryL S.us S.rule (cardOf M (bl (valS 2 q))) (amountOf q) now else S.us, ps := Lg.addL S.ps ⟨keyOf q, amountOf q, 1, strB (saidB (tokenB M S.v (bl (valS 2 q))).1 a.toNat now)⟩ }, okM t q (tokenB M S.v (bl (valS 2 q))).1 a.toNat) := by unfold askT; rw [if_neg (by rw [h0]; simp), if_neg (by rw [h1]; simp), h2]; dsimp only; rw [h3]; dsimp only; rw [if_neg h4, if_neg h5]
end
theorem val_len {q : List Fld} (h : RightL q) {n : Int} (hn : n ∈ [2, 4, 11, 41, 90]) : (valS n q).size ≤ 100 := by
  by_cases hb : valB n q = true
  · have hl := fldv_len (val_right h hb)
    have hx : ∀ n ∈ ([2, 4, 11, 41, 90] : List Int), longOf n ≤ 100 := by decide
    have := hx n hn
    by_cases hk : kindOf n = 2 ∨ kindOf n = 4
    · have := hl.1 hk; omega
    · have := hl.2 hk; omega
  · unfold valS
    unfold valB at hb
    cases hv : valF n q with
    | none => exact Nat.zero_le _
    | some v => rw [hv] at hb; exact absurd rfl hb
theorem said_of {M : MaskF} {S : TenS} (ho : TenantOk M S) {k : ByteArray} {p : Lg.Post} (h : Lg.askP S.ps k = some p) : ∃ tok l a b, p.answer = strB (saidB tok a b) ∧ backB M S.v tok = (l, 0) ∧ 1 ≤ a ∧ a ≤ 99 ∧ b ≤ 1099511627776 := by
  unfold Lg.askP at h
  exact ho.said p (List.mem_of_find?_eq_some h)
theorem againT_said {M : MaskF} {S : TenS} {t : ByteArray} {q : List Fld} {p : Lg.Post} {tok l : Bs} {a b : Nat} (h : p.answer = strB (saidB tok a b)) (hb : backB M S.v tok = (l, 0)) (h1 : 1 ≤ a) (h2 : a ≤ 99) (h3 : b ≤ 1099511627776) : againT M S t q p = (if l ≠ bl (valS 2 q) ∨ (amountOf q : Int) ≠ p.amount then ansM t q cOther [] else okM t q tok a) := by
  unfold againT
  rw [h, bl_strB, read_said hb h1 h2 h3]
  dsimp only
  rw [hb]
def lN (q : List Fld) (c : ByteArray) : List Fld := ansL q c []
structure AskC (w : World) (H : Nat → Prop) (A : TenW) (K : Bs) (n : Nat) (S : TenS) (t : ByteArray) (ao : Option Addr) (q : List Fld) (cap qn : Nat) (U : ByteArray) (lN : ByteArray → List Fld) : Prop where
  value : ∀ W L x, AskK w H A K n S ao q L W → Calls Tryz.prog 104 #[msgV t ao qn cap, .int .i64 x] W (fun e w' => e = .returned (.string (valS x q)) ∧ AskK w H A K n S ao q L w')
  lacks : ∀ W L g c0 c1 c2 c3, AskK w H A K n S ao q L W → W.heap[g]? = some (.cells #[.int .i64 c0, .int .i64 c1, .int .i64 c2, .int .i64 c3] 3 (0, 0)) → Calls Tryz.prog 45 #[msgV t ao qn cap, .slice (some ⟨g, 0, none⟩) 4 4] W (fun e w' => e = .returned (.bool (lacksB q [c0, c1, c2, c3])) ∧ AskK w H A K n S ao q L w')
  lacks2 : ∀ W L g c0 c1, AskK w H A K n S ao q L W → W.heap[g]? = some (.cells #[.int .i64 c0, .int .i64 c1] 3 (0, 0)) → Calls Tryz.prog 45 #[msgV t ao qn cap, .slice (some ⟨g, 0, none⟩) 2 2] W (fun e w' => e = .returned (.bool (lacksB q [c0, c1])) ∧ AskK w H A K n S ao q L w')
  lacks1 : ∀ W L g c0, AskK w H A K n S ao q L W → W.heap[g]? = some (.cells #[.int .i64 c0] 3 (0, 0)) → Calls Tryz.prog 45 #[msgV t ao qn cap, .slice (some ⟨g, 0, none⟩) 1 1] W (fun e w' => e = .returned (.bool (lacksB q [c0])) ∧ AskK w H A K n S ao q L w')
  answer : ∀ W L c, AskK w H A K n S ao q L W → Calls Tryz.prog 46 #[msgV t ao qn cap, .string c, .slice none 0 0] W (fun e w' => ∃ sv : SV, e = .returned (.agg #[.string U, sv.val]) ∧ AskA w H A K n S L (U, lN c) sv w')
  ask : ∀ W L k, k.size ≤ maxLen → AskK w H A K n S ao q L W → Calls Tryz.prog 106 #[.pointer (some ⟨A.ll, 0, none⟩), .string k] W (fun e w' => e = .returned (.tuple #[((Lg.askP S.ps k).getD Lg.zeroPost).val, .bool (Lg.askP S.ps k).isSome]) ∧ AskK w H A K n S ao q L w')
  find : ∀ W L k, k.size ≤ maxLen → AskK w H A K n S ao q L W → Calls Tryz.prog 108 #[.pointer (some ⟨A.rl, 0, none⟩), .string k] W (fun e w' => e = .returned (.tuple #[.int .i64 ((Rt.findR S.rs k).getD 0), .bool (Rt.findR S.rs k).isSome]) ∧ AskK w H A K n S ao q L w')
  list : ∀ W L, AskK w H A K n S ao q L W → Calls Tryz.prog 57 #[.pointer (some ⟨A.ll, 0, none⟩)] W (fun e w' => (∃ vo cp, e = .returned (.slice vo S.ps.length cp)) ∧ AskK w H A K n S ao q L w')
  total : ∀ W L, AskK w H A K n S ao q L W → Calls Tryz.prog 53 #[.pointer (some ⟨A.ll, 0, none⟩)] W (fun e w' => e = .returned (.int .i64 (Lg.sumA S.ps)) ∧ AskK w H A K n S ao q L w')
theorem askC {w : World} {H : Nat → Prop} {A : TenW} {K : Bs} {n : Nat} {S : TenS} {t : ByteArray} (h4 : t.size = 4) {ao : Option Addr} {q : List Fld} {cap : Nat} (hl : q.length ≤ maxLen) : AskC w H A K n S t ao q cap q.length (upT t) (lN q) where
  value := fun W L x k => k.calm (qvalue_any t k.row cap hl x)
  lacks := fun W L g c0 c1 c2 c3 k hg => k.calm (lacks_any t k.row cap hl (b := g) (off := 0) (ns := [c0, c1, c2, c3]) (RowRd.of_flat hg rfl (by unfold maxLen; simp)) (heap_lt hg) (by simp) (nc := 4))
  lacks2 := fun W L g c0 c1 k hg => k.calm (lacks_any t k.row cap hl (b := g) (off := 0) (ns := [c0, c1]) (RowRd.of_flat hg rfl (by unfold maxLen; simp)) (heap_lt hg) (by simp) (nc := 2))
  lacks1 := fun W L g c0 k hg => k.calm (lacks_any t k.row cap hl (b := g) (off := 0) (ns := [c0]) (RowRd.of_flat hg rfl (by unfold maxLen; simp)) (heap_lt hg) (by simp) (nc := 1))
  answer := fun W L c k => k.ansP (answer_any t h4 k.row cap hl c (more := []) RowRd.nil 0 (by simp))
  ask := fun W L s hs k => k.calm (by
    obtain ⟨G, g1, _, _⟩ := k.ten.choose_spec.ledger
    exact (Lg.ask_at g1 s hs rfl rfl).mono fun e w' ⟨_, a, b⟩ => ⟨a, b⟩)
  find := fun W L s hs k => k.calm (by
    obtain ⟨G, g1, _, _⟩ := k.ten.choose_spec.table
    exact Rt.find_any g1 s hs)
  list := fun W L k => k.calm (by
    obtain ⟨G, g1, _, _⟩ := k.ten.choose_spec.ledger
    refine (Lg.list_at g1).mono ?_
    rintro e w' ⟨v, _, rfl, h2, h3, _⟩
    obtain ⟨vo, cp, rfl⟩ := Lg.PostsAt.shape h2
    exact ⟨⟨vo, cp, rfl⟩, h3⟩)
  total := fun W L k => k.calm (by
    obtain ⟨G, g1, _, _⟩ := k.ten.choose_spec.ledger
    refine (Lg.total_at g1 rfl).mono ?_
    rintro e w' ⟨rfl, rfl⟩
    exact ⟨rfl, Fr.refl _ _⟩)
end Go.Proofs.YtajhgejhdalobaaGreatDoor
