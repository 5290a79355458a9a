/-
  A STORE'S OWN PART in memory: its block, its seals, its ring.
-/
import Derived.StillTailTactics
import Derived.Test.YthabllnhlhkejaaGreatDoorBxD
import Derived.Test.YthabllnhlhkejaaGreatDoorJnCommit
import Derived.Test.YthabllnhlhkejaaGreatDoorKyC
namespace Go.Proofs.YthabllnhlhkejaaGreatDoor
open Go.RowKit

/-- a tenant's part is fresh, or its key is made -/
def TenOk (W : World) (rg : Nat) (master : List UInt8) (F : Nat → Prop) (n : Nat) (t : Ten) : Prop :=
  t = ⟨0, 0, 0, .slice none 0 0⟩ ∨ ∃ (ko : Option Addr) (kc : Nat), t.d = 1 ∧ t.v = .slice ko 32 kc ∧ RowAt 5 ByteR W (.slice ko 32 kc) (tenantK master n) ∧ ∀ k, (Value.slice ko 32 kc).ownBlock = some k → k ≠ rg ∧ F k
structure RingIn (rg : Nat) (master : List UInt8) (W : World) (F : Nat → Prop) (mo : Option Addr) (mc : Nat) (ts : List Ten) : Prop where
  box : W.heap[rg]? = some (ringO (.slice mo master.length mc) ts)
  mas : RowRd ByteR W mo master
  mne : ∀ a, mo = some a → a.block ≠ rg ∧ F a.block
  len : ts.length = 65
  each : ∀ n (h : n < ts.length), TenOk W rg master F n ts[n]
  self : F rg
  low : ∀ k, F k → k < W.heap.size
namespace RingIn
variable {rg : Nat} {master : List UInt8} {W W' : World} {F : Nat → Prop} {mo : Option Addr} {mc : Nat} {ts : List Ten}
theorem fr {S : Nat → Prop} (h : RingIn rg master W F mo mc ts) (hf : Fr S W W') (hs : ∀ k, F k → ¬ S k) : RingIn rg master W' F mo mc ts :=
  ⟨hf.obj h.box (hs _ h.self), h.mas.fr hf (fun b off e => hs _ (h.mne _ e).2), h.mne, h.len, fun n hn => (h.each n hn).imp id (by
    rintro ⟨ko, kc, h1, h2, h3, h4⟩
    exact ⟨ko, kc, h1, h2, h3.fr hf (fun k hk => hs _ (h4 k hk).2), h4⟩), h.self, fun k hk => Nat.lt_of_lt_of_le (h.low k hk) hf.size⟩
theorem fr0 (h : RingIn rg master W F mo mc ts) (hf : Fr noBlock W W') : RingIn rg master W' F mo mc ts := h.fr hf (fun _ _ z => z)
end RingIn
def RingT (rg : Nat) (master : List UInt8) : Thing := fun W F => ∃ mo mc ts, RingIn rg master W F mo mc ts
theorem RingT.ok {rg : Nat} {master : List UInt8} : (RingT rg master).Ok := by
  refine ⟨?_, ?_⟩
  · rintro w F ⟨mo, mc, ts, h⟩ k hk
    exact h.low k hk
  · rintro w w' F S ⟨mo, mc, ts, h⟩ hf hs
    exact ⟨mo, mc, ts, h.fr hf hs⟩
/-- the n-th tenant's key is made -/
def RingMade (rg : Nat) (master : List UInt8) (n : Nat) (W : World) (F : Nat → Prop) : Prop := ∃ mo mc ts ko kc, RingIn rg master W F mo mc ts ∧ W.cell? ⟨rg, 1 + n * 4 + 3, none⟩ = some (.slice ko 32 kc) ∧ RowAt 5 ByteR W (.slice ko 32 kc) (tenantK master n)
theorem ring_do {w : World} {F : Nat → Prop} {rg p0 p1 p2 n : Nat} {master : List UInt8} (h : RingT rg master w F) (hml : master.length ≤ 64) (hn : n < 65)
    (h0 : w.cell? ⟨p0, 0, none⟩ = some (.pointer (some ⟨rg, 0, none⟩))) (h1 : w.cell? ⟨p1, 0, none⟩ = some (.int .i64 (n : Int))) (h2 : w.cell? ⟨p2, 0, none⟩ = some (.pointer (some ⟨rg, 1 + n * 4, none⟩))) (n0 : p0 ≠ rg) (n1 : p1 ≠ rg) (n2 : p2 ≠ rg) :
    Calls Tryz.prog 33 #[.pointer (some ⟨rg, 1 + n * 4, none⟩), .func (.func 60) #[] #[.pointer (some ⟨p0, 0, none⟩), .pointer (some ⟨p1, 0, none⟩), .pointer (some ⟨p2, 0, none⟩)]] w fun e w' => e = .returned (.tuple #[]) ∧ ∃ F', RingMade rg master n w' F' ∧ Step F F' w w' ∧ Fr (fun k => k = rg) w w' := by
  obtain ⟨mo, mc, ts, hr⟩ := h
  have hnl : n < ts.length := by rw [hr.len]; exact hn
  have hd0 := (ring_cell hr.box hnl (j := 0) (by omega))
  have hd1 := (ring_cell hr.box hnl (j := 1) (by omega))
  rcases hr.each n hnl with ht | ⟨ko, kc, t1, t2, t3, t4⟩
  · have eg := enters_of Tryz.func60 (by kernel_rfl) rfl
    rw [ht] at hd0 hd1
    have hf1 : Fr (fun k => k = rg) w (w.setCell ⟨rg, 1 + n * 4 + 1, none⟩ (.int .i32 1)) := fr_set_at (Fr.refl _ w) (1 + n * 4 + 1) _
    have hb1 : (w.setCell ⟨rg, 1 + n * 4 + 1, none⟩ (.int .i32 1)).heap[rg]? = some (ringO (.slice mo master.length mc) (ts.set n ⟨0, 1, 0, .slice none 0 0⟩)) := ring_set hr.box hnl (j := 1) (by omega) (.int .i32 1) ⟨0, 1, 0, .slice none 0 0⟩ (by rw [ht]; rfl)
    have hnl1 : n < (ts.set n ⟨0, 1, 0, .slice none 0 0⟩).length := by rw [List.length_set]; exact hnl
    have hk := key1_any (p0 := p0) (p1 := p1) (p2 := p2) hb1 (hr.mas.fr hf1 (fun b off e => (hr.mne _ e).1)) hml hnl1 (by omega)
      ((hf1.cell (p := ⟨p0, 0, none⟩) (World.block_lt_of_cell? _ _ h0) n0).trans h0) ((hf1.cell (p := ⟨p1, 0, none⟩) (World.block_lt_of_cell? _ _ h1) n1).trans h1) ((hf1.cell (p := ⟨p2, 0, none⟩) (World.block_lt_of_cell? _ _ h2) n2).trans h2) n0 n1 n2
    refine (do_first (off := 1 + n * 4) (fa := #[]) (ca := #[.pointer (some ⟨p0, 0, none⟩), .pointer (some ⟨p1, 0, none⟩), .pointer (some ⟨p2, 0, none⟩)]) eg ⟨hd0.1, hd1.1, hd0.2, hd1.2⟩
      (fun W => ∃ (ko : Option Addr) (kc : Nat), W.heap[rg]? = some (ringO (.slice mo master.length mc) (ts.set n ⟨0, 1, 0, .slice ko 32 kc⟩)) ∧ RowAt 5 ByteR W (.slice ko 32 kc) (tenantK master n) ∧ (∀ k, (Value.slice ko 32 kc).ownBlock = some k → w.heap.size ≤ k) ∧ Fr (fun k => k = rg) w W) ?_).mono ?_
    · refine hk.mono ?_
      rintro e w' ⟨rfl, ko, kc, k1, k2, k3, k4⟩
      have e1 : (ts.set n ⟨0, 1, 0, .slice none 0 0⟩)[n] = ⟨0, 1, 0, .slice none 0 0⟩ := by rw [List.getElem_set_self]
      rw [e1, List.set_set] at k1
      have hl2 : n < (ts.set n (⟨0, 1, 0, .slice ko 32 kc⟩ : Ten)).length := by rw [List.length_set]; exact hnl
      have g0 := ring_cell k1 hl2 (j := 0) (by omega)
      have g1 := ring_cell k1 hl2 (j := 1) (by omega)
      rw [List.getElem_set_self] at g0 g1
      exact ⟨rfl, ⟨ko, kc, k1, k2, fun k hk => by have := k3 k hk; simpa using this, hf1.trans' k4⟩, g0.1, g1.1, g0.2, g1.2⟩
    · rintro e w' ⟨rfl, W, ⟨ko, kc, k1, k2, k3, k4⟩, rfl⟩
      have hl2 : n < (ts.set n (⟨0, 1, 0, .slice ko 32 kc⟩ : Ten)).length := by rw [List.length_set]; exact hnl
      have fe : Fr (fun k => k = rg) W (onceEnd rg (1 + n * 4) W) := by
        unfold onceEnd
        exact fr_set_at (fr_set_at (Fr.refl _ W).drew (1 + n * 4) _) (1 + n * 4 + 1) _
      have b1 : ((W.drew).setCell ⟨rg, 1 + n * 4, none⟩ (.int .u32 1)).heap[rg]? = some (ringO (.slice mo master.length mc) (ts.set n ⟨1, 1, 0, .slice ko 32 kc⟩)) := by
        have := ring_set (w := W.drew) k1 hl2 (j := 0) (by omega) (.int .u32 1) ⟨1, 1, 0, .slice ko 32 kc⟩ (by rw [List.getElem_set_self]; rfl)
        rw [List.set_set] at this
        exact this
      have hl3 : n < (ts.set n (⟨1, 1, 0, .slice ko 32 kc⟩ : Ten)).length := by rw [List.length_set]; exact hnl
      have b2 : (onceEnd rg (1 + n * 4) W).heap[rg]? = some (ringO (.slice mo master.length mc) (ts.set n ⟨1, 0, 0, .slice ko 32 kc⟩)) := by
        have := ring_set b1 hl3 (j := 1) (by omega) (.int .i32 0) ⟨1, 0, 0, .slice ko 32 kc⟩ (by rw [List.getElem_set_self]; rfl)
        rw [List.set_set] at this
        exact this
      have fall : Fr (fun k => k = rg) w (onceEnd rg (1 + n * 4) W) := k4.trans' fe
      have hrg := hr.low _ hr.self
      have hkne : ∀ k, (Value.slice ko 32 kc).ownBlock = some k → k ≠ rg := fun k hk e => by have := k3 k hk; omega
      have hrow : RowAt 5 ByteR (onceEnd rg (1 + n * 4) W) (.slice ko 32 kc) (tenantK master n) := k2.fr fe (fun k hk e => hkne k hk e)
      have hl4 : n < (ts.set n (⟨1, 0, 0, .slice ko 32 kc⟩ : Ten)).length := by rw [List.length_set]; exact hnl
      have hc := (ring_cell b2 hl4 (j := 3) (by omega)).1
      rw [List.getElem_set_self] at hc
      refine ⟨rfl, fun k => F k ∨ (Value.slice ko 32 kc).ownBlock = some k, ⟨mo, mc, _, ko, kc, ⟨b2, hr.mas.fr fall (fun b off e => (hr.mne _ e).1), fun a e => ⟨(hr.mne a e).1, .inl (hr.mne a e).2⟩, by rw [List.length_set]; exact hr.len, fun i hi => ?_, .inl hr.self, ?_⟩, hc, hrow⟩, ⟨fall.mono (fun k hk => by rw [hk]; exact hr.self), fun k hk => hk.imp id (k3 k)⟩, fall⟩
      · by_cases e : i = n
        · subst e
          rw [List.getElem_set_self]
          exact .inr ⟨ko, kc, rfl, rfl, hrow, fun k hk => ⟨hkne k hk, .inr hk⟩⟩
        · rw [List.getElem_set_ne (fun z => e z.symm)]
          rw [List.length_set] at hi
          refine (hr.each i hi).imp id ?_
          rintro ⟨ko', kc', j1, j2, j3, j4⟩
          exact ⟨ko', kc', j1, j2, j3.fr fall (fun k hk => (j4 k hk).1), fun k hk => ⟨(j4 k hk).1, .inl (j4 k hk).2⟩⟩
      · rintro k (hk | hk)
        · exact Nat.lt_of_lt_of_le (hr.low k hk) fall.size
        · exact hrow.lt k hk
  · have hd : w.cell? ⟨rg, 1 + n * 4, none⟩ = some (.int .u32 1) := by
      have := hd0.1
      rw [show (ts[n].cells)[0]? = some (.int .u32 ts[n].d) from rfl, t1] at this
      exact this
    have hc := (ring_cell hr.box hnl (j := 3) (by omega)).1
    rw [show (ts[n].cells)[3]? = some ts[n].v from rfl, t2] at hc
    refine (do_done ⟨rg, 1 + n * 4, none⟩ 1 (by decide) _ w hd).mono ?_
    rintro e w' ⟨rfl, rfl⟩
    exact ⟨rfl, F, ⟨mo, mc, ts, ko, kc, hr, hc, t3⟩, Step.refl F w, Fr.refl _ w⟩
end Go.Proofs.YthabllnhlhkejaaGreatDoor
namespace Go.Proofs.YthabllnhlhkejaaGreatDoor
open Go.RowKit

def versionW : ByteArray := ⟨#[118, 101, 114, 115, 105, 111, 110]⟩
/-- a tenant's key -/
def keyK (master : List UInt8) (n : Nat) (p : Int) (v : Nat) : List UInt8 := foldK (tenantK master n) [labB (nameOf p), labB versionW, labB (itoa v)]
theorem keyK_len (master : List UInt8) (n : Nat) (p : Int) (v : Nat) : (keyK master n p v).length = 32 := by
  show (foldK (tenantK master n) ([labB (nameOf p), labB versionW] ++ [labB (itoa v)])).length = 32
  rw [foldK_snoc, mac_len]
theorem nameOf_size (p : Int) : (nameOf p).size ≤ 5 := by
  unfold nameOf
  split <;> decide
def RKeyP (rg : Nat) (master x : List UInt8) (F : Nat → Prop) (w : World) (e : Ending) (w' : World) : Prop := ∃ (s : SV) (F' : Nat → Prop), e = .returned (.tuple #[s.val, .int .i64 0]) ∧ s.n = 32 ∧ RowAt 5 ByteR w' s.val x ∧ RingT rg master w' F' ∧ Step F F' w w' ∧ ∀ k, s.val.ownBlock = some k → w.heap.size ≤ k ∧ ¬ F' k
set_option maxRecDepth 100000 in
set_option maxHeartbeats 3200000 in
theorem rkey_any {w : World} {F : Nat → Prop} {rg n v : Nat} {p : Int} {master : List UInt8} (h : RingT rg master w F) (hml : master.length ≤ 64) (h1 : 1 ≤ n) (hn : n ≤ 64) (hp : p = 2 ∨ p = 3) (hv1 : 1 ≤ v) (hv : v < 100) :
    Calls Tryz.prog 35 #[.pointer (some ⟨rg, 0, none⟩), .int .i64 (n : Int), .int .i64 p, .int .i64 (v : Int)] w (RKeyP rg master (keyK master n p v) F w) := by
  have HN := Lib.hid (fun W => name_any p hp W)
  have HR := Lib.hid h
  obtain ⟨p0, hp0⟩ : ∃ p0, w.heap.size = p0 := ⟨_, rfl⟩
  have hrg : rg < p0 := by
    obtain ⟨mo, mc, ts, hr⟩ := h
    rw [← hp0]
    exact hr.low _ hr.self
  have hmt : ∀ W : World, (.makeFunc (.func 60) #[] #[.tmp 4, .tmp 5, .tmp 12] : Op) = (.makeFunc (.func 60) #[] #[.tmp 4, .tmp 5, .tmp 12] : Op) := fun _ => rfl
  clear hmt h
  have q1 : (1 : Int) ≤ (n : Int) := by omega
  have q2 : (n : Int) ≤ 64 := by omega
  have q3 : (1 : Int) ≤ (v : Int) := by omega
  have q4 : (v : Int) ≤ 255 := by omega
  have q5 : (n : Int) < 65 := by omega
  have q6 : (0 : Int) ≤ (n : Int) := by omega
  unfold RKeyP
  go_enter Tryz.func35, Tryz.ntmps35
  go_wp2_with fail
  refine (HN.out _).mono ?_
  rintro e w1 ⟨rfl, hf⟩
  have ha1 := (Fr.refl noBlock w).alloc (.cells #[.pointer (some ⟨rg, 0, none⟩)] 74)
  have hs1 : (w.alloc (.cells #[.pointer (some ⟨rg, 0, none⟩)] 74)).heap.size = p0 + 1 := by rw [← hp0]; simp
  have c0 : w1.cell? ⟨p0, 0, none⟩ = some (.pointer (some ⟨rg, 0, none⟩)) := by
    rw [← hp0]
    exact cell_of (hf.obj (heap_old _ (heap_new w _)) (fun z => z)) 0
  have c1 : w1.cell? ⟨p0 + 1, 0, none⟩ = some (.int .i64 (n : Int)) := by
    have := heap_new (w.alloc (.cells #[.pointer (some ⟨rg, 0, none⟩)] 74)) (.cells #[.int .i64 (n : Int)] 3)
    rw [hs1] at this
    exact cell_of (hf.obj this (fun z => z)) 0
  have H1 := Lib.hid (show Fr noBlock w w1 from (ha1.alloc _).trans' hf)
  have hs2 : p0 + 1 < w1.heap.size := World.block_lt_of_cell? _ _ c1
  clear hf ha1 HN
  go_upto_region 4 with fail
  have HKp := Lib.hid (show ∀ W, Fr noBlock w1 W → W.cell? ⟨p0, 0, none⟩ = some (.pointer (some ⟨rg, 0, none⟩)) ∧ W.cell? ⟨p0 + 1, 0, none⟩ = some (.int .i64 (n : Int)) from fun W hf => ⟨(hf.cell (p := ⟨p0, 0, none⟩) (World.block_lt_of_cell? _ _ c0) (fun z => z)).trans c0, (hf.cell (p := ⟨p0 + 1, 0, none⟩) (World.block_lt_of_cell? _ _ c1) (fun z => z)).trans c1⟩)
  go_region_held3 (fun W => W.cell? ⟨p0, 0, none⟩ = some (.pointer (some ⟨rg, 0, none⟩)) ∧ W.cell? ⟨p0 + 1, 0, none⟩ = some (.int .i64 (n : Int)))
    (first | exact HKp.out _ (by repeat (first | (with_reducible exact Fr.refl _ _) | (with_reducible refine Fr.drew ?_) | (with_reducible refine Fr.alloc ?_ _) | (with_reducible refine Fr.setCell ?_ (.inr (by simp)) _))) | fail "nokeep")
    (fail "noarm")
  all_goals
    obtain ⟨p2, hp2⟩ : ∃ p2, w1.heap.size = p2 := ⟨_, rfl⟩
    obtain ⟨w2, hw2⟩ : ∃ w2, (w1.alloc (.cells #[.pointer (some ⟨rg, 1 + n * 4, none⟩)] 124)).drew = w2 := ⟨_, rfl⟩
    rw [hp2, hw2]
    have hf2 : Fr noBlock w1 w2 := by rw [← hw2]; exact ((Fr.refl noBlock w1).alloc _).drew
    have d2 : w2.cell? ⟨p2, 0, none⟩ = some (.pointer (some ⟨rg, 1 + n * 4, none⟩)) := by
      rw [← hw2, World.cell?_drew, ← hp2]
      exact cell_of (heap_new w1 _) 0
    obtain ⟨d0, d1⟩ := HKp.out _ hf2
    have HD := Lib.hid (ring_do (p0 := p0) (p1 := p0 + 1) (p2 := p2) (n := n) (RingT.ok.fr0 HR.out (H1.out.trans' hf2)) hml (by omega) d0 d1 d2 (by omega) (by omega) (by omega))
    have H2 := Lib.hid (H1.out.trans' hf2)
    have hp2s := World.block_lt_of_cell? _ _ d2
    have hrw : rg < w.heap.size := by omega
    have hp2n : p2 ≠ rg := by omega
    have HD2 := Lib.hid d2
    clear c0 c1 d0 d1 HKp hf2 hw2 HR
    go_wp2_with fail
    refine HD.out.mono ?_
    rintro e w3 ⟨rfl, F', ⟨mo, mc, ts, ko, kc, k1, k2, k3⟩, k4, k5⟩
    have d2' := (k5.cell (p := ⟨p2, 0, none⟩) hp2s hp2n).trans HD2.out
    have HRr := Lib.hid (And.intro k1 (And.intro k3 (And.intro k4 (And.intro k5 (show 1 + n * 4 + 3 = 1 + n * 4 + 3 from rfl)))))
    clear k1 k3 k4 k5 HD d2 HD2
    go_upto_region 6 with fail
    have HI := Lib.hid (fun W => Tryz.strconv_Itoa_small v hv W)
    have HKq := Lib.hid (show ∀ W, Fr noBlock w3 W → W.cell? ⟨p2, 0, none⟩ = some (.pointer (some ⟨rg, 1 + n * 4, none⟩)) ∧ W.cell? ⟨rg, 1 + n * 4 + 3, none⟩ = some (.slice ko 32 kc) from fun W hf => ⟨(hf.cell (p := ⟨p2, 0, none⟩) (World.block_lt_of_cell? _ _ d2') (fun z => z)).trans d2', (hf.cell (p := ⟨rg, 1 + n * 4 + 3, none⟩) (World.block_lt_of_cell? _ _ k2) (fun z => z)).trans k2⟩)
    have HFo := Lib.hid (show ∀ (g : Nat) (W : World), Fr noBlock w3 W → W.heap[g]? = some (.cells #[.string (nameOf p), .string versionW, .string (itoa v)] 9 (0, 0)) → Calls Tryz.prog 61 #[.slice ko 32 kc, .slice (some ⟨g, 0, none⟩) 3 3] W (ShaP (keyK master n p v) W) from fun g W hW hg => by
      have hr : RowRd LabR W (some ⟨g, 0, none⟩) [nameOf p, versionW, itoa v] := RowRd.of_flat hg rfl (by unfold maxLen; simp)
      have hsz : ∀ s ∈ [nameOf p, versionW, itoa v], s.size ≤ 100000000000 := by
        intro s hs
        have h1 := itoa_size hv
        have h2 : versionW.size = 7 := rfl
        have h3 := nameOf_size p
        simp only [List.mem_cons, List.not_mem_nil, or_false] at hs
        rcases hs with rfl | rfl | rfl <;> omega
      have hkl : (tenantK master n).length = 32 := tenantK_len _ _
      have h := fold_any ((RowAt.rd HRr.out.2.1).fr0 hW) kc (by omega) hr 3 hsz (by simp)
      rw [hkl] at h
      exact h)
    unfold ShaP at HFo
    unfold itoa versionW at HFo
    go_region_held3 (fun W => W.cell? ⟨p2, 0, none⟩ = some (.pointer (some ⟨rg, 1 + n * 4, none⟩)) ∧ W.cell? ⟨rg, 1 + n * 4 + 3, none⟩ = some (.slice ko 32 kc))
      (first | exact HKq.out _ (by repeat (first | (with_reducible exact Fr.refl _ _) | (with_reducible refine Fr.drew ?_) | (with_reducible refine Fr.alloc ?_ _) | (with_reducible exact F5))) | fail "nokeep")
      (first
        | (go_at_call 36; (with_reducible refine (HI.out _).mono ?_); rintro e w' ⟨rfl, rfl⟩)
        | (go_at_call 61; (with_reducible refine (HFo.out _ _ (by repeat (first | (with_reducible exact Fr.refl _ _) | (with_reducible refine Fr.drew ?_) | (with_reducible refine Fr.alloc ?_ _))) (((Fr.refl noBlock _).drew).obj (heap_new w3 _) (fun z => z))).mono ?_); rintro e w5 ⟨⟨xa, xn, xc⟩, rfl, k1, k2, k3, k4⟩; unfold SV.val at k2 k4 ⊢; dsimp only at k1 k2 k4 ⊢; rw [keyK_len] at k1; subst k1; have F5 : Fr noBlock w3 w5 := (((Fr.refl noBlock w3).alloc _).drew).trans' k3)
        | fail "noarm")
    all_goals
      have hkn : ∀ k, (Value.slice xa 32 xc).ownBlock = some k → w3.heap.size ≤ k := fun k hk => by
        have := k4 k hk
        simp at this
        omega
      have HE := Lib.hid (And.intro k2 (And.intro F5 hkn))
      clear k2 k3 k4 F5 hkn
      go_wp2_with fail
      go_ret2
      obtain ⟨hr3, hrow, hst, hfr, -⟩ := HRr.out
      have hst3 : Step F F' w w3 := ⟨(H2.out.mono (fun _ z => z.elim)).trans' hst.fr, fun k hk => (hst.foot k hk).imp id (fun hle => Nat.le_trans H2.out.size hle)⟩
      exact ⟨⟨xa, 32, xc⟩, F', rfl, rfl, HE.out.1, ⟨mo, mc, ts, hr3.fr0 HE.out.2.1⟩, hst3.news HE.out.2.1 (fun _ z => z.elim), fun k hk => ⟨Nat.le_trans hst3.size (HE.out.2.2 k hk), fun e => by have h1 := hr3.low k e; have h2 := HE.out.2.2 k hk; omega⟩⟩
end Go.Proofs.YthabllnhlhkejaaGreatDoor
namespace Go.Proofs.YthabllnhlhkejaaGreatDoor
open Go.RowKit

/-- a tenant's seals: its Once (done, the lock), its keys, what it is about -/
structure Sl where
  d : Int
  s : Int
  q : Int
  e : SV
  t : SV
  a : SV
def SV.none : SV := ⟨Option.none, 0, 0⟩
def SealR : Rec Sl := ⟨6, fun x => [.int .u32 x.d, .int .i32 x.s, .int .u32 x.q, x.e.val, x.t.val, x.a.val], fun _ => rfl, fun x u hu => by
  simp only [List.mem_cons, List.not_mem_nil, or_false] at hu
  rcases hu with rfl | rfl | rfl | rfl | rfl | rfl <;> rfl⟩
theorem sealK : SealR.k = 6 := rfl
def slFresh : Sl := ⟨0, 0, 0, SV.none, SV.none, SV.none⟩
def storeW : ByteArray := ⟨#[115, 116, 111, 114, 101]⟩
def aboutB (n : Nat) : List UInt8 := labB (storeW ++ itoa n)
theorem aboutB_len {n : Nat} (h : n < 100) : (aboutB n).length ≤ 25 := by
  unfold aboutB
  rw [labB_len, ByteArray.size_append]
  have h1 := itoa_size h
  have h2 : storeW.size = 5 := rfl
  omega
/-- three rows of bytes lie in blocks of X -/
def SlRows (W : World) (master : List UInt8) (X : Nat → Prop) (n : Nat) (x : Sl) : Prop :=
  (x.e.n = 32 ∧ RowRd ByteR W x.e.ao (keyK master n 2 1) ∧ ∀ a, x.e.ao = some a → X a.block) ∧ (x.t.n = 32 ∧ RowRd ByteR W x.t.ao (keyK master n 3 1) ∧ ∀ a, x.t.ao = some a → X a.block) ∧ (x.a.n = (aboutB n).length ∧ RowRd ByteR W x.a.ao (aboutB n) ∧ ∀ a, x.a.ao = some a → X a.block)
theorem SlRows.fr {S X : Nat → Prop} {W W' : World} {master : List UInt8} {n : Nat} {x : Sl} (h : SlRows W master X n x) (hf : Fr S W W') (hs : ∀ k, X k → ¬ S k) : SlRows W' master X n x :=
  ⟨⟨h.1.1, h.1.2.1.fr hf (fun b off e => hs _ (h.1.2.2 _ e)), h.1.2.2⟩, ⟨h.2.1.1, h.2.1.2.1.fr hf (fun b off e => hs _ (h.2.1.2.2 _ e)), h.2.1.2.2⟩, ⟨h.2.2.1, h.2.2.2.1.fr hf (fun b off e => hs _ (h.2.2.2.2 _ e)), h.2.2.2.2⟩⟩
theorem SlRows.mono {X Y : Nat → Prop} {W : World} {master : List UInt8} {n : Nat} {x : Sl} (h : SlRows W master X n x) (hs : ∀ k, X k → Y k) : SlRows W master Y n x :=
  ⟨⟨h.1.1, h.1.2.1, fun a e => hs _ (h.1.2.2 a e)⟩, ⟨h.2.1.1, h.2.1.2.1, fun a e => hs _ (h.2.1.2.2 a e)⟩, ⟨h.2.2.1, h.2.2.2.1, fun a e => hs _ (h.2.2.2.2 a e)⟩⟩
def SlOk (W : World) (master : List UInt8) (X : Nat → Prop) (n : Nat) (x : Sl) : Prop := x = slFresh ∨ (x.d = 1 ∧ SlRows W master X n x)
def Sobj (j rg tenants pages sg sc : Nat) : Obj := .cells #[.pointer (some ⟨j, 0, none⟩), .pointer (some ⟨rg, 0, none⟩), .int .i64 (tenants : Int), .int .i64 (pages : Int), .slice (some ⟨sg, 0, none⟩) (tenants + 1) sc] 77 (0, 0)
/-- the store's own part; x: the tenant whose seals are being made -/
structure SealsIn (sp j rg : Nat) (master : List UInt8) (tenants pages : Nat) (x : Nat) (W : World) (G R : Nat → Prop) (sg sc : Nat) (ls : List Sl) : Prop where
  box : W.heap[sp]? = some (Sobj j rg tenants pages sg sc)
  row : RowAt 71 SealR W (.slice (some ⟨sg, 0, none⟩) (tenants + 1) sc) ls
  ring : RingT rg master W R
  ne : sp ≠ sg
  ap : ¬ R sp ∧ ¬ R sg
  each : ∀ i (h : i < ls.length), i ≠ x → SlOk W master (fun k => G k ∧ ¬ R k ∧ k ≠ sp ∧ k ≠ sg) i ls[i]
  self : G sp ∧ G sg
  sub : ∀ k, R k → G k
  low : ∀ k, G k → k < W.heap.size
namespace SealsIn
variable {sp j rg tenants pages x sg sc : Nat} {master : List UInt8} {W W' : World} {G R R' : Nat → Prop} {ls : List Sl}
theorem len (h : SealsIn sp j rg master tenants pages x W G R sg sc ls) : ls.length = tenants + 1 := h.row.len.symm
theorem fr {S : Nat → Prop} (h : SealsIn sp j rg master tenants pages x W G R sg sc ls) (hf : Fr S W W') (hs : ∀ k, G k → ¬ S k) : SealsIn sp j rg master tenants pages x W' G R sg sc ls :=
  ⟨hf.obj h.box (hs _ h.self.1), h.row.fr hf (fun k hk => by cases hk; exact hs _ h.self.2), RingT.ok.fr h.ring hf (fun k hk => hs _ (h.sub k hk)), h.ne, h.ap, fun i hi hx => (h.each i hi hx).imp id (fun z => ⟨z.1, z.2.fr hf (fun k hk => hs _ hk.1)⟩), h.self, h.sub, fun k hk => Nat.lt_of_lt_of_le (h.low k hk) hf.size⟩
theorem fr0 (h : SealsIn sp j rg master tenants pages x W G R sg sc ls) (hf : Fr noBlock W W') : SealsIn sp j rg master tenants pages x W' G R sg sc ls := h.fr hf (fun _ _ z => z)
/-- more blocks -/
theorem mono {G' : Nat → Prop} (h : SealsIn sp j rg master tenants pages x W G R sg sc ls) (hs : ∀ k, G k → G' k) (hl : ∀ k, G' k → k < W.heap.size) : SealsIn sp j rg master tenants pages x W G' R sg sc ls :=
  ⟨h.box, h.row, h.ring, h.ne, h.ap, fun i hi hx => (h.each i hi hx).imp id (fun z => ⟨z.1, z.2.mono (fun k hk => ⟨hs k hk.1, hk.2⟩)⟩), ⟨hs _ h.self.1, hs _ h.self.2⟩, fun k hk => hs k (h.sub k hk), hl⟩
/-- the ring made a step -/
theorem ringStep (h : SealsIn sp j rg master tenants pages x W G R sg sc ls) (hr : RingT rg master W' R') (hs : Step R R' W W') : SealsIn sp j rg master tenants pages x W' (fun k => G k ∨ R' k) R' sg sc ls := by
  have key : ∀ k, G k → ¬ R k → ¬ R' k := fun k hk hn e => (hs.foot k e).elim hn (fun hle => by have := h.low k hk; omega)
  exact ⟨hs.fr.obj h.box h.ap.1, h.row.fr hs.fr (fun k hk => by cases hk; exact h.ap.2), hr, h.ne, ⟨key _ h.self.1 h.ap.1, key _ h.self.2 h.ap.2⟩, fun i hi hx => (h.each i hi hx).imp id (fun z => ⟨z.1, (z.2.fr hs.fr (fun k hk => hk.2.1)).mono (fun k hk => ⟨.inl hk.1, key k hk.1 hk.2.1, hk.2.2⟩)⟩), ⟨.inl h.self.1, .inl h.self.2⟩, fun k hk => .inr hk, fun k hk => hk.elim (fun hk => Nat.lt_of_lt_of_le (h.low k hk) hs.fr.size) (fun hk => RingT.ok.lt hr k hk)⟩
/-- a cell of the seals that are being made is written -/
theorem put (h : SealsIn sp j rg master tenants pages x W G R sg sc ls) (hx : x < ls.length) {c : Nat} (hc : c < 6) (u : Value) (y : Sl) (hy : SealR.cells y = (SealR.cells ls[x]).set c u) : SealsIn sp j rg master tenants pages x (W.setCell ⟨sg, x * 6 + c, none⟩ u) G R sg sc (ls.set x y) := by
  have hf : Fr (fun k => k = sg) W (W.setCell ⟨sg, x * 6 + c, none⟩ u) := fr_set_at (Fr.refl _ W) _ _
  refine ⟨hf.obj h.box h.ne, ?_, RingT.ok.fr h.ring hf (fun k hk e => h.ap.2 (by rw [← e]; exact hk)), h.ne, h.ap, fun i hi hne => ?_, h.self, h.sub, fun k hk => Nat.lt_of_lt_of_le (h.low k hk) hf.size⟩
  · have := h.row.set (u := u) hx (j := c) (by rw [sealK]; exact hc) y hy
    rw [sealK] at this
    exact this
  · rw [List.getElem_set_ne (fun e => hne e.symm)]
    rw [List.length_set] at hi
    exact (h.each i hi hne).imp id (fun z => ⟨z.1, z.2.fr hf (fun k hk => hk.2.2.2)⟩)
theorem cell (h : SealsIn sp j rg master tenants pages x W G R sg sc ls) {i : Nat} (hi : i < ls.length) {c : Nat} {u : Value} (hu : (SealR.cells ls[i])[c]? = some u) : W.cell? ⟨sg, i * 6 + c, none⟩ = some u ∧ W.frozen? ⟨sg, i * 6 + c, none⟩ = false := by
  obtain ⟨g, e, _, _, _, h1, h2⟩ := h.row.elem hi
  cases e
  have := h1 c u hu
  rw [sealK] at this
  exact ⟨this, h2 _⟩
/-- the seals that were being made are made -/
theorem close (h : SealsIn sp j rg master tenants pages x W G R sg sc ls) (hx : x < ls.length) (hk : SlOk W master (fun k => G k ∧ ¬ R k ∧ k ≠ sp ∧ k ≠ sg) x ls[x]) (y : Nat) : SealsIn sp j rg master tenants pages y W G R sg sc ls :=
  ⟨h.box, h.row, h.ring, h.ne, h.ap, fun i hi _ => by
    by_cases e : i = x
    · subst e; exact hk
    · exact h.each i hi e, h.self, h.sub, h.low⟩
theorem head (h : SealsIn sp j rg master tenants pages x W G R sg sc ls) : W.cell? ⟨sp, 0, none⟩ = some (.pointer (some ⟨j, 0, none⟩)) ∧ W.cell? ⟨sp, 1, none⟩ = some (.pointer (some ⟨rg, 0, none⟩)) ∧ W.cell? ⟨sp, 2, none⟩ = some (.int .i64 (tenants : Int)) ∧ W.cell? ⟨sp, 3, none⟩ = some (.int .i64 (pages : Int)) ∧ W.cell? ⟨sp, 4, none⟩ = some (.slice (some ⟨sg, 0, none⟩) (tenants + 1) sc) :=
  ⟨cell_of h.box 0, cell_of h.box 1, cell_of h.box 2, cell_of h.box 3, cell_of h.box 4⟩
end SealsIn
def SealsT (sp j rg sg : Nat) (master : List UInt8) (tenants pages : Nat) : Thing := fun W G => ∃ R sc ls, SealsIn sp j rg master tenants pages (tenants + 1) W G R sg sc ls
theorem SealsT.ok {sp j rg sg tenants pages : Nat} {master : List UInt8} : (SealsT sp j rg sg master tenants pages).Ok := by
  refine ⟨?_, ?_⟩
  · rintro w F ⟨R, sc, ls, h⟩ k hk
    exact h.low k hk
  · rintro w w' F S ⟨R, sc, ls, h⟩ hf hs
    exact ⟨R, sc, ls, h.fr hf hs⟩
end Go.Proofs.YthabllnhlhkejaaGreatDoor
