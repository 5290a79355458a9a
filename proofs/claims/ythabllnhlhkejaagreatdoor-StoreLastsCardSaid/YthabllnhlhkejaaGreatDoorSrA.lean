/-
  StoreFresh: the walk.
-/
import Derived.Test.YthabllnhlhkejaaGreatDoorSpB
import Derived.Test.YthabllnhlhkejaaGreatDoorSoH
namespace Go.Proofs.YthabllnhlhkejaaGreatDoor
open Go.RowKit

theorem infoSeal : (Tryz.prog.info? 71).map (fun i => (i.zero, i.size, i.bytes)) = some (some (.agg #[.int .u32 0, .int .i32 0, .int .u32 0, .slice none 0 0, .slice none 0 0, .slice none 0 0]), 6, 88) := by kernel_rfl
def zSeal : Array Value := #[.int .u32 0, .int .i32 0, .int .u32 0, .slice none 0 0, .slice none 0 0, .slice none 0 0]
theorem made_seals (n : Nat) : (madeCells zSeal (n * 6)).toList = SealR.flat (List.replicate n slFresh) := by
  apply List.ext_getElem?
  intro i
  by_cases hi : i < n * 6
  · have h6 : i % 6 < 6 := by omega
    have hq : i / 6 < (List.replicate n slFresh).length := by rw [List.length_replicate]; omega
    have hr := SealR.flat_get hq (j := i % 6) h6
    rw [sealK, show i / 6 * 6 + i % 6 = i by omega, List.getElem_replicate] at hr
    rw [hr]
    have hl : (madeCells zSeal (n * 6)).toList[i]? = some (zSeal[i % 6]!) := by
      rw [Array.getElem?_toList]
      unfold madeCells
      rw [Array.getElem?_map, Array.getElem?_range, if_pos hi]
      rfl
    rw [hl]
    obtain ⟨k, hk⟩ : ∃ k, i % 6 = k := ⟨_, rfl⟩
    rw [hk] at h6 ⊢
    rcases (show k = 0 ∨ k = 1 ∨ k = 2 ∨ k = 3 ∨ k = 4 ∨ k = 5 by omega) with rfl | rfl | rfl | rfl | rfl | rfl <;> rfl
  · rw [List.getElem?_eq_none (by rw [Array.length_toList, size_madeCells]; omega), List.getElem?_eq_none (by rw [SealR.flat_len, List.length_replicate, sealK]; omega)]
theorem mk_seals (n : Nat) (hn : n ≤ 65) : ∃ Z : Array Value, Z.toList = SealR.flat (List.replicate n slFresh) ∧ ∀ W : World, (Instr.makeSlice 75 (.int .i64 (n : Int)) (.int .i64 (n : Int))).run Tryz.prog W = .ok (.slice (some ⟨W.heap.size, 0, none⟩) n n) (W.alloc (.cells Z 71)) := by
  obtain ⟨i, hi, hz, hs, hby⟩ := info_parts infoSeal
  refine ⟨madeCells zSeal (n * 6), made_seals n, fun W => ?_⟩
  have := run_make W 75 71 i _ Tryz.underlying75 hi hz .i64 .i64 n n (by omega) (by omega) (by rw [hby]; omega) (by omega)
  rw [this, hs, Int.toNat_natCast]
  rfl
/-- a new ring, as a thing -/
theorem ring_new {w' : World} {rg : Nat} {ko : Option Addr} {kc : Nat} {key : List UInt8} (h1 : w'.heap[rg]? = some (ringO (.slice ko key.length kc) tens0)) (h2 : RowRd ByteR w' ko key) (h0 : 0 < key.length) (h3 : ∀ a, ko = some a → a.block ≠ rg) : RingT rg key w' (fun k => k = rg ∨ ∃ a, ko = some a ∧ a.block = k) := by
  refine ⟨ko, kc, tens0, h1, h2, fun a e => ⟨h3 a e, .inr ⟨a, e, rfl⟩⟩, by simp [tens0], fun n hn => .inl ?_, .inl rfl, ?_⟩
  · exact List.getElem_replicate hn
  · rintro k (rfl | ⟨a, e, rfl⟩)
    · exact heap_lt h1
    · obtain ⟨b, off, e', hb, _⟩ := h2.at' 0 h0
      rw [e] at e'
      cases e'
      exact hb
/-- a new store -/
theorem seals_new {W : World} {R : Nat → Prop} {j rg tenants pages : Nat} {master : List UInt8} {Z : Array Value} (hr : RingT rg master W R) (hZ : Z.toList = SealR.flat (List.replicate (tenants + 1) slFresh)) (ht : tenants ≤ 64) :
    SealsT (W.heap.size + 1) j rg W.heap.size master tenants pages ((W.alloc (.cells Z 71)).alloc (Sobj j rg tenants pages W.heap.size (tenants + 1))) (fun k => R k ∨ k = W.heap.size ∨ k = W.heap.size + 1) := by
  have ha := (Fr.refl noBlock W).alloc (.cells Z 71)
  have hs : (W.alloc (.cells Z 71)).heap.size = W.heap.size + 1 := by simp
  have hb := ha.alloc (Sobj j rg tenants pages W.heap.size (tenants + 1))
  have hRl : ∀ k, R k → k < W.heap.size := RingT.ok.lt hr
  have hrow : RowAt 71 SealR (W.alloc (.cells Z 71)) (.slice (some ⟨W.heap.size, 0, none⟩) (tenants + 1) (tenants + 1)) (List.replicate (tenants + 1) slFresh) := by
    have h := RowAt.of_block (E := 71) (R := SealR) (w := W.alloc (.cells Z 71)) (g := W.heap.size) (cap := tenants + 1) (cur := Z) (xs := List.replicate (tenants + 1) slFresh) (heap_new W _) (by rw [List.length_replicate]; exact Nat.le_refl _) (by unfold maxLen; omega) (by
      have := congrArg List.length hZ
      rw [Array.length_toList, SealR.flat_len, List.length_replicate] at this
      exact this) (by rw [hZ]; exact List.take_of_length_le (by rw [SealR.flat_len]; exact Nat.le_refl _))
    rw [List.length_replicate] at h
    exact h
  have hbox := heap_new (W.alloc (.cells Z 71)) (Sobj j rg tenants pages W.heap.size (tenants + 1))
  rw [hs] at hbox
  refine ⟨R, tenants + 1, _, ⟨hbox, hrow.fr0 ((Fr.refl noBlock _).alloc _), RingT.ok.fr0 hr hb, by omega, ⟨fun e => by have := hRl _ e; omega, fun e => by have := hRl _ e; omega⟩, fun i hi _ => .inl (by rw [List.getElem_replicate]), ⟨.inr (.inr rfl), .inr (.inl rfl)⟩, fun k hk => .inl hk, ?_⟩⟩
  have hsz : ((W.alloc (.cells Z 71)).alloc (Sobj j rg tenants pages W.heap.size (tenants + 1))).heap.size = W.heap.size + 2 := by simp
  rw [hsz]
  rintro k (hk | rfl | rfl)
  · have := hRl k hk; omega
  · omega
  · omega
/-- a store on a disk: its parts -/
def StoreIn (sp j rg sg L : Nat) (master : List UInt8) (tenants pages : Nat) (d : DK) (bad : Int) : Thing := fun W F => ∃ G H, JAt j L d bad W H ∧ SealsT sp j rg sg master tenants pages W G ∧ (∀ k, G k → ¬ H k) ∧ ∀ k, F k ↔ (G k ∨ H k)
theorem StoreIn.ok {sp j rg sg L tenants pages : Nat} {master : List UInt8} {d : DK} {bad : Int} : (StoreIn sp j rg sg L master tenants pages d bad).Ok := by
  refine ⟨?_, ?_⟩
  · rintro w F ⟨G, H, h1, h2, h3, h4⟩ k hk
    exact ((h4 k).1 hk).elim (SealsT.ok.lt h2 k) (JAt.ok.lt h1 k)
  · rintro w w' F S ⟨G, H, h1, h2, h3, h4⟩ hf hs
    exact ⟨G, H, JAt.ok.fr h1 hf (fun k hk => hs k ((h4 k).2 (.inr hk))), SealsT.ok.fr h2 hf (fun k hk => hs k ((h4 k).2 (.inl hk))), h3, h4⟩
def SOpenP (L : Nat) (master : List UInt8) (tenants pages : Nat) (d : DK) (F : Nat → Prop) (w : World) (e : Ending) (w' : World) : Prop :=
  ((openR d).2 = 0 ∧ ∃ sp j rg sg F', e = .returned (.tuple #[.pointer (some ⟨sp, 0, none⟩), .int .i64 0]) ∧ StoreIn sp j rg sg L master tenants pages (openR d).1 0 w' F' ∧ Step F F' w w') ∨
  ((openR d).2 ≠ 0 ∧ ∃ F', e = .returned (.tuple #[.pointer none, .int .i64 (openR d).2]) ∧ DiskAt L (openR d).1 w' F' ∧ Step F F' w w')
set_option maxRecDepth 100000 in
set_option maxHeartbeats 3200000 in
theorem sopen_any {L : Nat} {d : DK} {w : World} {F : Nat → Prop} {tenants pages : Nat} {master : List UInt8} {mo : Option Addr} (h : DiskAt L d w F) (hm : RowRd ByteR w mo master) (mc : Nat) (hm16 : 16 ≤ master.length) (hm64 : master.length ≤ 64) (ht1 : 1 ≤ tenants) (ht : tenants ≤ 64) (hp1 : 1 ≤ pages) (hp : pages ≤ 8) (hroom : tenants * pages + 9 ≤ d.safe.length) :
    Calls Tryz.prog 15 #[.pointer (some ⟨L, 0, none⟩), .slice mo master.length mc, .int .i64 (tenants : Int), .int .i64 (pages : Int)] w (SOpenP L master tenants pages d F w) := by
  have HN := Lib.hid (rnew_any hm mc hm16 hm64)
  unfold RNewP at HN
  have HD := Lib.hid h
  have hn1 := h.good.n1
  obtain ⟨Z, hZ, hmk⟩ := mk_seals (tenants + 1) (by omega)
  have hmk' : ∀ W : World, (Instr.makeSlice 75 (.int .i64 ((tenants : Int) + 1)) (.int .i64 ((tenants : Int) + 1))).run Tryz.prog W = .ok (.slice (some ⟨W.heap.size, 0, none⟩) (tenants + 1) (tenants + 1)) (W.alloc (.cells Z 71)) := fun W => by
    have := hmk W
    rw [show (((tenants + 1 : Nat)) : Int) = (tenants : Int) + 1 by omega] at this
    exact this
  have HZ := Lib.hid hZ
  obtain ⟨sn, hsn⟩ : ∃ sn, d.safe.length = sn := ⟨_, rfl⟩
  obtain ⟨tp, htp⟩ : ∃ tp, tenants * pages = tp := ⟨_, rfl⟩
  rw [hsn] at hn1 hroom
  rw [htp] at hroom
  have e1 : (tenants : Int) * (pages : Int) = (tp : Int) := by rw [← htp]; simp
  have HSn := Lib.hid hsn
  have q1 : (1 : Int) ≤ (tenants : Int) := by omega
  have q2 : (tenants : Int) ≤ 64 := by omega
  have q3 : (1 : Int) ≤ (pages : Int) := by omega
  have q4 : (pages : Int) ≤ 8 := by omega
  have q5 : wrap64 ((sn : Int) - 8) = (sn : Int) - 8 := by unfold wrap64; omega
  have q6 : wrap64 ((sn : Int) - 8 - 1) = (sn : Int) - 8 - 1 := by unfold wrap64; omega
  have q7 : wrap64 ((tenants : Int) * (pages : Int)) = (tp : Int) := by rw [e1]; unfold wrap64; omega
  have q8 : (tp : Int) ≤ (sn : Int) - 8 - 1 := by omega
  have q9 : wrap64 ((tenants : Int) + 1) = (tenants : Int) + 1 := by unfold wrap64; omega
  have hmpos : 0 < master.length := by omega
  have HMp := Lib.hid hmpos
  have HT := Lib.hid ht
  clear hmk h hm hm16 hm64 ht1 ht hp1 hp hZ hsn htp e1 hmpos
  go_enter Tryz.func15, Tryz.ntmps15
  go_wp2_with fail
  refine HN.out.mono ?_
  rintro e w1 ⟨rg, ko, kc, rfl, h1, h2, h3, h4, h5⟩
  obtain ⟨R, HR⟩ : ∃ R : Nat → Prop, Hid (RingT rg master w1 R ∧ (∀ k, R k → w.heap.size ≤ k) ∧ Fr noBlock w w1) := by
    refine ⟨_, Lib.hid ⟨ring_new h1 h2 HMp.out (fun a e => (h3 HMp.out a e).1), ?_, h4⟩⟩
    rintro k (rfl | ⟨a, e, rfl⟩)
    · exact h5
    · exact (h3 HMp.out a e).2
  have HD1 := Lib.hid (DiskAt.ok.fr0 HD.out h4)
  have HSe := Lib.hid (show Calls Tryz.prog 31 #[.pointer (some ⟨L, 0, none⟩)] w1 fun e w' => e = .returned (.int .i64 (sn : Int)) ∧ w1 = w' from by rw [← HSn.out]; exact sectors_any HD1.out)
  clear h1 h2 h3 h4 h5 HN
  go_wp2_with fail
  refine HSe.out.mono ?_
  rintro e w2 ⟨rfl, rfl⟩
  have HJ := Lib.hid (jopen_any HD1.out)
  unfold JOpenP at HJ
  clear HSe
  go_wp2_with fail
  refine HJ.out.mono ?_
  rintro e w3 (⟨h0, jj, H', rfl, k1, k2⟩ | ⟨h0, F', rfl, k1, k2⟩)
  · have HE := Lib.hid (And.intro h0 (And.intro k1 k2))
    have hR3 : RingT rg master w3 R := RingT.ok.fr HR.out.1 k2.fr (fun k hk hf => by have h1 := HR.out.2.1 k hk; have h2 := DiskAt.ok.lt HD.out k hf; omega)
    have HN3 := Lib.hid (seals_new (j := jj) (pages := pages) hR3 HZ.out HT.out)
    have HRl := Lib.hid (RingT.ok.lt hR3)
    clear h0 k1 k2 HJ hR3
    go_wp2_with fail
    go_ret2
    have hal : Fr noBlock w3 ((w3.alloc (.cells Z 71)).alloc (Sobj jj rg tenants pages w3.heap.size (tenants + 1))) := ((Fr.refl noBlock w3).alloc _).alloc _
    have hww : w.heap.size ≤ w3.heap.size := Nat.le_trans HR.out.2.2.size HE.out.2.2.size
    refine .inl ⟨HE.out.1, w3.heap.size + 1, jj, rg, w3.heap.size, _, rfl, ⟨_, H', JAt.ok.fr0 HE.out.2.1 hal, HN3.out, ?_, fun k => Iff.rfl⟩, ⟨?_, ?_⟩⟩
    · rintro k (hk | rfl | rfl) hH
      · exact (HE.out.2.2.foot k hH).elim (fun hf => by have h1 := HR.out.2.1 k hk; have h2 := DiskAt.ok.lt HD.out k hf; omega) (fun hle => by have := RingT.ok.lt HR.out.1 k hk; omega)
      · have := JAt.ok.lt HE.out.2.1 _ hH; omega
      · have := JAt.ok.lt HE.out.2.1 _ hH; omega
    · exact ((HR.out.2.2.mono (fun _ z => z.elim)).trans' HE.out.2.2.fr).trans' (hal.mono (fun _ z => z.elim))
    · rintro k ((hk | rfl | rfl) | hk)
      · exact .inr (HR.out.2.1 k hk)
      · exact .inr hww
      · exact .inr (by omega)
      · exact (HE.out.2.2.foot k hk).imp id (fun hle => Nat.le_trans HR.out.2.2.size hle)
  · have HE := Lib.hid (And.intro h0 (And.intro k1 k2))
    obtain ⟨er, her⟩ : ∃ er, (openR d).2 = er := ⟨_, rfl⟩
    have HEr := Lib.hid her
    have q10 : (er != 0) = true := by rw [← her]; simpa using h0
    rw [her]
    clear h0 k1 k2 HJ her
    go_wp2_with fail
    go_ret2
    refine .inr ⟨HE.out.1, F', by rw [HEr.out]; rfl, HE.out.2.1, ⟨(HR.out.2.2.mono (fun _ z => z.elim)).trans' HE.out.2.2.fr, fun k hk => (HE.out.2.2.foot k hk).imp id (fun hle => Nat.le_trans HR.out.2.2.size hle)⟩⟩
end Go.Proofs.YthabllnhlhkejaaGreatDoor
namespace Go.Proofs.YthabllnhlhkejaaGreatDoor
open Go.RowKit
open StoreX

variable [Dim]
section
variable {w : World} {sp j rg sg L T P t : Nat} {master : Bs} {S : Saves} {X : Nat → Bs} {d : DK} {F : Nat → Prop}
def saveE (P len : Nat) : Int := if P * Dim.Z - 28 < len then 14 else 0
def SaveI (sp j rg sg L : Nat) (master : Bs) (T P t : Nat) (S : Saves) (b : Bs) (F : Nat → Prop) (w : World) (e : Ending) (w' : World) : Prop :=
  ∃ (d' : DK) (X' : Nat → Bs) (F' : Nat → Prop), e = .returned (.int .i64 (saveE P b.length)) ∧ StoreIn sp j rg sg L master T P d' 0 w' F' ∧ Step F F' w w' ∧ StoreX master T P (if P * Dim.Z - 28 < b.length then S else upd S t (numS (S t) + 1, b)) X' d'
theorem save_in (h : StoreIn sp j rg sg L master T P d 0 w F) (hX : StoreX master T P S X d) (hml : master.length ≤ 64) (h1 : 1 ≤ t) (ht : t ≤ T) (hT : T ≤ 64) (hk : numS (S t) < 999999) {bo : Option Addr} {b : Bs} (hb : RowRd ByteR w bo b) (hbF : 0 < b.length → ∀ a, bo = some a → ¬ F a.block) (bc : Nat) :
    Calls Tryz.prog 9 #[.pointer (some ⟨sp, 0, none⟩), .int .i64 (t : Int), .slice bo b.length bc] w (SaveI sp j rg sg L master T P t S b F w) := by
  obtain ⟨G, H, k1, k2, k3, k4⟩ := h
  refine (ssave_any k1 k2 k3 hml hX.p1 hX.p8 h1 (by omega) ht hb (fun h0 a e hg => hbF h0 a e ((k4 _).2 (.inl hg))) bc).mono ?_
  rintro e w' ⟨G', H', rfl, m1, m2, m3, m4⟩
  obtain ⟨s1, s2⟩ := hX.save h1 ht b hk
  have hst : Step F (fun k => G' k ∨ H' k) w w' := ⟨m4.fr.mono (fun k hk => (k4 k).2 hk), fun k hk => (m4.foot k hk).imp (fun h => (k4 k).2 h) id⟩
  rw [s1] at m1
  rcases s2 with ⟨hr, he⟩ | ⟨hr, he, X', hX'⟩
  · rw [he] at m1 ⊢
    exact ⟨d, X, _, by unfold saveE; rw [if_pos hr], ⟨G', H', m1, m2.t, m3, fun _ => Iff.rfl⟩, hst, by rw [if_pos hr]; exact hX⟩
  · exact ⟨_, X', _, by unfold saveE; rw [if_neg hr, he], ⟨G', H', m1, m2.t, m3, fun _ => Iff.rfl⟩, hst, by rw [if_neg hr]; exact hX'⟩
def LoadI (sp j rg sg L : Nat) (master : Bs) (T P : Nat) (d : DK) (r : Bs × Nat × Int) (F : Nat → Prop) (w : World) (e : Ending) (w' : World) : Prop :=
  ∃ (s : SV) (F' : Nat → Prop), e = .returned (.tuple #[s.val, .int .i64 (r.2.1 : Int), .int .i64 r.2.2]) ∧ s.n = r.1.length ∧ RowAt 5 ByteR w' s.val r.1 ∧ StoreIn sp j rg sg L master T P d 0 w' F' ∧ Step F F' w w' ∧ ∀ k, s.val.ownBlock = some k → w.heap.size ≤ k ∧ ¬ F' k
theorem load_in (h : StoreIn sp j rg sg L master T P d 0 w F) (hX : StoreX master T P S X d) (hml : master.length ≤ 64) (h1 : 1 ≤ t) (ht : t ≤ T) (hT : T ≤ 64) :
    Calls Tryz.prog 11 #[.pointer (some ⟨sp, 0, none⟩), .int .i64 (t : Int)] w (LoadI sp j rg sg L master T P d (told (S t)) F w) := by
  obtain ⟨G, H, k1, k2, k3, k4⟩ := h
  have hl := sload_any k1 k2 k3 hml hX.p1 hX.p8 h1 (by omega) ht
  rw [hX.load h1 ht] at hl
  refine hl.mono ?_
  rintro e w' ⟨s, G', rfl, m1, m2, m3, m4, m5⟩
  have hH := JAt.ok.lt k1
  refine ⟨s, fun k => G' k ∨ H k, rfl, m1, m2, ⟨G', H, JAt.ok.fr k1 m4.fr (fun k hk hg => k3 k hg hk), m3.t, m4.apart k3 hH, fun _ => Iff.rfl⟩, ⟨m4.fr.mono (fun k hk => (k4 k).2 (.inl hk)), fun k hk => hk.elim (fun hk => (m4.foot k hk).imp (fun h => (k4 k).2 (.inl h)) id) (fun hk => .inl ((k4 k).2 (.inr hk)))⟩, fun k hk => ?_⟩
  have h2 := m5 k hk
  exact ⟨h2.1, fun e => e.elim h2.2 (fun e => by have := hH k e; omega)⟩
theorem room_in (h : StoreIn sp j rg sg L master T P d 0 w F) (hX : StoreX master T P S X d) : Calls Tryz.prog 10 #[.pointer (some ⟨sp, 0, none⟩)] w fun e w' => e = .returned (.int .i64 ((P * Dim.Z - 28 : Nat) : Int)) ∧ Fr noBlock w w' := by
  obtain ⟨G, H, k1, k2, k3, k4⟩ := h
  obtain ⟨c0, c3, -, -⟩ := k2.head
  have := sroom_any k1 c0 c3 hX.p1 hX.p8
  unfold roomN at this
  rw [hX.jn.cl.1.size] at this
  exact this
theorem StoreIn.disk {bad : Int} (h : StoreIn sp j rg sg L master T P d bad w F) : ∃ G, DiskAt L d w G ∧ ∀ k, G k → F k := by
  have _z := Dim.n9
  obtain ⟨G, H, k1, k2, k3, k4⟩ := h
  obtain ⟨D, m1, m2, -⟩ := k1.disk
  exact ⟨D, m1, fun k hk => (k4 k).2 (.inr (m2 k hk))⟩
theorem open_in (h : DiskAt L d w F) (hX : StoreX master T P S X d) {mo : Option Addr} (hm : RowRd ByteR w mo master) (mc : Nat) (hm16 : 16 ≤ master.length) (hm64 : master.length ≤ 64) (hT1 : 1 ≤ T) (hT : T ≤ 64) :
    Calls Tryz.prog 15 #[.pointer (some ⟨L, 0, none⟩), .slice mo master.length mc, .int .i64 (T : Int), .int .i64 (P : Int)] w fun e w' => ∃ (sp j rg sg : Nat) (F' : Nat → Prop), e = .returned (.tuple #[.pointer (some ⟨sp, 0, none⟩), .int .i64 0]) ∧ StoreIn sp j rg sg L master T P d 0 w' F' ∧ Step F F' w w' := by
  have ho : openR d = (d, 0) := hX.jn.open'
  refine (sopen_any h hm mc hm16 hm64 hT1 hT hX.p1 hX.p8 (by rw [hX.jn.cl.1.len]; exact hX.room)).mono ?_
  rintro e w' (⟨h0, sp, j, rg, sg, F', rfl, m1, m2⟩ | ⟨h0, _⟩)
  · rw [ho] at m1
    exact ⟨sp, j, rg, sg, F', rfl, m1, m2⟩
  · rw [ho] at h0
    exact absurd rfl h0
end
end Go.Proofs.YthabllnhlhkejaaGreatDoor
namespace Go.Proofs.YthabllnhlhkejaaGreatDoor
open Go.RowKit
open StoreX

theorem strB_app (a b : Bs) : strB a ++ strB b = strB (a ++ b) := by
  apply ByteArray.ext
  show (strB a ++ strB b).data = (a ++ b).toArray
  rw [ByteArray.data_append]
  simp [strB]
section
variable [Dim]
set_option maxRecDepth 100000 in
set_option maxHeartbeats 1600000 in
theorem sfe_any {w : World} {sp j rg sg L T t : Nat} {master : Bs} {S : Saves} {X : Nat → Bs} {d : DK} {F : Nat → Prop} (h : StoreIn sp j rg sg L master T 2 d 0 w F) (hX : StoreX master T 2 S X d) (h1 : 1 ≤ t) (ht : t ≤ T) (hT : T ≤ 64) :
    Calls Tryz.prog 12 #[.pointer (some ⟨L, 0, none⟩), .int .i64 (t : Int)] w fun e w' => e = .returned (.string (strB (partC master t (2 * Dim.Z) (S t)))) ∧ Fr noBlock w w' := by
  obtain ⟨D, hD, -⟩ := h.disk
  have HD := Lib.hid hD
  have HX := Lib.hid hX
  have hlow := hX.low h1 ht
  obtain ⟨b, hb⟩ : ∃ b, (t - 1) * 2 = b := ⟨_, rfl⟩
  have HP := Lib.hid (show secsX X b 2 = partC master t (2 * Dim.Z) (S t) by rw [← hb]; exact hX.parts t h1 ht)
  have hz1 := Dim.z1
  have hn4 := Dim.n4
  rw [hb] at hlow
  have HSec := Lib.hid (show ∀ i, i < 2 → d.safeB ((9 + (b + i) : Nat) : Int) = X (b + i) from fun i hi => hX.safe_sec (k := b + i) (by omega))
  have HLn := Lib.hid (show ∀ i, i ≤ 2 → (secsX X b i).length = i * Dim.Z from fun i hi => secsX_len hX.jn b i (by omega))
  have HZi := Lib.hid (show ∀ i, i ≤ 2 → i * Dim.Z ≤ 2 * 4096 from fun i hi => Nat.mul_le_mul hi hz1)
  have q1 : wrap64 ((t : Int) - 1) = (t : Int) - 1 := by unfold wrap64; omega
  have q2 : wrap64 (2 * ((t : Int) - 1)) = 2 * ((t : Int) - 1) := by unfold wrap64; omega
  have q3 : wrap64 (9 + 2 * ((t : Int) - 1)) = 9 + 2 * ((t : Int) - 1) := by unfold wrap64; omega
  have HBt := Lib.hid (show (b : Int) = 2 * ((t : Int) - 1) by omega)
  have HT := Lib.hid (show t ≤ 64 by omega)
  clear hlow hz1 hn4 hb hT
  obtain ⟨R, hR⟩ : ∃ R, partC master t (2 * Dim.Z) (S t) = R := ⟨_, rfl⟩
  rw [hR] at HP ⊢
  clear h hX hD ht hR
  go_enter Tryz.func12, Tryz.ntmps12
  go_wp2_with fail
  go_loopw [5, 6] (fun s5 s6 W => ∃ i : Nat, i ≤ 2 ∧ s6 = .int .i64 i ∧ s5 = .string (strB (secsX X b i)) ∧ Hid (Fr noBlock w W)) (fun _ s6 _ => 2 - (intOf s6).toNat)
  case atStart => exact ⟨0, by omega, rfl, rfl, Lib.hid (Fr.refl _ _)⟩
  case round =>
    obtain ⟨i, hi, rfl, rfl, HF⟩ := hrel
    by_cases hlt : i < 2
    · have p1 : (i : Int) < 2 := by omega
      have ht64 := HT.out
      have p2 : wrap64 (9 + 2 * ((t : Int) - 1) + (i : Int)) = 9 + 2 * ((t : Int) - 1) + (i : Int) := by unfold wrap64; omega
      clear ht64
      have HS := Lib.hid (show Calls Tryz.prog 26 #[.pointer (some ⟨L, 0, none⟩), .int .i64 (9 + 2 * ((t : Int) - 1) + (i : Int))] wr (CloneP (X (b + i)) wr) from by
        have hs := safe_any (DiskAt.ok.fr0 HD.out HF.out) ((9 + (b + i) : Nat) : Int)
        have e : ((9 + (b + i) : Nat) : Int) = 9 + 2 * ((t : Int) - 1) + (i : Int) := by rw [← HBt.out]; push_cast; omega
        rw [HSec.out i hlt, e] at hs
        exact hs)
      unfold CloneP at HS
      have p3 : ¬ 9223372036854775807 < (strB (secsX X b i)).size + (strB (X (b + i))).size := by
        have hl2 := HLn.out (i + 1) hlt
        rw [secsX_succ, List.length_append] at hl2
        rw [strB_size, strB_size, hl2]
        exact Nat.not_lt.2 (Nat.le_trans (HZi.out (i + 1) hlt) (by decide))
      have HSx := Lib.hid (secsX_succ X b i)
      obtain ⟨A, hA⟩ : ∃ A, secsX X b i = A := ⟨_, rfl⟩
      obtain ⟨B, hB⟩ : ∃ B, X (b + i) = B := ⟨_, rfl⟩
      rw [hA, hB] at HSx p3
      rw [hB] at HS
      rw [hA]
      clear hA hB
      go_wp2_with fail
      refine HS.out.mono ?_
      rintro e w5 ⟨⟨xa, xn, xc⟩, rfl, k1, k2, k3, k4⟩
      unfold SV.val at k2 k4 ⊢
      dsimp only at k1 k2 k4 ⊢
      subst k1
      have hcv := conv_rd (RowAt.rd k2) xc
      have H5 := Lib.hid (HF.out.trans' k3)
      clear k2 k3 k4 HS
      go_wp2_with fail
      go_roundw
      case rel => exact ⟨i + 1, hlt, by go_num, by rw [HSx.out, ← strB_app], H5⟩
      case measure => simp [intOf]; omega
    · have p1 : (2 : Int) ≤ (i : Int) := by omega
      obtain rfl : i = 2 := by omega
      rw [HP.out]
      go_wp2_with fail
      go_ret
      exact ⟨rfl, HF.out⟩
end
end Go.Proofs.YthabllnhlhkejaaGreatDoor
namespace Go.Proofs.YthabllnhlhkejaaGreatDoor
open Go.RowKit
open StoreX

@[reducible] def d17 : Dim := ⟨17, 64, by decide, by decide, by decide, by decide⟩
@[reducible] def d13 : Dim := ⟨13, 64, by decide, by decide, by decide, by decide⟩
theorem new17 : @StoreX d17 masterB 4 2 (fun _ => none) (fun _ => List.replicate 64 0) (DK.new 17 64) := @StoreX.new d17 masterB 4 2 (by decide) (by decide) (by decide)
theorem new13 : @StoreX d13 masterB 2 2 (fun _ => none) (fun _ => List.replicate 64 0) (DK.new 13 64) := @StoreX.new d13 masterB 2 2 (by decide) (by decide) (by decide)
def OpenedP (w : World) (e : Ending) (w' : World) : Prop := ∃ (sp j rg sg L : Nat) (F : Nat → Prop), e = .returned (.tuple #[.pointer (some ⟨sp, 0, none⟩), .pointer (some ⟨L, 0, none⟩)]) ∧ StoreIn sp j rg sg L masterB 4 2 (DK.new 17 64) 0 w' F ∧ Fr noBlock w w' ∧ ∀ k, F k → w.heap.size ≤ k
set_option maxRecDepth 100000 in
set_option maxHeartbeats 1600000 in
theorem opened_any (w : World) : Calls Tryz.prog 8 #[] w (OpenedP w) := by
  have HN := Lib.hid (new_ok 17 64 w (by kernel_rfl))
  unfold NewP at HN
  have HM := Lib.hid (fun W => master_any W)
  unfold OpenedP
  go_enter Tryz.func8, Tryz.ntmps8
  go_wp2_with fail
  refine HN.out.mono ?_
  rintro e w1 ⟨L, F1, rfl, h1, h2, h3⟩
  have H1 := Lib.hid (And.intro (show DiskAt L (DK.new 17 64) w1 F1 from h1) (And.intro h2 h3))
  clear h1 h2 h3 HN
  go_wp2_with fail
  refine (HM.out _).mono ?_
  rintro e w2 ⟨g, rfl, k1, k2, k3⟩
  have HO := Lib.hid (@open_in d17 _ _ _ _ _ _ _ _ _ (DiskAt.ok.fr0 H1.out.1 k2) new17 _ k1 16 (by decide) (by decide) (by decide) (by decide))
  have H2 := Lib.hid k2
  clear k1 k2 k3
  go_wp2_with fail
  refine HO.out.mono ?_
  rintro e w3 ⟨sp, j, rg, sg, F', rfl, m1, m2⟩
  have H3 := Lib.hid (And.intro m1 m2)
  clear m1 m2 HO
  go_wp2_with fail
  go_ret2
  refine ⟨sp, j, rg, sg, L, F', rfl, H3.out.1, ((H1.out.2.1.trans' H2.out).trans H3.out.2.fr (fun k hk => .inr (H1.out.2.2 k hk))), fun k hk => (H3.out.2.foot k hk).elim (H1.out.2.2 k) (fun hle => ?_)⟩
  exact Nat.le_trans H1.out.2.1.size (Nat.le_trans H2.out.size hle)
set_option maxRecDepth 100000 in
set_option maxHeartbeats 1600000 in
theorem ssmall_any (w : World) : Calls Tryz.prog 7 #[] w fun e w' => e = .returned (.bool true) ∧ Fr noBlock w w' := by
  have HN := Lib.hid (new_ok 13 64 w (by kernel_rfl))
  unfold NewP at HN
  have HM := Lib.hid (fun W => master_any W)
  have kc := fun (W : World) (C : Array Value) (n c : Nat) => Lib.run_convert_bytes_const (P := Tryz.prog) W 28 5 C n c Tryz.underlying28 Tryz.underlying5
  go_enter Tryz.func7, Tryz.ntmps7
  go_wp2_with fail
  refine HN.out.mono ?_
  rintro e w1 ⟨L, F1, rfl, h1, h2, h3⟩
  have H1 := Lib.hid (And.intro (show DiskAt L (DK.new 13 64) w1 F1 from h1) (And.intro h2 h3))
  clear h1 h2 h3 HN
  go_wp2_with fail
  refine (HM.out _).mono ?_
  rintro e w2 ⟨g, rfl, k1, k2, k3⟩
  have HO := Lib.hid (@open_in d13 _ _ _ _ _ _ _ _ _ (DiskAt.ok.fr0 H1.out.1 k2) new13 _ k1 16 (by decide) (by decide) (by decide) (by decide))
  have H2 := Lib.hid k2
  clear k1 k2 k3
  go_wp2_with fail
  refine HO.out.mono ?_
  rintro e w3 ⟨sp, j, rg, sg, F3, rfl, m1, m2⟩
  have hw3 : Fr noBlock w w3 := (H1.out.2.1.trans' H2.out).trans m2.fr (fun k hk => .inr (H1.out.2.2 k hk))
  have hF3 : ∀ k, F3 k → w.heap.size ≤ k := fun k hk => (m2.foot k hk).elim (H1.out.2.2 k) (fun hle => Nat.le_trans H1.out.2.1.size (Nat.le_trans H2.out.size hle))
  have HLd := Lib.hid (@load_in d13 _ _ _ _ _ _ _ _ 1 _ _ _ _ _ m1 new13 (by decide) (by decide) (by decide) (by decide))
  unfold LoadI at HLd
  have H3 := Lib.hid (And.intro hw3 hF3)
  clear m1 m2 HO HM H1 H2 hw3 hF3
  go_wp2_with fail
  refine HLd.out.mono ?_
  rintro e w4 ⟨⟨xa, xn, xc⟩, F4, rfl, k1, k2, k3, k4, k5⟩
  have hw4 : Fr noBlock w w4 := H3.out.1.trans k4.fr (fun k hk => .inr (H3.out.2 k hk))
  have hF4 : ∀ k, F4 k → w.heap.size ≤ k := fun k hk => (k4.foot k hk).elim (H3.out.2 k) (fun hle => Nat.le_trans H3.out.1.size hle)
  have H4 := Lib.hid (And.intro k3 (And.intro hw4 hF4))
  unfold SV.val
  dsimp only [told]
  clear k1 k2 k3 k4 k5 hw4 hF4 HLd H3
  have ha := (Fr.refl noBlock w4).alloc (.cells #[.int .u8 97, .int .u8 98, .int .u8 99] 5 (3, 4))
  have hb : RowRd ByteR (w4.alloc (.cells #[.int .u8 97, .int .u8 98, .int .u8 99] 5 (3, 4))) (some ⟨w4.heap.size, 0, none⟩) [97, 98, 99] := RowRd.of_flat (heap_new w4 _) rfl (by unfold maxLen; simp)
  have HSv := Lib.hid (@save_in d13 _ sp j rg sg L 2 2 1 _ _ _ _ _ (StoreIn.ok.fr0 H4.out.1 ha) new13 (by decide) (by decide) (by decide) (by decide) (by decide) _ _ hb (fun _ a e hk => by cases e; exact StoreIn.ok.new H4.out.1 hk) 3)
  unfold SaveI at HSv
  go_wp2_with fail
  refine HSv.out.mono ?_
  rintro e w5 ⟨d5, X5, F5, rfl, k1, k2, k3⟩
  have hs0 : @saveE d13 2 ([97, 98, 99] : Bs).length = 0 := rfl
  rw [hs0]
  have k3' : @StoreX d13 masterB 2 2 (upd (fun _ => none) 1 (1, [97, 98, 99])) X5 d5 := k3
  have hw5 : Fr noBlock w w5 := (H4.out.2.1.trans' ha).trans k2.fr (fun k hk => .inr (H4.out.2.2 k hk))
  have hF5 : ∀ k, F5 k → w.heap.size ≤ k := fun k hk => (k2.foot k hk).elim (H4.out.2.2 k) (fun hle => Nat.le_trans (H4.out.2.1.trans' ha).size hle)
  have HLd := Lib.hid (@load_in d13 _ _ _ _ _ _ _ _ 1 _ _ _ _ _ k1 k3' (by decide) (by decide) (by decide) (by decide))
  have ht : told (upd (fun _ => none) 1 (1, [97, 98, 99]) 1) = ([97, 98, 99], 1, 0) := rfl
  rw [ht] at HLd
  unfold LoadI at HLd
  have H5 := Lib.hid (And.intro hw5 (And.intro hF5 k3'))
  clear k1 k2 k3 k3' hw5 hF5 HSv hb ha H4
  go_wp2_with fail
  refine HLd.out.mono ?_
  rintro e w6 ⟨⟨ya, yn, yc⟩, F6, rfl, k1, k2, k3, k4, k5⟩
  have hw6 : Fr noBlock w w6 := H5.out.1.trans k4.fr (fun k hk => .inr (H5.out.2.1 k hk))
  unfold SV.val at k2 k5 ⊢
  dsimp only at k1 k2 k5 ⊢
  have hy3 : yn = 3 := k1
  subst hy3
  have hcv : (convert 28 9 (.slice ya 3 yc)).run Tryz.prog w6 = .ok (.string ⟨#[97, 98, 99]⟩) w6 := conv_rd (RowAt.rd k2) yc
  have HRm := Lib.hid (show Calls Tryz.prog 10 #[.pointer (some ⟨sp, 0, none⟩)] w6 fun e w' => e = .returned (.int .i64 100) ∧ Fr noBlock w6 w' from @room_in d13 _ _ _ _ _ _ _ _ _ _ _ _ _ k3 H5.out.2.2)
  have H6 := Lib.hid hw6
  clear k1 k2 k3 k4 k5 hw6 HLd ht hs0
  go_wp2_with fail
  refine HRm.out.mono ?_
  rintro e w7 ⟨rfl, hf⟩
  have H7 := Lib.hid (H6.out.trans' hf)
  clear hf HRm
  go_wp2_with fail
  go_ret
  exact ⟨rfl, H7.out⟩
end Go.Proofs.YthabllnhlhkejaaGreatDoor
namespace Go.Proofs.YthabllnhlhkejaaGreatDoor
open Go.RowKit
open StoreX

theorem i64_and3 (n : Int) : bits .and .i64 n 3 = n % 4 := by
  show IntKind.i64.wrap ((BitVec.ofInt 64 n &&& BitVec.ofInt 64 3).toNat : Int) = _
  have e : (BitVec.ofInt 64 n &&& BitVec.ofInt 64 3).toNat = (BitVec.ofInt 64 n).toNat % 4 := by
    rw [BitVec.toNat_and]
    exact Nat.and_two_pow_sub_one_eq_mod _ 2
  rw [e, IntKind.wrap_i64, BitVec.toNat_ofInt]
  omega
theorem who_is (t : Int) : ∃ q : Nat, q < 4 ∧ bits .and .i64 t 3 = (q : Int) := ⟨(t % 4).toNat, by omega, by rw [i64_and3]; omega⟩
/-- a store of our own, since w -/
structure OwnS (w W : World) (sp j rg sg L : Nat) (d : DK) (F : Nat → Prop) : Prop where
  it : StoreIn sp j rg sg L masterB 4 2 d 0 W F
  fr : Fr noBlock w W
  new : ∀ k, F k → w.heap.size ≤ k
theorem OwnS.step {w W W' : World} {sp j rg sg L : Nat} {d d' : DK} {F F' : Nat → Prop} (h : OwnS w W sp j rg sg L d F) (h' : StoreIn sp j rg sg L masterB 4 2 d' 0 W' F') (s : Step F F' W W') : OwnS w W' sp j rg sg L d' F' :=
  ⟨h', h.fr.trans s.fr (fun k hk => .inr (h.new k hk)), fun k hk => (s.foot k hk).elim (h.new k) (fun hle => Nat.le_trans h.fr.size hle)⟩
theorem OwnS.on {w W W' : World} {sp j rg sg L : Nat} {d : DK} {F : Nat → Prop} (h : OwnS w W sp j rg sg L d F) (f : Fr noBlock W W') : OwnS w W' sp j rg sg L d F :=
  ⟨StoreIn.ok.fr0 h.it f, h.fr.trans' f, h.new⟩
theorem OwnS.apart {w W : World} {sp j rg sg L : Nat} {d : DK} {F : Nat → Prop} (h : OwnS w W sp j rg sg L d F) {ao : Option Addr} {b : Bs} (hb : RowRd ByteR w ao b) : 0 < b.length → ∀ a, ao = some a → ¬ F a.block := fun h0 a e hk => by
  obtain ⟨g, off, e', hg, _⟩ := hb.at' 0 h0
  rw [e] at e'
  cases e'
  have := h.new _ hk
  dsimp only at this
  omega
/-- the laws' store: Save, safe at a tenant -/
theorem save_17 {w W : World} {sp j rg sg L q : Nat} {d : DK} {F : Nat → Prop} {S : Saves} {X : Nat → Bs} (h : OwnS w W sp j rg sg L d F) (hX : @StoreX d17 masterB 4 2 S X d) (hq : q < 4) (hk : numS (S (q + 1)) < 999999) {bo : Option Addr} {b : Bs} (hb : RowRd ByteR w bo b) (bc : Nat) :
    Calls Tryz.prog 9 #[.pointer (some ⟨sp, 0, none⟩), .int .i64 (1 + (q : Int)), .slice bo b.length bc] W fun e w' => ∃ (d' : DK) (X' : Nat → Bs) (F' : Nat → Prop), e = .returned (.int .i64 (if 100 < b.length then 14 else 0)) ∧ OwnS w w' sp j rg sg L d' F' ∧ @StoreX d17 masterB 4 2 (if 100 < b.length then S else upd S (q + 1) (numS (S (q + 1)) + 1, b)) X' d' := by
  have e : (1 + (q : Int)) = ((q + 1 : Nat) : Int) := by omega
  rw [e]
  refine (@save_in d17 _ sp j rg sg L 4 2 (q + 1) _ _ _ _ _ h.it hX (by decide) (by omega) (by omega) (by decide) hk _ _ (hb.fr0 h.fr) (h.apart hb) bc).mono ?_
  rintro e w' ⟨d', X', F', rfl, k1, k2, k3⟩
  exact ⟨d', X', F', rfl, h.step k1 k2, k3⟩
theorem safe_17 {w W : World} {sp j rg sg L q : Nat} {d : DK} {F : Nat → Prop} {S : Saves} {X : Nat → Bs} (h : OwnS w W sp j rg sg L d F) (hX : @StoreX d17 masterB 4 2 S X d) (hq : q < 4) :
    Calls Tryz.prog 12 #[.pointer (some ⟨L, 0, none⟩), .int .i64 (1 + (q : Int))] W fun e w' => e = .returned (.string (strB (partC masterB (q + 1) 128 (S (q + 1))))) ∧ OwnS w w' sp j rg sg L d F := by
  have e : (1 + (q : Int)) = ((q + 1 : Nat) : Int) := by omega
  rw [e]
  refine (@sfe_any d17 _ sp j rg sg L 4 (q + 1) _ _ _ _ _ h.it hX (by omega) (by omega) (by decide)).mono ?_
  rintro e w' ⟨rfl, hf⟩
  exact ⟨rfl, h.on hf⟩
theorem opened_17 {w w0 : World} (hf : Fr noBlock w w0) : Calls Tryz.prog 8 #[] w0 fun e w' => ∃ (sp j rg sg L : Nat) (F : Nat → Prop), e = .returned (.tuple #[.pointer (some ⟨sp, 0, none⟩), .pointer (some ⟨L, 0, none⟩)]) ∧ OwnS w w' sp j rg sg L (DK.new 17 64) F := by
  refine (opened_any w0).mono ?_
  rintro e w' ⟨sp, j, rg, sg, L, F, rfl, h1, h2, h3⟩
  exact ⟨sp, j, rg, sg, L, F, rfl, h1, hf.trans' h2, fun k hk => Nat.le_trans hf.size (h3 k hk)⟩
end Go.Proofs.YthabllnhlhkejaaGreatDoor
