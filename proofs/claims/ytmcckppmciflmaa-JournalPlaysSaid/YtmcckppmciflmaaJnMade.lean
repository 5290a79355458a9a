/-
  THE WALKS of the journal laws' made and all.
-/
import Derived.Lib.SlBytesConst
import Derived.Test.YtmcckppmciflmaaJnTold
import Derived.Test.YtmcckppmciflmaaJnMay
import Derived.Test.YtmcckppmciflmaaDkBoot
namespace Go.Proofs.Ytmcckppmciflmaa
open Go.RowKit

/-- a row of bytes of our own, beside what lies in F -/
structure Own (s : SV) (bs : Bs) (w : World) (F : Nat → Prop) : Prop where
  row : RowAt 5 ByteR w s.val bs
  len : s.n = bs.length
  ap : ∀ k, s.val.ownBlock = some k → ¬ F k
theorem Own.step {s : SV} {bs : Bs} {w w' : World} {F F' : Nat → Prop} (h : Own s bs w F) (t : Step F F' w w') : Own s bs w' F' :=
  ⟨h.row.fr t.fr (fun k hk hf => h.ap k hk hf), h.len, fun k hk => (t.keep (h.row.lt k hk) (h.ap k hk)).2.2⟩
theorem Own.fr {s : SV} {bs : Bs} {w w' : World} {F : Nat → Prop} (h : Own s bs w F) (hf : Fr noBlock w w') : Own s bs w' F := ⟨h.row.fr0 hf, h.len, h.ap⟩
theorem Own.new {s : SV} {bs : Bs} {w w' : World} {F : Nat → Prop} (hr : RowAt 5 ByteR w' s.val bs) (hl : s.n = bs.length) (hn : ∀ k, s.val.ownBlock = some k → w.heap.size ≤ k) (hF : ∀ k, F k → k < w.heap.size) : Own s bs w' F :=
  ⟨hr, hl, fun k hk hf => by have := hn k hk; have := hF k hf; omega⟩
theorem Own.rd {s : SV} {bs : Bs} {w : World} {F : Nat → Prop} (h : Own s bs w F) : RowRd ByteR w s.ao bs := RowAt.rd h.row
theorem Own.apA {s : SV} {bs : Bs} {w : World} {F : Nat → Prop} (h : Own s bs w F) : ∀ a, s.ao = some a → ¬ F a.block := fun a e => h.ap a.block (by unfold SV.val; rw [e]; rfl)
theorem Own.val {s : SV} {bs : Bs} {w : World} {F : Nat → Prop} (h : Own s bs w F) : s.val = .slice s.ao bs.length s.cap := by unfold SV.val; rw [h.len]
theorem Own.form {s : SV} {bs : Bs} {w : World} {F : Nat → Prop} (h : Own s bs w F) (h0 : 0 < bs.length) : ∃ g, s.val = .slice (some ⟨g, 0, none⟩) bs.length s.cap ∧ ∀ i, (hi : i < bs.length) → w.cell? ⟨g, i, none⟩ = some (byteV bs[i]) := by
  obtain ⟨g, cap, e, _, _⟩ := sv_form h.row h0
  subst e
  exact ⟨g, rfl, fun i hi => (byte_at h.row hi).1⟩

/-- Write, Fill at rows of our own -/
theorem write_own {l : Nat} {d : DK} {w : World} {F : Nat → Prop} (h : DiskAt l d w F) (n : Int) {s : SV} {b : Bs} (o : Own s b w F) (hb : b.length ≤ 9223372036854775807) : Calls Try.prog 13 #[.pointer (some ⟨l, 0, none⟩), .int .i64 n, s.val] w (WriteP l (d.write n b) (d.writeE n b.length) F w) := by
  rw [o.val]; exact write_any h n o.rd o.apA s.cap hb

def kA : Bs := fillB [97] 64
def kB : Bs := fillB [98] 64
def k0 : DK := DK.new 2 64
def k1 : DK := k0.write 0 kA
def k2 : DK := k1.flush
def k3 : DK := k2.write 0 kB
def k4 : DK := k3.boot [2]
theorem kE : k0.writeE 0 kA.length = 0 ∧ k1.flushE = 0 ∧ k2.writeE 0 kB.length = 0 ∧ k3.readE 0 = 0 ∧ k4.readE 0 = 0 := by
  refine ⟨?_, ?_, ?_, ?_, ?_⟩ <;> kernel_rfl
def bB : Bs := k3.readB 0
def bS : Bs := k3.safeB 0
def bC : Bs := k4.readB 0
theorem kL : bB.length = 64 ∧ bS.length = 64 ∧ bC.length = 64 ∧ kA.length = 64 ∧ kB.length = 64 := by
  refine ⟨?_, ?_, ?_, ?_, ?_⟩ <;> kernel_rfl
theorem kV : bB[0]? = some 98 ∧ bS[0]? = some 97 ∧ bC[1]? = some 98 ∧ bC[2]? = some 97 := by
  refine ⟨?_, ?_, ?_, ?_⟩ <;> kernel_rfl
theorem byte_is {w : World} {g : Nat} {bs : Bs} {i : Nat} {c : UInt8} (h : ∀ i, (hi : i < bs.length) → w.cell? ⟨g, i, none⟩ = some (byteV bs[i])) (hc : bs[i]? = some c) : w.cell? ⟨g, i, none⟩ = some (byteV c) := by
  obtain ⟨hi, e⟩ := List.getElem?_eq_some_iff.1 hc
  rw [h i hi, e]

/-- a new disk, of our own -/
theorem new_mine {w0 w : World} (hb : Below w0.heap.size w0 w) (s m : Int) (h : newOk s m = true) {d : DK} (hd : DK.new s.toNat m.toNat = d) : Calls Try.prog 12 #[.int .i64 s, .int .i64 m] w fun e w' => ∃ l F, e = .returned (.tuple #[.pointer (some ⟨l, 0, none⟩), .int .i64 0]) ∧ Mine w0 (DiskAt l d) w' F :=
  (new_ok s m w h).mono fun _ _ ⟨l, F, he, h1, h2, h3⟩ => ⟨l, F, he, Mine.new hb h2 (hd ▸ h1) h3⟩
theorem Mine.lt {w0 w : World} {A : Thing} {F : Nat → Prop} (ok : A.Ok) (h : Mine w0 A w F) : ∀ k, F k → k < w.heap.size := ok.lt h.it

theorem fill_one (w : World) (c : UInt8) (f : Nat × Nat) : Calls Try.prog 14 #[.slice (some ⟨w.heap.size, 0, none⟩) 1 1, .int .i64 64] (w.alloc (.cells #[.int .u8 (c.toNat : Int)] 5 f)) (CloneP (fillB [c] 64) w) := by
  have hf := (Fr.refl noBlock w).alloc (.cells #[.int .u8 (c.toNat : Int)] 5 f)
  refine (fill_any (b := [c]) (RowRd.one (heap_new w (.cells #[.int .u8 (c.toNat : Int)] 5 f)) c rfl) 1 (by simp) 64 (by omega)).mono ?_
  rintro e w' ⟨s, he, hl, hr, hf', hn⟩
  exact ⟨s, he, hl, hr, hf.trans' hf', fun k hk => Nat.le_trans hf.size (hn k hk)⟩
theorem fill_lit (w : World) (c : UInt8) (cv : Int) (hc : cv = c.toNat) : Calls Try.prog 14 #[.slice (some ⟨w.heap.size, 0, none⟩) 1 1, .int .i64 (64 : Nat)] (w.alloc (.cells #[.int .u8 cv] 5 (1, 2))) (CloneP (fillB [c] 64) w) := by
  have hf := (Fr.refl noBlock w).alloc (.cells #[.int .u8 cv] 5 (1, 2))
  refine (fill_any (b := [c]) (RowRd.one (heap_new w (.cells #[.int .u8 cv] 5 (1, 2))) c (by subst hc; rfl)) 1 (by simp) 64 (by omega)).mono ?_
  rintro e w' ⟨s, he, hl, hr, hf', hn⟩
  exact ⟨s, he, hl, hr, hf.trans' hf', fun k hk => Nat.le_trans hf.size (hn k hk)⟩
theorem fill64 {w : World} {ao : Option Addr} {b : Bs} (hb : RowRd ByteR w ao b) (cap : Nat) (hbl : b.length ≤ 9223372036854775807) : Calls Try.prog 14 #[.slice ao b.length cap, .int .i64 64] w (CloneP (fillB b 64) w) := fill_any hb cap hbl 64 (by omega)
set_option maxRecDepth 100000 in
set_option maxHeartbeats 1600000 in
theorem small_any (w : World) : Calls Try.prog 11 #[] w fun e w' => e = .returned (.bool true) ∧ Fr noBlock w w' := by
  obtain ⟨e1, e2, e3, e4, e5⟩ := kE
  obtain ⟨l1, l2, l3, l4, l5⟩ := kL
  have HE := Lib.hid (And.intro e1 (And.intro e2 (And.intro e3 (And.intro e4 e5))))
  have HLn := Lib.hid (And.intro l1 (And.intro l2 (And.intro l3 (And.intro l4 l5))))
  clear e1 e2 e3 e4 e5 l1 l2 l3 l4 l5
  have kc := fun (W : World) (C : Array Value) (n c : Nat) => Lib.run_convert_bytes_const (P := Try.prog) W 23 5 C n c Try.underlying23 Try.underlying5
  go_enter Try.func11, Try.ntmps11
  go_wp2_with fail
  refine (new_mine (Below.refl _ _) 2 64 (by kernel_rfl) (show _ = k0 from rfl)).mono ?_
  rintro e w1 ⟨l, F1, rfl, hm1⟩
  have M1 := Lib.hid hm1
  clear hm1
  go_wp2_with fail
  refine (fill_lit w1 97 _ rfl).mono ?_
  rintro e x2 ⟨s2, rfl, hl2, hr2, hfa2, hn2⟩
  have O2 := Lib.hid (Own.new (F := F1) hr2 hl2 hn2 (M1.out.lt DiskAt.ok))
  have N2 := Lib.hid (M1.out.fr DiskAt.ok hfa2)
  clear hr2 hl2 hn2 hfa2
  rw [O2.out.val]
  go_wp2_with fail
  refine (write_any N2.out.it 0 O2.out.rd O2.out.apA s2.cap (by rw [fillB_len]; omega)).mono ?_
  rintro e w2 ⟨F2, rfl, h2, t2⟩
  have M2 := Lib.hid (N2.out.step (A' := DiskAt l k1) h2 t2)
  rw [show k0.writeE 0 (fillB [97] 64).length = 0 from HE.out.1]
  clear h2 t2
  go_wp2_with fail
  refine (flush_any M2.out.it).mono ?_
  rintro e w3 ⟨F3, rfl, h3, t3⟩
  have M3 := Lib.hid (M2.out.step (A' := DiskAt l k2) h3 t3)
  rw [show k1.flushE = 0 from HE.out.2.1]
  clear h3 t3
  go_wp2_with fail
  refine (fill_lit w3 98 _ rfl).mono ?_
  rintro e x4 ⟨s4, rfl, hl4, hr4, hfa4, hn4⟩
  have O4 := Lib.hid (Own.new (F := F3) hr4 hl4 hn4 (M3.out.lt DiskAt.ok))
  have N4 := Lib.hid (M3.out.fr DiskAt.ok hfa4)
  clear hr4 hl4 hn4 hfa4
  rw [O4.out.val]
  go_wp2_with fail
  refine (write_any N4.out.it 0 O4.out.rd O4.out.apA s4.cap (by rw [fillB_len]; omega)).mono ?_
  rintro e w4 ⟨F4, rfl, h4, t4⟩
  have M4 := Lib.hid (N4.out.step (A' := DiskAt l k3) h4 t4)
  rw [show k2.writeE 0 (fillB [98] 64).length = 0 from HE.out.2.2.1]
  clear h4 t4
  go_wp2_with fail
  refine (read_any M4.out.it 0).mono ?_
  rintro e w5 ⟨sb, rfl, hlb, hrb, hfb, hnb⟩
  have B5 := Lib.hid (show Own sb bB w5 F4 from Own.new hrb hlb hnb (M4.out.lt DiskAt.ok))
  have M5 := Lib.hid (M4.out.fr DiskAt.ok hfb)
  rw [show k3.readE 0 = 0 from HE.out.2.2.2.1]
  clear hlb hrb hfb hnb
  go_wp2_with fail
  refine (safe_any M5.out.it 0).mono ?_
  rintro e w6 ⟨ss, rfl, hls, hrs, hfs, hns⟩
  have S6 := Lib.hid (show Own ss bS w6 F4 from Own.new hrs hls hns (M5.out.lt DiskAt.ok))
  have M6 := Lib.hid (M5.out.fr DiskAt.ok hfs)
  have B6 := Lib.hid (B5.out.fr hfs)
  clear hls hrs hfs hns B5
  go_wp2_with fail
  have f6 := (Fr.refl noBlock w6).alloc (.cells #[.int .i64 2] 3)
  have N6 := Lib.hid (M6.out.fr DiskAt.ok f6)
  have b6 : Beside (some ⟨w6.heap.size, 0, none⟩) [2] (w6.alloc (.cells #[.int .i64 2] 3)) F4 := ⟨RowRd.one (heap_new w6 (.cells #[.int .i64 2] 3)) 2 rfl, fun _ a e => by
    cases e
    exact ⟨fun hf => Nat.lt_irrefl _ (M6.out.lt DiskAt.ok _ hf), by simp⟩⟩
  have Hboot := Lib.hid (boot_any N6.out.it b6 1 (by simp))
  clear b6
  refine Hboot.out.mono ?_
  rintro e w7 ⟨F7, rfl, h7, t7⟩
  have t67 := (Step.same (F := F4) f6).trans t7
  have M7 := Lib.hid (N6.out.step (A' := DiskAt l k4) h7 t7)
  have B7 := Lib.hid (B6.out.step t67)
  have S7 := Lib.hid (S6.out.step t67)
  clear h7 t7 t67 f6 kc
  go_wp2_with fail
  refine (read_any M7.out.it 0).mono ?_
  rintro e w8 ⟨sc, rfl, hlc, hrc, hfc, hnc⟩
  have C8 := Lib.hid (show Own sc bC w8 F7 from Own.new hrc hlc hnc (M7.out.lt DiskAt.ok))
  have B8 := Lib.hid (B7.out.fr hfc)
  have S8 := Lib.hid (S7.out.fr hfc)
  have HB := Lib.hid ((Fr.of_below M7.out.below).trans' (hfc.mono (fun _ x => x)))
  rw [show k4.readE 0 = 0 from HE.out.2.2.2.2]
  clear hlc hrc hfc hnc B7 S7 B6 S6
  obtain ⟨v1, v2, v3, v4⟩ := kV
  obtain ⟨gb, eb, cb⟩ := B8.out.form (by rw [HLn.out.1]; omega)
  obtain ⟨gs, es, cs⟩ := S8.out.form (by rw [HLn.out.2.1]; omega)
  obtain ⟨gc, ec, cc⟩ := C8.out.form (by rw [HLn.out.2.2.1]; omega)
  have xb := byte_is cb v1
  have xs := byte_is cs v2
  have xc := byte_is cc v3
  have xd := byte_is cc v4
  rw [eb, es, ec, HLn.out.1, HLn.out.2.1, HLn.out.2.2.1]
  clear cb cs cc v1 v2 v3 v4 eb es ec
  unfold byteV at xb xs xc xd
  go_wp2_with fail
  go_ret
  exact ⟨rfl, HB.out⟩
end Go.Proofs.Ytmcckppmciflmaa
namespace Go.Proofs.Ytmcckppmciflmaa
open Go.RowKit

/-- writes whose bytes are a sector's -/
def madeL (l : List JW) (m : Nat) : List JW := l.map (fun w => (w.1, fillB w.2 m))
def MadeP (l : List JW) (m : Nat) (w : World) (e : Ending) (w' : World) : Prop := ∃ lo lc ws, e = .returned (.slice lo l.length lc) ∧ OwnW w w' lo l.length lc ws (madeL l m)
set_option maxRecDepth 100000 in
set_option maxHeartbeats 1600000 in
theorem made_any {w : World} {H : Nat → Prop} {ao : Option Addr} {ws : List (Int × SV)} {l : List JW} (h : JWrs w H ao ws l) (cap : Nat) (hb : l.length * 32 ≤ 140737488351232) (hmax : ∀ w ∈ l, w.2.length ≤ 9223372036854775807) (m : Nat) (hm : m ≤ 4096) :
    Calls Try.prog 29 #[.slice ao l.length cap, .int .i64 m] w (MadeP l m w) := by
  have HW := Lib.hid h
  have HMax := Lib.hid hmax
  clear h hmax
  go_enter Try.func29, Try.ntmps29
  go_wp2_with fail
  go_loopw [5, 6] (fun s5 s6 wr => ∃ (i : Nat) (lo : Option Addr) (lc : Nat) (us : List (Int × SV)), i ≤ l.length ∧ s6 = .int .i64 i ∧ s5 = .slice lo i lc ∧ OwnW w wr lo i lc us (madeL (l.take i) m)) (fun _ s6 _ => l.length - (intOf s6).toNat)
  case atStart => exact ⟨0, none, 0, [], Nat.zero_le _, rfl, rfl, OwnW.nil (Fr.refl _ _)⟩
  case round =>
    obtain ⟨i, lo, lc, us, hi, rfl, rfl, hO⟩ := hrel
    have HO := Lib.hid hO
    have hsz := hO.fr.size
    by_cases hlt : i < l.length
    · have q1 : (i : Int) < (l.length : Int) := by omega
      have q0 : (0 : Int) ≤ (i : Int) := by omega
      obtain ⟨b, off, s, rfl, hbl, y0, y1, -, hsn, hbb⟩ := (HW.out.fr hO.fr).at' hlt
      have hmx := HMax.out l[i] (List.getElem_mem hlt)
      have htk : madeL (l.take (i + 1)) m = madeL (l.take i) m ++ [(l[i].1, fillB l[i].2 m)] := by
        unfold madeL
        rw [List.take_succ_eq_append_getElem hlt, List.map_append]
        rfl
      generalize l[i] = q at *
      obtain ⟨qn, qb⟩ := q
      obtain ⟨sa, sn, sc⟩ := s
      simp only at hsn y0 y1 hmx htk hbb
      have Htk := Lib.hid htk
      have HBb := Lib.hid hbb
      have hi' : i + 1 ≤ l.length := by omega
      have hbw : ¬ w.heap.size ≤ b := by
        obtain ⟨b', off', _, e, hb', _⟩ := HW.out.at' hlt
        cases e
        omega
      have HY := Lib.hid (fun (W : World) (hW : Fr (fun k => w.heap.size ≤ k) wr W) => And.intro ((hW.cell (p := ⟨b, off + i * 2, none⟩) hbl hbw).trans y0) ((hW.cell (p := ⟨b, off + i * 2 + 1, none⟩) hbl hbw).trans y1))
      clear hO htk hbb hlt y0 y1 hsn
      go_wp2_with fail
      go_region_held3 (fun W => W.cell? ⟨b, off + i * 2, none⟩ = some (.int .i64 qn) ∧ W.cell? ⟨b, off + i * 2 + 1, none⟩ = some (.slice sa qb.length sc))
        (first | exact HY.out _ ((Fr.refl _ _).drew) | exact HY.out _ ((((Fr.refl noBlock _).drew).trans' h5c).mono (fun _ x => x.elim)) | exact HY.out _ (((((Fr.refl noBlock _).drew).trans' h5c).alloc _).mono (fun _ x => x.elim)) | exact HY.out _ hfB)
        (first
          | (go_at_call 14; (with_reducible refine (fill_any (b := qb) (HBb.out.fr ((Fr.refl _ _).drew)).rd sc hmx m hm).mono ?_); rintro e w5 ⟨⟨ta, tn, tc⟩, rfl, h5a, h5b, h5c, h5d⟩; simp only at h5a; subst h5a; unfold SV.val; dsimp only)
          | (refine step_app (by rfl) _ _ (by rfl) el_writes (v := .slice lo i lc) us [(qn, (⟨ta, (fillB qb m).length, tc⟩ : SV))] (us ++ [(qn, (⟨ta, (fillB qb m).length, tc⟩ : SV))]) rfl w.heap.size i (i + 1) (by rw [List.length_append, HO.out.len]; rfl) (by rfl) (HO.out.own' ((((Fr.refl _ _).drew).trans' h5c).alloc _)) (by rfl) (RowRd.one (heap_new w5 _) (qn, (⟨ta, (fillB qb m).length, tc⟩ : SV)) rfl) rfl (by unfold maxLen; omega) (by omega) (by have := h5c.size; simp at this ⊢; omega) ?_; intro lo6 lc6 w6 o6 g6 a6; have hfB : Fr (fun k => w.heap.size ≤ k) wr w6 := (((((Fr.refl noBlock wr).drew).trans' h5c).alloc (.cells #[.int .i64 qn, .slice ta (fillB qb m).length tc] 69)).mono (T := fun k => w.heap.size ≤ k) (fun _ x => x.elim)).grown g6 (fun k hk => .inl (HO.out.own.lt k hk).1)))
      have hM := HO.out.more ((((Fr.refl noBlock wr).drew).trans' h5c).alloc (.cells #[.int .i64 qn, .slice ta (fillB qb m).length tc] 69)) (x := (qn, (⟨ta, (fillB qb m).length, tc⟩ : SV))) (q := (qn, fillB qb m)) rfl rfl (h5b.fr0 ((Fr.refl noBlock w5).alloc _)) (fun k hk => Nat.le_trans hsz (h5d k hk)) o6 rfl g6
      rw [← Htk.out] at hM
      have HM := Lib.hid hM
      clear hM o6 g6 a6 hfB h5b h5c h5d
      go_wp2_with fail
      go_roundw
      case rel => exact ⟨i + 1, lo6, lc6, _, hi', by go_num, rfl, HM.out⟩
      case measure => simp [intOf]; omega
    · have q1 : (l.length : Int) ≤ (i : Int) := by omega
      have e : i = l.length := by omega
      subst e
      rw [List.take_length] at HO
      clear hO hlt
      go_wp2_with fail
      go_ret
      exact ⟨lo, lc, us, rfl, HO.out⟩

def allN (d : DK) : Nat := min (secs d).toNat 16
def allT (d : DK) (i : Nat) : Bs := (List.range i).flatMap (fun k : Nat => jreadB d (k : Int))
theorem allT_snoc (d : DK) (i : Nat) : allT d (i + 1) = allT d i ++ jreadB d (i : Int) := by unfold allT; rw [List.range_succ, List.flatMap_append]; simp
theorem readB_len {d : DK} (h : d.Good) (n : Int) : (d.readB n).length ≤ 4096 := by
  unfold DK.readB
  split
  · simp
  · split
    · simp
    · rename_i h1 h2
      have hs1 := h.s1
      cases hlk : lookD d.dirty n with
      | some b =>
        obtain ⟨p, hp, _, rfl⟩ := lookD_mem hlk
        have := (h.there p hp).2
        simp only [Option.getD_some]
        omega
      | none =>
        simp only [Option.getD_none]
        have hn : d.isS n = true := by simpa using h2
        obtain ⟨a, b⟩ := DK.isS_iff.1 hn
        have h0 : n.toNat < d.safe.length := by omega
        have : d.safe.getD n.toNat [] = d.safe[n.toNat] := by simp [List.getD, List.getElem?_eq_getElem h0]
        rw [this]
        have := h.sizes _ (List.getElem_mem h0)
        omega
theorem jreadB_len {d : DK} (h : d.Good) (n : Int) : (jreadB d n).length ≤ 4096 := by
  unfold jreadB
  split
  · exact readB_len h _
  · simp
theorem allT_len {d : DK} (h : d.Good) (i : Nat) : (allT d i).length ≤ 4096 * i := by
  induction i with
  | zero => simp [allT]
  | succ i ih => rw [allT_snoc, List.length_append]; have := jreadB_len h (i : Int); omega
theorem strB_app (a b : Bs) : strB a ++ strB b = strB (a ++ b) := by
  apply toList_inj'
  rw [strB_list, ByteArray.toList_eq, ByteArray.data_append, Array.toList_append]
  rfl
set_option maxRecDepth 100000 in
set_option maxHeartbeats 1600000 in
theorem all_any {j L : Nat} {d : DK} {bad : Int} {w : World} {H : Nat → Prop} (h : JAt j L d bad w H) : Calls Try.prog 30 #[.pointer (some ⟨j, 0, none⟩)] w fun e w' => e = .returned (.string (strB (allT d (allN d)))) ∧ Fr noBlock w w' := by
  have HA := Lib.hid h
  have hgd := h.good
  have HG := Lib.hid hgd
  obtain ⟨sn, hsn⟩ : ∃ sn, secs d = sn := ⟨_, rfl⟩
  have HS := Lib.hid hsn
  have hN : allN d = min sn.toNat 16 := by unfold allN; rw [hsn]
  have HN := Lib.hid hN
  clear h hgd hsn hN
  go_enter Try.func30, Try.ntmps30
  go_wp2_with fail
  go_loopw [3, 4] (fun s3 s4 wr => ∃ i : Nat, i ≤ allN d ∧ s4 = .int .i64 i ∧ s3 = .string (strB (allT d i)) ∧ Fr noBlock w wr) (fun _ s4 _ => 16 - (intOf s4).toNat)
  case atStart => exact ⟨0, Nat.zero_le _, rfl, rfl, Fr.refl _ _⟩
  case round =>
    obtain ⟨i, hi, rfl, rfl, hf⟩ := hrel
    have HF := Lib.hid hf
    have hi16 : i ≤ 16 := by have := HN.out; omega
    clear hf
    by_cases hlt : (i : Int) < sn ∧ i < 16
    · obtain ⟨q1, q2⟩ := hlt
      have q3 : (i : Int) < 16 := by omega
      have hln := allT_len HG.out i
      have hl2 := jreadB_len HG.out (i : Int)
      have hst := strB_app (allT d i) (jreadB d (i : Int))
      rw [← allT_snoc] at hst
      have hi' : i + 1 ≤ allN d := by have := HN.out; omega
      go_wp2_with fail
      refine (jsectors_any (JAt.ok.fr0 HA.out HF.out)).mono ?_
      rintro e w1 ⟨rfl, rfl⟩
      rw [HS.out]
      go_wp2_with fail
      refine (jread_any (JAt.ok.fr0 HA.out HF.out) (i : Int)).mono ?_
      rintro e w2 ⟨⟨sa, sn', sc⟩, rfl, hls, hrs, hfs, hns⟩
      simp only at hls
      subst hls
      have k5 := conv_rd (RowAt.rd hrs) sc
      have HF2 := Lib.hid (HF.out.trans' hfs)
      obtain ⟨x, hx⟩ : ∃ x, jreadE d (i : Int) = x := ⟨_, rfl⟩
      rw [hx]
      have hz1 := strB_size (allT d i)
      have hz2 := strB_size (jreadB d (i : Int))
      unfold SV.val
      dsimp only
      clear hrs hfs hns hx
      go_wp2_with fail
      go_roundw
      case rel => exact ⟨i + 1, hi', by go_num, rfl, HF2.out⟩
      case measure => simp [intOf]; omega
    · have e : i = allN d := by have := HN.out; omega
      have hcs : sn ≤ (i : Int) ∨ ((i : Int) < sn ∧ (16 : Int) ≤ (i : Int)) := by omega
      have HE := Lib.hid e
      clear hlt e
      rcases hcs with q | ⟨q, q'⟩
      all_goals
        go_wp2_with fail
        refine (jsectors_any (JAt.ok.fr0 HA.out HF.out)).mono ?_
        rintro e w1 ⟨rfl, rfl⟩
        rw [HS.out]
        go_wp2_with fail
        go_ret
        exact ⟨by rw [← HE.out]; rfl, HF.out⟩
end Go.Proofs.Ytmcckppmciflmaa
