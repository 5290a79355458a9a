/-
  THE WALK of the journal's sum: the check sum of the writes' bytes, in four bytes.
-/
import Derived.Test.YtmcckppmciflmaaJnAt
import Derived.Test.YtmcckppmciflmaaCrc
namespace Go.Proofs.Ytmcckppmciflmaa
open Go.RowKit

/-- writes that came in, beside H -/
structure JWrs (w : World) (H : Nat → Prop) (ao : Option Addr) (ws : List (Int × SV)) (l : List JW) : Prop where
  rows : Bes DirtR ao ws w H
  len : ws.length = l.length
  each : ∀ (i : Nat) (p : Int × SV) (q : JW), ws[i]? = some p → l[i]? = some q → p.1 = q.1 ∧ p.2.n = q.2.length ∧ Bes ByteR p.2.ao q.2 w H
theorem JWrs.step {w w' : World} {H H' : Nat → Prop} {ao : Option Addr} {ws : List (Int × SV)} {l : List JW} (h : JWrs w H ao ws l) (t : Step H H' w w') : JWrs w' H' ao ws l :=
  ⟨h.rows.step t, h.len, fun i p q a b => ⟨(h.each i p q a b).1, (h.each i p q a b).2.1, (h.each i p q a b).2.2.step t⟩⟩
theorem JWrs.fr {w w' : World} {H : Nat → Prop} {ao : Option Addr} {ws : List (Int × SV)} {l : List JW} (h : JWrs w H ao ws l) (f : Fr noBlock w w') : JWrs w' H ao ws l := h.step (Step.same f)
theorem JWrs.sub {w : World} {H G : Nat → Prop} {ao : Option Addr} {ws : List (Int × SV)} {l : List JW} (h : JWrs w H ao ws l) (hg : ∀ k, G k → H k) : JWrs w G ao ws l :=
  ⟨h.rows.sub hg, h.len, fun i p q a b => ⟨(h.each i p q a b).1, (h.each i p q a b).2.1, (h.each i p q a b).2.2.sub hg⟩⟩
/-- the i-th write -/
theorem JWrs.at' {w : World} {H : Nat → Prop} {ao : Option Addr} {ws : List (Int × SV)} {l : List JW} (h : JWrs w H ao ws l) {i : Nat} (hi : i < l.length) :
    ∃ b off s, ao = some ⟨b, off, none⟩ ∧ b < w.heap.size ∧ w.cell? ⟨b, off + i * 2, none⟩ = some (.int .i64 l[i].1) ∧ w.cell? ⟨b, off + i * 2 + 1, none⟩ = some (.slice s.ao l[i].2.length s.cap) ∧ ws[i]? = some (l[i].1, s) ∧ s.n = l[i].2.length ∧ Bes ByteR s.ao l[i].2 w H := by
  have hi' : i < ws.length := by rw [h.len]; exact hi
  obtain ⟨b, off, e, hb, h3⟩ := h.rows.rd.at' i hi'
  obtain ⟨e1, e2, e3⟩ := h.each i ws[i] l[i] (List.getElem?_eq_getElem hi') (List.getElem?_eq_getElem hi)
  refine ⟨b, off, ws[i].2, e, hb, ?_, ?_, ?_, e2, e3⟩
  · have := h3 0 (.int .i64 ws[i].1) rfl
    rw [e1] at this
    exact this
  · have := h3 1 ws[i].2.val rfl
    unfold SV.val at this
    rw [e2] at this
    exact this
  · rw [List.getElem?_eq_getElem hi', ← e1]
/-- one new thing, in the second block that is new -/
theorem RowRd.one2 {α : Type} {R : Rec α} (w : World) (o : Obj) {cs : Array Value} {t : TypeId} {f : Nat × Nat} (x : α) (hx : cs.toList = R.cells x) : RowRd R ((w.alloc o).alloc (.cells cs t f)) (some ⟨w.heap.size + 1, 0, none⟩) [x] := by
  have := RowRd.one (heap_new (w.alloc o) (.cells cs t f)) x hx
  simpa using this
theorem u8_of (n : Nat) : ((UInt8.ofNat n).toNat : Int) = (n : Int) % 256 := by rw [UInt8.toNat_ofNat']; omega
set_option maxRecDepth 100000 in
set_option maxHeartbeats 1600000 in
theorem jsum_any {w : World} {H : Nat → Prop} {ao : Option Addr} {ws : List (Int × SV)} {l : List JW} (h : JWrs w H ao ws l) (cap : Nat) (hl : l.length ≤ 1000000) : Calls Try.prog 71 #[.slice ao l.length cap] w (CloneP (sumB l) w) := by
  have HW := Lib.hid h
  have hlen := h.len
  have HL := Lib.hid hlen
  clear h
  go_enter Try.func71, Try.ntmps71
  go_wp2_with fail
  go_loopw [3, 9] (fun s3 s9 wr => ∃ (i : Nat) (po : Option Addr) (pc : Nat), i ≤ l.length ∧ s9 = .int .i64 i ∧ s3 = .slice po i pc ∧ wr.ownsRow w.heap.size 23 SliceR.k (.slice po i pc) i (SliceR.flat ((ws.take i).map Prod.snd)) ∧ Fr noBlock w wr) (fun _ s9 _ => l.length - (intOf s9).toNat)
  case atStart => exact ⟨0, none, 0, Nat.zero_le _, rfl, rfl, World.ownsRow_nil _ _ _ _, Fr.refl _ _⟩
  case round =>
    obtain ⟨i, po, pc, hi, rfl, rfl, hrow, hf⟩ := hrel
    have Hf := Lib.hid hf
    have Hrow := Lib.hid hrow
    have hsz := hf.size
    by_cases hlt : i < l.length
    · have q1 : (i : Int) < (l.length : Int) := by omega
      obtain ⟨b, off, s, rfl, hb, y0, y1, hws, -, -⟩ := (HW.out.fr hf).at' hlt
      have hzs : (ws.take i).map Prod.snd ++ [s] = (ws.take (i + 1)).map Prod.snd := by
        rw [List.take_add_one, hws]; simp
      have Hzs := Lib.hid hzs
      have hln : ((ws.take (i + 1)).map Prod.snd).length = i + 1 := by simp; omega
      have Hln := Lib.hid hln
      obtain ⟨sa, sn, sc⟩ := s
      simp only at y1
      have hsn : sn = l[i].2.length := by
        have hi' : i < ws.length := by omega
        have := (HW.out.each i _ l[i] hws (List.getElem?_eq_getElem hlt)).2.1
        exact this
      generalize l[i] = q at *
      obtain ⟨qn, qb⟩ := q
      simp only at y0 y1 hsn
      subst hsn
      clear hws hzs hln hlt hlen hrow hf
      go_wp2_with (at_builtin; apply stop_here)
      refine ⟨?_, trivial⟩
      refine wpList_app rfl _ _ rfl el_rows (v := .slice po i pc) ((ws.take i).map Prod.snd) [(⟨sa, qb.length, sc⟩ : SV)] ((ws.take (i + 1)).map Prod.snd) Hzs.out w.heap.size i (i + 1) Hln.out.symm rfl ((Hrow.out.alloc _).alloc _) rfl (RowRd.one2 wr _ (⟨sa, qb.length, sc⟩ : SV) rfl) rfl (by unfold maxLen; omega) (by omega) (by simp; omega) ?_
      intro ao3 cap3 w3 o3 g3 _
      go_frame
      have O3 := Lib.hid o3
      have Hf3 := Lib.hid (((Hf.out.alloc _).alloc _).grown g3 (fun k hk => .inr (Hrow.out.lt k hk).1))
      clear o3 g3
      go_wp2_with fail
      go_roundw
      case rel => exact ⟨i + 1, ao3, cap3, by omega, by go_num, rfl, O3.out, Hf3.out⟩
      case measure => simp [intOf]; omega
    · have q1 : (l.length : Int) ≤ (i : Int) := by omega
      have e : i = l.length := by omega
      subst e
      have htk : (ws.take l.length).map Prod.snd = ws.map Prod.snd := by rw [List.take_of_length_le (by omega)]
      have hrow2 := hrow
      rw [htk] at hrow2
      have hml : (ws.map Prod.snd).length = l.length := by simp [hlen]
      have hat : RowAt 23 SliceR wr (.slice po l.length pc) (ws.map Prod.snd) := RowAt.of_own hrow2 hml.symm
      have hrd := RowAt.rd hat
      have hpr : PartsRd wr (ws.map Prod.snd) (l.map Prod.snd) := by
        refine ⟨by simp [hlen], fun i s p h1 h2 => ?_⟩
        rw [List.getElem?_map, Option.map_eq_some_iff] at h1 h2
        obtain ⟨a, ha, rfl⟩ := h1
        obtain ⟨b, hb, rfl⟩ := h2
        obtain ⟨_, e2, e3⟩ := HW.out.each i a b ha hb
        exact ⟨e2, (e3.fr hf).rd⟩
      have hfl : (l.map Prod.snd).flatten = l.flatMap Prod.snd := by rw [List.flatMap_def]
      have Hs := Lib.hid (sum_any hrd hpr pc (by omega))
      rw [hml, hfl] at Hs
      have hcr := crc_range (l.flatMap Prod.snd)
      obtain ⟨cs, hcs⟩ : ∃ cs : Nat, crc (l.flatMap Prod.snd) = (cs : Int) := ⟨(crcS (l.flatMap Prod.snd)).toNat, rfl⟩
      have hsb : sumB l = by4 cs := by unfold sumB; congr 1; unfold crc at hcs; omega
      rw [hcs] at hcr
      rw [hcs] at Hs
      have Hsb := Lib.hid hsb
      obtain ⟨hc0, hc1⟩ := hcr
      clear htk hrow2 hml hat hrd hpr hfl hcs hsb hrow hf hlt hlen
      go_wp2_with fail
      refine Hs.out.mono ?_
      rintro e w2 ⟨rfl, f2⟩
      have HF2 := Lib.hid (Hf.out.trans' f2)
      clear f2
      go_wp2_with fail
      go_ret
      have hbk := heap_new w2 (.cells #[.int .u8 ((cs : Int) / 16777216), .int .u8 ((cs : Int) / 65536 % 256), .int .u8 ((cs : Int) / 256 % 256), .int .u8 ((cs : Int) % 256)] 5 (0, 0))
      refine ⟨⟨some ⟨w2.heap.size, 0, none⟩, 4, 4⟩, rfl, rfl, ?_, HF2.out.alloc _, fun k hk => by cases hk; exact HF2.out.size⟩
      rw [Hsb.out]
      refine RowAt.of_block (xs := by4 cs) hbk (by simp [by4]) (by show 4 ≤ maxLen; unfold maxLen; omega) rfl ?_
      rw [flat_bytes]
      simp only [by4, List.map_cons, List.map_nil, byteV, u8_of]
      have e1 : ((cs / 16777216 : Nat) : Int) % 256 = (cs : Int) / 16777216 := by omega
      have e2 : ((cs / 65536 : Nat) : Int) % 256 = (cs : Int) / 65536 % 256 := by omega
      have e3 : ((cs / 256 : Nat) : Int) % 256 = (cs : Int) / 256 % 256 := by omega
      rw [e1, e2, e3]
      rfl
end Go.Proofs.Ytmcckppmciflmaa
