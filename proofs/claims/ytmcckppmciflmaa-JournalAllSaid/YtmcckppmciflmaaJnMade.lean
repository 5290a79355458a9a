/-
  THE WALKS of the journal laws' made and all.
-/
import Derived.Test.YtmcckppmciflmaaJnTold
import Derived.Test.YtmcckppmciflmaaJnMay
import Derived.Test.YtmcckppmciflmaaDkSmall
namespace Go.Proofs.Ytmcckppmciflmaa
open Go.RowKit

/-- writes whose bytes are a sector's -/
def madeL (l : List JW) (m : Nat) : List JW := l.map (fun w => (w.1, fillB w.2 m))
def MadeP (l : List JW) (m : Nat) (w : World) (e : Ending) (w' : World) : Prop := ∃ lo lc ws, e = .returned (.slice lo l.length lc) ∧ OwnW w w' lo l.length lc ws (madeL l m)
set_option maxRecDepth 100000 in
set_option maxHeartbeats 1600000 in
theorem made_any {w : World} {H : Nat → Prop} {ao : Option Addr} {ws : List (Int × SV)} {l : List JW} (h : JWrs w H ao ws l) (cap : Nat) (hb : l.length * 32 ≤ 140737488351232) (hmax : ∀ w ∈ l, w.2.length ≤ 9223372036854775807) (m : Nat) (hm : m ≤ 4096) :
    Calls Try.prog 29 #[.slice ao l.length cap, .int .i64 m] w (MadeP l m w) := by
  have HW := Lib.hid h
  have HMax := Lib.hid hmax
  clear h hmax
  go_enter Try.func29, Try.ntmps29
  go_wp2_with fail
  go_loopw [5, 6] (fun s5 s6 wr => ∃ (i : Nat) (lo : Option Addr) (lc : Nat) (us : List (Int × SV)), i ≤ l.length ∧ s6 = .int .i64 i ∧ s5 = .slice lo i lc ∧ OwnW w wr lo i lc us (madeL (l.take i) m)) (fun _ s6 _ => l.length - (intOf s6).toNat)
  case atStart => exact ⟨0, none, 0, [], Nat.zero_le _, rfl, rfl, OwnW.nil (Fr.refl _ _)⟩
  case round =>
    obtain ⟨i, lo, lc, us, hi, rfl, rfl, hO⟩ := hrel
    have HO := Lib.hid hO
    have hsz := hO.fr.size
    by_cases hlt : i < l.length
    · have q1 : (i : Int) < (l.length : Int) := by omega
      have q0 : (0 : Int) ≤ (i : Int) := by omega
      obtain ⟨b, off, s, rfl, hbl, y0, y1, -, hsn, hbb⟩ := (HW.out.fr hO.fr).at' hlt
      have hmx := HMax.out l[i] (List.getElem_mem hlt)
      have htk : madeL (l.take (i + 1)) m = madeL (l.take i) m ++ [(l[i].1, fillB l[i].2 m)] := by
        unfold madeL
        rw [List.take_succ_eq_append_getElem hlt, List.map_append]
        rfl
      generalize l[i] = q at *
      obtain ⟨qn, qb⟩ := q
      obtain ⟨sa, sn, sc⟩ := s
      simp only at hsn y0 y1 hmx htk hbb
      have Htk := Lib.hid htk
      have HBb := Lib.hid hbb
      have hi' : i + 1 ≤ l.length := by omega
      have hbw : ¬ w.heap.size ≤ b := by
        obtain ⟨b', off', _, e, hb', _⟩ := HW.out.at' hlt
        cases e
        omega
      have HY := Lib.hid (fun (W : World) (hW : Fr (fun k => w.heap.size ≤ k) wr W) => And.intro ((hW.cell (p := ⟨b, off + i * 2, none⟩) hbl hbw).trans y0) ((hW.cell (p := ⟨b, off + i * 2 + 1, none⟩) hbl hbw).trans y1))
      clear hO htk hbb hlt y0 y1 hsn
      go_wp2_with fail
      go_region_held3 (fun W => W.cell? ⟨b, off + i * 2, none⟩ = some (.int .i64 qn) ∧ W.cell? ⟨b, off + i * 2 + 1, none⟩ = some (.slice sa qb.length sc))
        (first | exact HY.out _ ((Fr.refl _ _).drew) | exact HY.out _ ((((Fr.refl noBlock _).drew).trans' h5c).mono (fun _ x => x.elim)) | exact HY.out _ (((((Fr.refl noBlock _).drew).trans' h5c).alloc _).mono (fun _ x => x.elim)) | exact HY.out _ hfB)
        (first
          | (go_at_call 14; (with_reducible refine (fill_any (b := qb) (HBb.out.fr ((Fr.refl _ _).drew)).rd sc hmx m hm).mono ?_); rintro e w5 ⟨⟨ta, tn, tc⟩, rfl, h5a, h5b, h5c, h5d⟩; simp only at h5a; subst h5a; unfold SV.val; dsimp only)
          | (refine step_app (by rfl) _ _ (by rfl) el_writes (v := .slice lo i lc) us [(qn, (⟨ta, (fillB qb m).length, tc⟩ : SV))] (us ++ [(qn, (⟨ta, (fillB qb m).length, tc⟩ : SV))]) rfl w.heap.size i (i + 1) (by rw [List.length_append, HO.out.len]; rfl) (by rfl) (HO.out.own' ((((Fr.refl _ _).drew).trans' h5c).alloc _)) (by rfl) (RowRd.one (heap_new w5 _) (qn, (⟨ta, (fillB qb m).length, tc⟩ : SV)) rfl) rfl (by unfold maxLen; omega) (by omega) (by have := h5c.size; simp at this ⊢; omega) ?_; intro lo6 lc6 w6 o6 g6 a6; have hfB : Fr (fun k => w.heap.size ≤ k) wr w6 := (((((Fr.refl noBlock wr).drew).trans' h5c).alloc (.cells #[.int .i64 qn, .slice ta (fillB qb m).length tc] 69)).mono (T := fun k => w.heap.size ≤ k) (fun _ x => x.elim)).grown g6 (fun k hk => .inl (HO.out.own.lt k hk).1)))
      have hM := HO.out.more ((((Fr.refl noBlock wr).drew).trans' h5c).alloc (.cells #[.int .i64 qn, .slice ta (fillB qb m).length tc] 69)) (x := (qn, (⟨ta, (fillB qb m).length, tc⟩ : SV))) (q := (qn, fillB qb m)) rfl rfl (h5b.fr0 ((Fr.refl noBlock w5).alloc _)) (fun k hk => Nat.le_trans hsz (h5d k hk)) o6 rfl g6
      rw [← Htk.out] at hM
      have HM := Lib.hid hM
      clear hM o6 g6 a6 hfB h5b h5c h5d
      go_wp2_with fail
      go_roundw
      case rel => exact ⟨i + 1, lo6, lc6, _, hi', by go_num, rfl, HM.out⟩
      case measure => simp [intOf]; omega
    · have q1 : (l.length : Int) ≤ (i : Int) := by omega
      have e : i = l.length := by omega
      subst e
      rw [List.take_length] at HO
      clear hO hlt
      go_wp2_with fail
      go_ret
      exact ⟨lo, lc, us, rfl, HO.out⟩

def allN (d : DK) : Nat := min (secs d).toNat 16
def allT (d : DK) (i : Nat) : Bs := (List.range i).flatMap (fun k : Nat => jreadB d (k : Int))
theorem allT_snoc (d : DK) (i : Nat) : allT d (i + 1) = allT d i ++ jreadB d (i : Int) := by unfold allT; rw [List.range_succ, List.flatMap_append]; simp
theorem readB_len {d : DK} (h : d.Good) (n : Int) : (d.readB n).length ≤ 4096 := by
  unfold DK.readB
  split
  · simp
  · split
    · simp
    · rename_i h1 h2
      have hs1 := h.s1
      cases hlk : lookD d.dirty n with
      | some b =>
        obtain ⟨p, hp, _, rfl⟩ := lookD_mem hlk
        have := (h.there p hp).2
        simp only [Option.getD_some]
        omega
      | none =>
        simp only [Option.getD_none]
        have hn : d.isS n = true := by simpa using h2
        obtain ⟨a, b⟩ := DK.isS_iff.1 hn
        have h0 : n.toNat < d.safe.length := by omega
        have : d.safe.getD n.toNat [] = d.safe[n.toNat] := by simp [List.getD, List.getElem?_eq_getElem h0]
        rw [this]
        have := h.sizes _ (List.getElem_mem h0)
        omega
theorem jreadB_len {d : DK} (h : d.Good) (n : Int) : (jreadB d n).length ≤ 4096 := by
  unfold jreadB
  split
  · exact readB_len h _
  · simp
theorem allT_len {d : DK} (h : d.Good) (i : Nat) : (allT d i).length ≤ 4096 * i := by
  induction i with
  | zero => simp [allT]
  | succ i ih => rw [allT_snoc, List.length_append]; have := jreadB_len h (i : Int); omega
theorem strB_app (a b : Bs) : strB a ++ strB b = strB (a ++ b) := by
  apply toList_inj'
  rw [strB_list, ByteArray.toList_eq, ByteArray.data_append, Array.toList_append]
  rfl
set_option maxRecDepth 100000 in
set_option maxHeartbeats 1600000 in
theorem all_any {j L : Nat} {d : DK} {bad : Int} {w : World} {H : Nat → Prop} (h : JAt j L d bad w H) : Calls Try.prog 30 #[.pointer (some ⟨j, 0, none⟩)] w fun e w' => e = .returned (.string (strB (allT d (allN d)))) ∧ Fr noBlock w w' := by
  have HA := Lib.hid h
  have hgd := h.good
  have HG := Lib.hid hgd
  obtain ⟨sn, hsn⟩ : ∃ sn, secs d = sn := ⟨_, rfl⟩
  have HS := Lib.hid hsn
  have hN : allN d = min sn.toNat 16 := by unfold allN; rw [hsn]
  have HN := Lib.hid hN
  clear h hgd hsn hN
  go_enter Try.func30, Try.ntmps30
  go_wp2_with fail
  go_loopw [3, 4] (fun s3 s4 wr => ∃ i : Nat, i ≤ allN d ∧ s4 = .int .i64 i ∧ s3 = .string (strB (allT d i)) ∧ Fr noBlock w wr) (fun _ s4 _ => 16 - (intOf s4).toNat)
  case atStart => exact ⟨0, Nat.zero_le _, rfl, rfl, Fr.refl _ _⟩
  case round =>
    obtain ⟨i, hi, rfl, rfl, hf⟩ := hrel
    have HF := Lib.hid hf
    have hi16 : i ≤ 16 := by have := HN.out; omega
    clear hf
    by_cases hlt : (i : Int) < sn ∧ i < 16
    · obtain ⟨q1, q2⟩ := hlt
      have q3 : (i : Int) < 16 := by omega
      have hln := allT_len HG.out i
      have hl2 := jreadB_len HG.out (i : Int)
      have hst := strB_app (allT d i) (jreadB d (i : Int))
      rw [← allT_snoc] at hst
      have hi' : i + 1 ≤ allN d := by have := HN.out; omega
      go_wp2_with fail
      refine (jsectors_any (JAt.ok.fr0 HA.out HF.out)).mono ?_
      rintro e w1 ⟨rfl, rfl⟩
      rw [HS.out]
      go_wp2_with fail
      refine (jread_any (JAt.ok.fr0 HA.out HF.out) (i : Int)).mono ?_
      rintro e w2 ⟨⟨sa, sn', sc⟩, rfl, hls, hrs, hfs, hns⟩
      simp only at hls
      subst hls
      have k5 := conv_rd (RowAt.rd hrs) sc
      have HF2 := Lib.hid (HF.out.trans' hfs)
      obtain ⟨x, hx⟩ : ∃ x, jreadE d (i : Int) = x := ⟨_, rfl⟩
      rw [hx]
      have hz1 := strB_size (allT d i)
      have hz2 := strB_size (jreadB d (i : Int))
      unfold SV.val
      dsimp only
      clear hrs hfs hns hx
      go_wp2_with fail
      go_roundw
      case rel => exact ⟨i + 1, hi', by go_num, rfl, HF2.out⟩
      case measure => simp [intOf]; omega
    · have e : i = allN d := by have := HN.out; omega
      have hcs : sn ≤ (i : Int) ∨ ((i : Int) < sn ∧ (16 : Int) ≤ (i : Int)) := by omega
      have HE := Lib.hid e
      clear hlt e
      rcases hcs with q | ⟨q, q'⟩
      all_goals
        go_wp2_with fail
        refine (jsectors_any (JAt.ok.fr0 HA.out HF.out)).mono ?_
        rintro e w1 ⟨rfl, rfl⟩
        rw [HS.out]
        go_wp2_with fail
        go_ret
        exact ⟨by rw [← HE.out]; rfl, HF.out⟩
end Go.Proofs.Ytmcckppmciflmaa
