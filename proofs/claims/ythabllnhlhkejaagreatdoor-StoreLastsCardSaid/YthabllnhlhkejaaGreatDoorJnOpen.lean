/-
  THE WALK of the journal's Open.
-/
import Derived.Test.YthabllnhlhkejaaGreatDoorJnTold
import Derived.Test.YthabllnhlhkejaaGreatDoorDkNew
import Derived.Test.YthabllnhlhkejaaGreatDoorByteS
namespace Go.Proofs.YthabllnhlhkejaaGreatDoor
open Go.RowKit

theorem Bes.far {α : Type} {R : Rec α} {ao : Option Addr} {xs : List α} {w0 w : World} {H G : Nat → Prop} (h : Bes R ao xs w0 H) (hf : Fr noBlock w0 w) (hG : ∀ k, G k → H k ∨ w0.heap.size ≤ k) : Bes R ao xs w G :=
  ⟨h.rd.fr0 hf, fun h0 a e => ⟨fun hk => (hG _ hk).elim (h.ap h0 a e).1 (fun hle => by have := (h.ap h0 a e).2; omega), Nat.lt_of_lt_of_le (h.ap h0 a e).2 hf.size⟩⟩
/-- H, and a row's block -/
def rowF (H : Nat → Prop) (po : Option Addr) (n pc : Nat) : Nat → Prop := fun k => H k ∨ (Value.slice po n pc).ownBlock = some k
/-- acts to come, in a row of one's own -/
structure StL (w0 w : World) (H : Nat → Prop) (j L : Nat) (po : Option Addr) (n pc : Nat) (ss : List Stp) (ac : List JA) : Prop where
  own : w.ownsRow w0.heap.size 103 (StpR L).k (.slice po n pc) n ((StpR L).flat ss)
  len : n = ss.length
  ok : ∀ s ∈ ss, s.Ok w (rowF H po n pc) j
  acts : ss.map Stp.act = ac
  fr : Fr noBlock w0 w
namespace StL
variable {w0 w w' w1 w2 : World} {H : Nat → Prop} {j L : Nat} {po po2 : Option Addr} {n pc n2 pc2 : Nat} {ss ts : List Stp} {ac bs : List JA}
theorem nil (hf : Fr noBlock w0 w) : StL w0 w H j L none 0 0 [] [] := ⟨World.ownsRow_nil _ _ _ _, rfl, (fun s h => by cases h), rfl, hf⟩
theorem own' (h : StL w0 w H j L po n pc ss ac) (hf : Fr noBlock w w') : w'.ownsRow w0.heap.size 103 (StpR L).k (.slice po n pc) n ((StpR L).flat ss) := ownsRow_fr h.own hf (fun _ _ x => x)
theorem to (h : StL w0 w H j L po n pc ss ac) (hf : Fr noBlock w w') : StL w0 w' H j L po n pc ss ac := ⟨h.own' hf, h.len, fun s hs => (h.ok s hs).fr hf, h.acts, h.fr.trans' hf⟩
theorem row_lt (h : StL w0 w H j L po n pc ss ac) : ∀ k, (Value.slice po n pc).ownBlock = some k → w0.heap.size ≤ k ∧ k < w.heap.size := h.own.lt
theorem F_lt (h : StL w0 w H j L po n pc ss ac) (hH : ∀ k, H k → k < w0.heap.size) : ∀ k, rowF H po n pc k → k < w.heap.size := fun k hk => hk.elim (fun hk => Nat.lt_of_lt_of_le (hH k hk) h.fr.size) (fun hk => (h.row_lt k hk).2)
theorem F_far (h : StL w0 w H j L po n pc ss ac) : ∀ k, rowF H po n pc k → H k ∨ w0.heap.size ≤ k := fun k hk => hk.imp (fun x => x) (fun hk => (h.row_lt k hk).1)
/-- more acts behind them: w1 is the world ahead of the append -/
theorem more (h : StL w0 w H j L po n pc ss ac) (hf : Fr noBlock w w1) (hts : ∀ s ∈ ts, s.Ok w1 (rowF H po n pc) j) (ht : ts.map Stp.act = bs)
    (ho : w2.ownsRow w0.heap.size 103 (StpR L).k (.slice po2 n2 pc2) n2 ((StpR L).flat (ss ++ ts))) (hn : n2 = n + ts.length) (hg : w1.grownBy w2 (Value.slice po n pc).ownBlock)
    (hat : (Value.slice po2 n2 pc2).ownBlock = (Value.slice po n pc).ownBlock ∨ (Value.slice po2 n2 pc2).ownBlock = some w1.heap.size) (_ : ∀ k, H k → k < w0.heap.size) : StL w0 w2 H j L po2 n2 pc2 (ss ++ ts) (ac ++ bs) := by
  have hf2 : Fr noBlock w0 w2 := (h.fr.trans' hf).grown hg (fun k hk => .inr (h.own.lt k hk).1)
  have hst : Step (rowF H po n pc) (rowF H po2 n2 pc2) w1 w2 := ⟨(Fr.refl _ w1).grown hg (fun k hk => .inl (.inr hk)), fun k hk => hk.elim (fun hk => .inl (.inl hk)) (fun hk => hat.elim (fun e => .inl (.inr (e ▸ hk))) (fun e => .inr (by rw [e] at hk; cases hk; exact Nat.le_refl _)))⟩
  refine ⟨ho, by rw [hn, h.len, List.length_append], fun s hs => ?_, by rw [List.map_append, h.acts, ht], hf2⟩
  rcases List.mem_append.1 hs with hs | hs
  · exact ((h.ok s hs).fr hf).step hst
  · exact (hts s hs).step hst
/-- its row, beside H -/
theorem bes (h : StL w0 w H j L po n pc ss ac) (hH : ∀ k, H k → k < w0.heap.size) : Bes (StpR L) po ss w H := by
  have hr : RowAt 103 (StpR L) w (.slice po n pc) ss := RowAt.of_own h.own h.len
  exact ⟨RowAt.rd hr, fun _ a e => by
    subst e
    have := h.row_lt a.block rfl
    exact ⟨fun hk => by have := hH _ hk; omega, this.2⟩⟩
theorem ok' (h : StL w0 w H j L po n pc ss ac) : ∀ s ∈ ss, s.Ok w H j := fun s hs => by
  have := h.ok s hs
  cases s with
  | fl => trivial
  | wr p3 p4 p5 n s b =>
    have h' : WCell w (rowF H po _ pc) j p3 p4 p5 n s b := this
    exact (⟨h'.c3, fun x => h'.a3 (.inl x), h'.c4, fun x => h'.a4 (.inl x), h'.c5, fun x => h'.a5 (.inl x), h'.len, h'.row.sub (fun _ x => .inl x), h'.max⟩ : WCell w H j p3 p4 p5 n s b)
end StL
/-- a write's act among rows that are under way -/
theorem WCell.mk' {j : Nat} {n : Int} {s : SV} {b : Bs} {w w' : World} {F : Nat → Prop} {p3 p4 p5 : Nat} (h3 : w'.cell? ⟨p3, 0, none⟩ = some (.pointer (some ⟨j, 0, none⟩))) (h4 : w'.cell? ⟨p4, 0, none⟩ = some (.int .i64 n)) (h5 : w'.cell? ⟨p5, 0, none⟩ = some s.val)
    (g3 : w.heap.size ≤ p3) (g4 : w.heap.size ≤ p4) (g5 : w.heap.size ≤ p5) (hF : ∀ k, F k → k < w.heap.size) (hl : s.n = b.length) (hb : Bes ByteR s.ao b w' F) (hm : b.length ≤ 9223372036854775807) : (Stp.wr p3 p4 p5 n s b).Ok w' F j :=
  JWrP.stp h3 h4 h5 g3 g4 g5 hF hl hb hm

theorem homeA_take {l : List JW} {i : Nat} (hi : i < l.length) : homeA (l.take (i + 1)) = homeA (l.take i) ++ [some (9 + l[i].1, l[i].2)] := by
  unfold homeA
  rw [List.take_succ_eq_append_getElem hi, List.map_append]
  simp
def StepsP (w0 : World) (H : Nat → Prop) (j L : Nat) (ac : List JA) (e : Ending) (w' : World) : Prop := ∃ po n pc ss, e = .returned (.slice po n pc) ∧ StL w0 w' H j L po n pc ss ac
set_option maxRecDepth 100000 in
set_option maxHeartbeats 1600000 in
theorem jhomes_any' {j L : Nat} {w : World} {H : Nat → Prop} (c0 : w.cell? ⟨j, 0, none⟩ = some (.pointer (some ⟨L, 0, none⟩))) (hlt : ∀ k, H k → k < w.heap.size) {ao : Option Addr} {ws : List (Int × SV)} {l : List JW} (hw : JWrs w H ao ws l) (cap : Nat) (hl : l.length ≤ 8) (hsec : ∀ w ∈ l, 0 ≤ w.1 ∧ w.1 < 65536) (hmax : ∀ w ∈ l, w.2.length ≤ 9223372036854775807) :
    Calls Tryz.prog 46 #[.pointer (some ⟨j, 0, none⟩), .slice ao l.length cap] w (StepsP w H j L (homeA l ++ [none])) := by
  have HW := Lib.hid hw
  have HSec := Lib.hid hsec
  have HMax := Lib.hid hmax
  have HH := Lib.hid hlt
  have hj := lt_of_cell c0
  have C0 := Lib.hid c0
  clear hw hsec hmax hlt
  go_enter Tryz.func46, Tryz.ntmps46
  go_wp2_with fail
  go_loopw [5, 10] (fun s5 s10 wr => ∃ (i : Nat) (po : Option Addr) (pc : Nat) (ss : List Stp), i ≤ l.length ∧ s10 = .int .i64 i ∧ s5 = .slice po i pc ∧ StL w wr H j L po i pc ss (homeA (l.take i))) (fun _ s10 _ => l.length - (intOf s10).toNat)
  case atStart => exact ⟨0, none, 0, [], Nat.zero_le _, rfl, rfl, StL.nil (Fr.refl _ _)⟩
  case round =>
    obtain ⟨i, po, pc, ss, hi, rfl, rfl, hS⟩ := hrel
    have HS := Lib.hid hS
    have Hsl := Lib.hid hS.len
    have hsz := hS.fr.size
    have x0 := (hS.fr.cell (p := ⟨j, 0, none⟩) hj (fun x => x)).trans C0.out
    clear c0
    by_cases hlt : i < l.length
    · have q1 : (i : Int) < (l.length : Int) := by omega
      obtain ⟨b, off, s, rfl, hb, y0, y1, hws, hsn, -⟩ := (HW.out.fr hS.fr).at' hlt
      have hst := homeA_take hlt
      have hsec := HSec.out l[i] (List.getElem_mem hlt)
      have hmx := HMax.out l[i] (List.getElem_mem hlt)
      have hbF : Bes ByteR s.ao l[i].2 wr (rowF H po i pc) := (HW.out.each i _ l[i] hws (List.getElem?_eq_getElem hlt)).2.2.far hS.fr hS.F_far
      generalize l[i] = q at *
      obtain ⟨qn, qb⟩ := q
      obtain ⟨sa, sn, sc⟩ := s
      simp only at hsn y0 y1 hsec hmx hst
      subst hsn
      obtain ⟨hq0, hq1⟩ := hsec
      have Hst := Lib.hid hst
      have HbF := Lib.hid hbF
      clear hS hst hbF hws hlt x0
      have hi' : i + 1 ≤ l.length := by omega
      go_wp2_with fail
      refine (jwrite_any j _ sa qb.length sc _).mono ?_
      rintro e w2 ⟨p3, p4, p5, rfl, k3, k4, k5, g3, g4, g5, f2⟩
      have fA := ((Fr.refl noBlock wr).alloc (.cells #[.int .i64 qn, .slice sa qb.length sc] 79)).trans' f2
      have hWr : (Stp.wr p3 p4 p5 (9 + qn) ⟨sa, qb.length, sc⟩ qb).Ok w2 (rowF H po i pc) j :=
        WCell.mk' (w := wr) k3 k4 k5 (by simp at g3; omega) (by simp at g4; omega) (by simp at g5; omega) (HS.out.F_lt HH.out) rfl (HbF.out.fr fA) hmx
      have HB := Lib.hid (And.intro hWr fA)
      clear k3 k4 k5 g3 g4 g5 f2 hWr fA
      go_wp2_with (at_builtin; apply stop_here)
      refine ⟨?_, trivial⟩
      refine wpList_app rfl _ _ rfl (el_steps L) (v := .slice po i pc) ss [Stp.wr p3 p4 p5 (9 + qn) ⟨sa, qb.length, sc⟩ qb] (ss ++ [Stp.wr p3 p4 p5 (9 + qn) ⟨sa, qb.length, sc⟩ qb]) rfl w.heap.size i (i + 1) (by rw [List.length_append, ← Hsl.out]; rfl) rfl (HS.out.own' (HB.out.2.alloc _)) rfl (RowRd.one (heap_new w2 _) _ rfl) rfl (by unfold maxLen; omega) (by omega) (by have := HB.out.2.size; simp; omega) ?_
      intro ao3 cap3 w3 o3 g3 a3
      go_frame
      have hM := HS.out.more (HB.out.2.alloc (.cells #[.func (.func 69) #[] #[.pointer (some ⟨p3, 0, none⟩), .pointer (some ⟨p4, 0, none⟩), .pointer (some ⟨p5, 0, none⟩)]] 103)) (ts := [Stp.wr p3 p4 p5 (9 + qn) ⟨sa, qb.length, sc⟩ qb]) (bs := [some (9 + qn, qb)]) (fun s hs => by
        simp at hs
        subst hs
        exact HB.out.1.fr ((Fr.refl noBlock w2).alloc _)) rfl o3 rfl g3 a3 HH.out
      have HM := Lib.hid hM
      clear o3 g3 a3 hM
      go_wp2_with fail
      go_roundw
      case rel => exact ⟨i + 1, ao3, cap3, _, hi', by go_num, rfl, by rw [Hst.out]; exact HM.out⟩
      case measure => simp [intOf]; omega
    · have q1 : (l.length : Int) ≤ (i : Int) := by omega
      have e : i = l.length := by omega
      subst e
      rw [List.take_length] at HS
      clear hS hlt
      go_wp2_with (at_builtin; apply stop_here)
      refine ⟨?_, trivial⟩
      refine wpList_app rfl _ _ rfl (el_steps L) (v := .slice po l.length pc) ss [Stp.fl] (ss ++ [Stp.fl]) rfl w.heap.size l.length (l.length + 1) (by rw [List.length_append, ← Hsl.out]; rfl) rfl (HS.out.own' ((Fr.refl _ _).alloc _)) rfl (RowRd.one (heap_new wr _) _ rfl) rfl (by unfold maxLen; omega) (by omega) (by simp; omega) ?_
      intro ao3 cap3 w3 o3 g3 a3
      go_frame
      have hM := HS.out.more ((Fr.refl noBlock wr).alloc (.cells #[.func (.func 44) #[.pointer (some ⟨L, 0, none⟩)] #[]] 103)) (ts := [Stp.fl]) (bs := [none]) (fun s hs => by
        simp at hs
        subst hs
        trivial) rfl o3 rfl g3 a3 HH.out
      have HM := Lib.hid hM
      clear o3 g3 a3 hM
      go_wp2_with fail
      go_ret
      exact ⟨ao3, _, cap3, _, rfl, HM.out⟩
theorem jhomes_any {j L : Nat} {d : DK} {bad : Int} {w : World} {H : Nat → Prop} (h : JAt j L d bad w H) {ao : Option Addr} {ws : List (Int × SV)} {l : List JW} (hw : JWrs w H ao ws l) (cap : Nat) (hl : l.length ≤ 8) (hsec : ∀ w ∈ l, 0 ≤ w.1 ∧ w.1 < 65536) (hmax : ∀ w ∈ l, w.2.length ≤ 9223372036854775807) :
    Calls Tryz.prog 46 #[.pointer (some ⟨j, 0, none⟩), .slice ao l.length cap] w (StepsP w H j L (homeA l ++ [none])) := jhomes_any' h.cells.1 (JAt.ok.lt h) hw cap hl hsec hmax
theorem JWrs.far {w0 w : World} {H G : Nat → Prop} {ao : Option Addr} {ws : List (Int × SV)} {l : List JW} (h : JWrs w0 H ao ws l) (hf : Fr noBlock w0 w) (hG : ∀ k, G k → H k ∨ w0.heap.size ≤ k) : JWrs w G ao ws l :=
  ⟨h.rows.far hf hG, h.len, fun i p q a b => ⟨(h.each i p q a b).1, (h.each i p q a b).2.1, (h.each i p q a b).2.2.far hf hG⟩⟩
end Go.Proofs.YthabllnhlhkejaaGreatDoor
namespace Go.Proofs.YthabllnhlhkejaaGreatDoor
open Go.RowKit

theorem stp_rd {l : Nat} {w : World} {b off : Nat} {ss : List Stp} (h : RowRd (StpR l) w (some ⟨b, off, none⟩) ss) {i : Nat} (hi : i < ss.length) : w.cell? ⟨b, off + i, none⟩ = some (ss[i].val l) := by
  obtain ⟨b', off', e, _, h3⟩ := h.at' i hi
  cases e
  have := h3 0 (ss[i].val l) rfl
  simpa [stpK] using this
set_option maxRecDepth 100000 in
set_option maxHeartbeats 1600000 in
theorem steps_any' {j l : Nat} {d : DK} {bad : Int} {w : World} {H : Nat → Prop} (h : JAt j l d bad w H) {lo : Option Addr} {ss : List Stp} (hs : Bes (StpR l) lo ss w H) (ho : ∀ s ∈ ss, s.Ok w H j) (cap : Nat) (hl : ss.length ≤ 1000000) {r : DK × Int} (hr : jrun (d, bad) (ss.map Stp.act) = r) :
    Calls Tryz.prog 47 #[.pointer (some ⟨j, 0, none⟩), .slice lo ss.length cap] w (JWriteP j l r.1 r.2 r.2 H w) := by
  have HH := Lib.hid h
  have HS := Lib.hid hs
  have HO := Lib.hid ho
  have HR := Lib.hid hr
  have e1 := enters_of Tryz.func69 (by kernel_rfl) rfl
  have e2 := enters_of Tryz.func44 (by kernel_rfl) rfl
  clear h hs ho hr
  go_enter Tryz.func47, Tryz.ntmps47
  go_wp2_with fail
  go_loopw [9] (fun s9 wr => ∃ (i : Nat) (d' : DK) (bad' : Int) (H' : Nat → Prop), i ≤ ss.length ∧ s9 = .int .i64 i ∧ Hid (jrun (d, bad) ((ss.take i).map Stp.act) = (d', bad')) ∧ JAt j l d' bad' wr H' ∧ Step H H' w wr) (fun s9 _ => ss.length - (intOf s9).toNat)
  case atStart => exact ⟨0, d, bad, H, Nat.zero_le _, rfl, Lib.hid rfl, HH.out, Step.refl _ _⟩
  case round =>
    obtain ⟨i, d', bad', H', hi, rfl, HJ, hA, hT⟩ := hrel
    obtain ⟨c0, c1, z1, -⟩ := hA.cells
    have HA := Lib.hid (And.intro hA hT)
    clear hA hT
    by_cases hlt : i < ss.length
    · have q1 : (i : Int) < (ss.length : Int) := by omega
      have hrd := (HS.out.step HA.out.2).rd
      obtain ⟨bb, off, rfl, -, -⟩ := hrd.at' i hlt
      have y0 := stp_rd hrd hlt
      have hok := (HO.out ss[i] (List.getElem_mem hlt)).step HA.out.2
      have hnx : jrun (d, bad) ((ss.take (i + 1)).map Stp.act) = jstep (d', bad') ss[i].act := by
        rw [List.take_succ_eq_append_getElem hlt, List.map_append, List.map_singleton, jrun_snoc, HJ.out]
      have Hlt := Lib.hid hlt
      generalize ss[i] = s at *
      by_cases hb0 : bad' = 0
      · subst hb0
        cases s with
        | wr p3 p4 p5 n sv b =>
          have Hnx := Lib.hid (hnx.trans (show jstep (d', 0) (some (n, b)) = (d'.write n b, d'.writeE n b.length) by unfold jstep; rw [if_pos rfl]))
          have Hok := Lib.hid (show WCell wr H' j p3 p4 p5 n sv b from hok)
          unfold Stp.val at y0
          clear hrd hok hnx hlt
          go_wp2_with fail
          refine (jclos_any HA.out.1 Hok.out).mono ?_
          rintro e w1 ⟨H1, rfl, hA1, hT1⟩
          obtain ⟨-, x1, x2, -⟩ := hA1.cells
          have HB := Lib.hid (And.intro hA1 (HA.out.2.trans hT1))
          clear hA1 hT1
          go_wp2_with fail
          go_roundw
          case rel =>
            obtain ⟨g1, g2⟩ := HB.out.1.setBad (d'.writeE n b.length)
            exact ⟨i + 1, _, _, _, by have := Hlt.out; omega, by go_num, Lib.hid Hnx.out, g1, HB.out.2.trans g2⟩
          case measure => have := Hlt.out; simp [intOf]; omega
        | fl =>
          have Hnx := Lib.hid (hnx.trans (show jstep (d', 0) none = (d'.flush, d'.flushE) by unfold jstep; rw [if_pos rfl]))
          unfold Stp.val at y0
          clear hrd hok hnx hlt
          go_wp2_with fail
          obtain ⟨G, hG, hsub, st⟩ := HA.out.1.disk
          refine (flush_any hG).mono ?_
          rintro e w1 ⟨G1, rfl, h1, s1⟩
          obtain ⟨H1, hA1, hT1⟩ := st _ _ _ h1 s1
          obtain ⟨-, x1, x2, -⟩ := hA1.cells
          have HB := Lib.hid (And.intro hA1 (HA.out.2.trans hT1))
          clear hA1 hT1 hG hsub st h1 s1
          go_wp2_with fail
          go_roundw
          case rel =>
            obtain ⟨g1, g2⟩ := HB.out.1.setBad d'.flushE
            exact ⟨i + 1, _, _, _, by have := Hlt.out; omega, by go_num, Lib.hid Hnx.out, g1, HB.out.2.trans g2⟩
          case measure => have := Hlt.out; simp [intOf]; omega
      · have Hnx := Lib.hid (hnx.trans (jstep_bad (s := (d', bad')) hb0 _))
        have hbb : (bad' == 0) = false := by simpa using hb0
        clear hrd hok hnx hlt hb0
        go_wp2_with fail
        go_roundw
        case rel => exact ⟨i + 1, _, _, _, by have := Hlt.out; omega, by go_num, Lib.hid Hnx.out, HA.out.1, HA.out.2⟩
        case measure => have := Hlt.out; simp [intOf]; omega
    · have q1 : (ss.length : Int) ≤ (i : Int) := by omega
      have e : i = ss.length := by omega
      subst e
      rw [List.take_length] at HJ
      clear hlt
      go_wp2_with fail
      go_ret
      have hr := HR.out.symm.trans HJ.out
      subst hr
      exact ⟨H', rfl, HA.out.1, HA.out.2⟩
end Go.Proofs.YthabllnhlhkejaaGreatDoor
namespace Go.Proofs.YthabllnhlhkejaaGreatDoor
open Go.RowKit

theorem Step.sub {F H G : Nat → Prop} {w w' : World} (s : Step F H w w') (hg : ∀ k, G k → H k) : Step F G w w' := ⟨s.fr, fun k hk => s.foot k (hg k hk)⟩
def JOpenP (L : Nat) (d : DK) (F : Nat → Prop) (w : World) (e : Ending) (w' : World) : Prop :=
  ((openR d).2 = 0 ∧ ∃ j H', e = .returned (.tuple #[.pointer (some ⟨j, 0, none⟩), .int .i64 0]) ∧ JAt j L (openR d).1 0 w' H' ∧ Step F H' w w') ∨
  ((openR d).2 ≠ 0 ∧ ∃ F', e = .returned (.tuple #[.pointer none, .int .i64 (openR d).2]) ∧ DiskAt L (openR d).1 w' F' ∧ Step F F' w w')
theorem JAt.start {L : Nat} {d : DK} {w : World} {F : Nat → Prop} (h : DiskAt L d w F) : JAt w.heap.size L d 0 (w.alloc (Jobj L 0)) (fun k => F k ∨ k = w.heap.size) ∧ Step F (fun k => F k ∨ k = w.heap.size) w (w.alloc (Jobj L 0)) := by
  have hf := (Fr.refl noBlock w).alloc (Jobj L 0)
  refine ⟨⟨F, fun k => k = w.heap.size, DiskAt.ok.fr0 h hf, ⟨heap_new w _, fun _ => Iff.rfl⟩, fun k hk e => by have := DiskAt.ok.lt h k hk; omega, fun _ => Iff.rfl⟩, ⟨hf.mono (fun _ x => x.elim), fun k hk => hk.imp (fun x => x) (fun e => by omega)⟩⟩
theorem JAt.out {j L : Nat} {d : DK} {bad : Int} {w0 w : World} {F H : Nat → Prop} (h : JAt j L d bad w H) (s : Step F H w0 w) : ∃ F', DiskAt L d w F' ∧ Step F F' w0 w := by
  obtain ⟨G, h1, h2, _⟩ := h.disk
  exact ⟨G, h1, s.sub h2⟩
set_option maxRecDepth 100000 in
set_option maxHeartbeats 3200000 in
theorem jopen_any {L : Nat} {d : DK} {w : World} {F : Nat → Prop} (h : DiskAt L d w F) : Calls Tryz.prog 32 #[.pointer (some ⟨L, 0, none⟩)] w (JOpenP L d F w) := by
  have HD := Lib.hid h
  have hs0 := h.good.s0
  have hs1 := h.good.s1
  have hn1 := h.good.n1
  by_cases hlen : d.safe.length ≤ 9
  · have hO : openR d = (d, 1) := by unfold openR; rw [if_pos hlen]
    have HO := Lib.hid hO
    have q1 : (d.safe.length : Int) ≤ 9 := by omega
    clear hO hlen h
    go_enter Tryz.func32, Tryz.ntmps32
    go_wp2_with fail
    refine (sectors_any HD.out).mono ?_
    rintro e w' ⟨rfl, rfl⟩
    go_wp2_with fail
    go_ret2
    right
    rw [HO.out]
    exact ⟨by simp, F, rfl, HD.out, Step.refl _ _⟩
  have q1 : (9 : Int) < (d.safe.length : Int) := by omega
  cases hoff : d.off with
  | true =>
    have hO : openR d = (d, 30) := by unfold openR; rw [if_neg hlen, if_pos hoff]
    have HO := Lib.hid hO
    have HOff := Lib.hid hoff
    clear hO hlen h hoff
    go_enter Tryz.func32, Tryz.ntmps32
    go_wp2_with fail
    refine (sectors_any HD.out).mono ?_
    rintro e w' ⟨rfl, rfl⟩
    go_wp2_with fail
    refine (up_any HD.out).mono ?_
    rintro e w' ⟨rfl, rfl⟩
    rw [HOff.out]
    go_wp2_with fail
    go_ret2
    right
    rw [HO.out]
    exact ⟨by simp, F, rfl, HD.out, Step.refl _ _⟩
  | false =>
    have his : d.isS 0 = true := DK.isS_iff.2 ⟨by omega, by omega⟩
    obtain ⟨hh, hhd⟩ : ∃ hh, d.readB 0 = hh := ⟨_, rfl⟩
    have hhl : hh.length = d.size := by
      rw [← hhd]
      unfold DK.readB
      rw [hoff, his]
      simp only [Bool.false_eq_true, if_false, Bool.true_eq_false]
      cases hlk : lookD d.dirty 0 with
      | some b =>
        obtain ⟨p, hp, _, rfl⟩ := lookD_mem hlk
        exact (h.good.there p hp).2
      | none =>
        have h0 : 0 < d.safe.length := by omega
        have : d.safe.getD (0 : Int).toNat [] = d.safe[0] := by simp [List.getD, List.getElem?_eq_getElem h0]
        simp only [Option.getD_none]
        rw [this]
        exact h.good.sizes _ (List.getElem_mem h0)
    have hO : openR d = if hh.getD 0 0 = 0 then (d, 0) else if toldB d hh = false then (d, 21) else jrun (d, 0) (openA d hh) := by
      unfold openR
      rw [if_neg hlen, hoff, hhd]
      rfl
    have HO := Lib.hid hO
    have HOff := Lib.hid hoff
    have Hhd := Lib.hid hhd
    have Hhl := Lib.hid hhl
    have hrE : d.readE 0 = 0 := by unfold DK.readE; rw [hoff, his]; rfl
    have HrE := Lib.hid hrE
    have hl64 : 64 ≤ hh.length := by omega
    have hl4096 : hh.length ≤ 4096 := by omega
    have hn10 : 10 ≤ d.safe.length := by omega
    clear hO hlen hoff his hhd hrE
    obtain ⟨hJ, hS⟩ := JAt.start h
    have HJ := Lib.hid (And.intro hJ hS)
    clear hJ hS h
    go_enter Tryz.func32, Tryz.ntmps32
    go_wp2_with fail
    refine (sectors_any HD.out).mono ?_
    rintro e w' ⟨rfl, rfl⟩
    go_wp2_with fail
    refine (up_any HD.out).mono ?_
    rintro e w' ⟨rfl, rfl⟩
    rw [HOff.out]
    go_upto_region 6 with (fail)
    refine wp_at (φ := fun W => ∃ H, JAt w.heap.size L d 0 W H ∧ Step F H w W) ⟨_, HJ.out⟩ ?_
    rintro w1 ⟨H, hA, hT⟩
    have HA := Lib.hid (And.intro hA hT)
    have hw1 : w.heap.size < w1.heap.size := hA.cells.2.2.2
    clear hA hT
    go_wp2_with fail
    obtain ⟨G, hG, -, -⟩ := HA.out.1.disk
    refine (read_any hG 0).mono ?_
    rintro e w2 ⟨s, rfl, hls, hrs, hfs, hns⟩
    rw [Hhd.out] at hls hrs
    rw [HrE.out]
    have HA2 := Lib.hid (And.intro (JAt.ok.fr0 HA.out.1 hfs) (HA.out.2.trans (Step.same hfs)))
    have HL1 := Lib.hid (JAt.ok.lt HA.out.1)
    obtain ⟨sa, sn, sc⟩ := s
    simp only at hls
    subst hls
    obtain ⟨g, cap', eg, hcp, -⟩ := hrs.block' (by omega)
    simp only [SV.val, Value.slice.injEq] at eg
    obtain ⟨rfl, -, rfl⟩ := eg
    unfold SV.val
    dsimp only
    have hrs' : RowAt 5 ByteR w2 (.slice (some ⟨g, 0, none⟩) hh.length sc) hh := hrs
    have HRs := Lib.hid hrs'
    have hgn : w1.heap.size ≤ g := hns g rfl
    obtain ⟨y0, z0⟩ := byte_at hrs' (i := 0) (by omega)
    have hg0 : hh.getD 0 0 = hh[0]'(by omega) := by simp [List.getD, List.getElem?_eq_getElem (show 0 < hh.length by omega)]
    rw [hg0] at HO
    have hhn : hh.length ≤ 9223372036854775807 := by omega
    generalize hh[0]'(by omega) = b0 at *
    unfold byteV at y0
    have hb0 := b0.toNat_lt
    clear hG hrs hfs hns hrs' hg0 HA HJ hhl
    by_cases hz : b0 = 0
    · have hO2 := HO.out
      rw [if_pos hz] at hO2
      have HO2 := Lib.hid hO2
      have hbz : ((b0.toNat : Int) == 0) = true := by rw [hz]; rfl
      clear hz hO2
      go_wp2_with fail
      go_ret2
      left
      rw [HO2.out]
      exact ⟨rfl, _, H, rfl, HA2.out.1, HA2.out.2⟩
    · have hbz : ((b0.toNat : Int) == 0) = false := by
        have : b0.toNat ≠ 0 := fun h => hz (by rw [← UInt8.toNat_inj]; exact h)
        simp; omega
      have hO2 := HO.out
      rw [if_neg hz] at hO2
      have HO2 := Lib.hid hO2
      clear hz hO2
      go_wp2_with fail
      refine (jtold_any HA2.out.1 (RowAt.rd HRs.out) sc Hhl.out HOff.out hn10 hcp).mono ?_
      rintro e w3 ⟨lo, n, lc, rfl, f3, h3⟩
      have HT3 := Lib.hid h3
      have HF3 := Lib.hid f3
      have y3 := (f3.cell (p := ⟨g, 0, none⟩) (lt_of_cell y0) (fun x => x)).trans y0
      have z3 := (f3.frozen (p := ⟨g, 0, none⟩) (lt_of_cell y0) (fun x => x)).trans z0
      have HR3 := Lib.hid (HRs.out.fr0 f3)
      clear h3 f3 y0 z0
      cases htb : toldB d hh with
      | false =>
        have hO3 := HO2.out
        rw [if_pos htb] at hO3
        have HO3 := Lib.hid hO3
        clear htb hO3
        go_wp2_with fail
        go_ret2
        right
        rw [HO3.out]
        obtain ⟨F', q1, q2⟩ := HA2.out.1.out HA2.out.2
        exact ⟨by simp, F', rfl, DiskAt.ok.fr0 q1 HF3.out, q2.trans (Step.same HF3.out)⟩
      | true =>
        have hO3 := HO2.out
        rw [if_neg (by rw [htb]; simp)] at hO3
        have HO3 := Lib.hid hO3
        have hTw := HT3.out htb
        have hnl8 : 1 ≤ (hh.getD 1 0).toNat ∧ (hh.getD 1 0).toNat ≤ 8 := by
          unfold toldB at htb
          simp only [Bool.and_eq_true, decide_eq_true_eq] at htb
          exact ⟨htb.1.1.1.2, htb.1.1.2⟩
        have hall : ∀ w ∈ toldL d hh (hh.getD 1 0).toNat, isJ d w.1 = true := by
          unfold toldB at htb
          simp only [Bool.and_eq_true, List.all_eq_true] at htb
          exact htb.1.2
        obtain ⟨ws, hW⟩ := hTw
        obtain ⟨tl, htl⟩ : ∃ tl, toldL d hh (hh.getD 1 0).toNat = tl := ⟨_, rfl⟩
        have hopA : openA d hh = (homeA tl ++ [none]) ++ [some (0, hh.set 0 0), none] := by unfold openA; rw [htl]
        rw [htl] at hW hall
        have hnl := hW.len2
        have hlt8 : tl.length ≤ 8 := by rw [← htl]; unfold toldL; simp; exact hnl8.2
        have hsec : ∀ w ∈ tl, 0 ≤ w.1 ∧ w.1 < 65536 := by
          intro v hv
          have := hall v hv
          unfold isJ secs at this
          simp at this
          omega
        have hmax : ∀ w ∈ tl, w.2.length ≤ 9223372036854775807 := by
          intro v hv
          obtain ⟨i, hi, rfl⟩ := List.getElem_of_mem hv
          have hi' : i < ws.length := by rw [hW.len, ← hnl]; exact hi
          obtain ⟨_, _, hr, _⟩ := hW.each i ws[i] tl[i] (List.getElem?_eq_getElem hi') (List.getElem?_eq_getElem hi)
          obtain ⟨_, _, _, h1, h2, _⟩ := hr.shape
          unfold maxLen at h2
          omega
        have hgH : ¬ H g := fun hk => by have := HL1.out g hk; omega
        have hgw2 : g < w2.heap.size := HRs.out.lt g rfl
        have hJ0 : JWrs w3 (fun k => H k ∨ k = g) lo ws tl := hW.jwrs (fun k hk => hk.elim (fun hk => JAt.ok.lt HA2.out.1 k hk) (fun e => by omega))
        have fg : Fr (fun k => k = g) w3 (w3.setCell ⟨g, 0, none⟩ (.int .u8 0)) := (Fr.refl (fun k => k = g) w3).setCell (p := ⟨g, 0, none⟩) (.inl rfl) _
        have hJ4 : JWrs (w3.setCell ⟨g, 0, none⟩ (.int .u8 0)) H lo ws tl := (hJ0.step (⟨fg.mono (fun _ x => .inr x), fun _ x => .inl x⟩ : Step (fun k => H k ∨ k = g) (fun k => H k ∨ k = g) w3 _)).sub (fun _ x => .inl x)
        have hA4 : JAt w.heap.size L d 0 (w3.setCell ⟨g, 0, none⟩ (.int .u8 0)) H := JAt.ok.fr (JAt.ok.fr0 HA2.out.1 HF3.out) fg (fun k hk e => hgH (e ▸ hk))
        have hT4 : Step F H w (w3.setCell ⟨g, 0, none⟩ (.int .u8 0)) := (HA2.out.2.trans (Step.same HF3.out)).news (S := fun k => k = g) fg (fun k hk => by have hk' : k = g := hk; omega)
        have hr4 : RowAt 5 ByteR (w3.setCell ⟨g, 0, none⟩ (.int .u8 0)) (.slice (some ⟨g, 0, none⟩) hh.length sc) (hh.set 0 0) := byte_set HR3.out (i := 0) (by omega) 0
        have hb4 : Bes ByteR (some ⟨g, 0, none⟩) (hh.set 0 0) (w3.setCell ⟨g, 0, none⟩ (.int .u8 0)) H := ⟨RowAt.rd hr4, fun _ a e => by cases e; exact ⟨hgH, hr4.lt g rfl⟩⟩
        have hsl : (hh.set 0 0).length = hh.length := List.length_set ..
        have HL4 := Lib.hid (JAt.ok.lt hA4)
        have Hall := Lib.hid (And.intro hA4 (And.intro hT4 (And.intro hJ4 hb4)))
        have Hsec := Lib.hid hsec
        have Hmax := Lib.hid hmax
        have HopA := Lib.hid hopA
        have Hsl := Lib.hid hsl
        have Hnl := Lib.hid hnl
        subst hnl
        clear htb hO3 hW hall hsec hmax hJ0 fg hJ4 hA4 hT4 hr4 hb4 hopA htl hsl hnl8
        go_wp2_with fail
        refine (jhomes_any Hall.out.1 Hall.out.2.2.1 lc hlt8 Hsec.out Hmax.out).mono ?_
        rintro e w5 ⟨po, n5, pc, ss, rfl, hS5⟩
        have HS5 := Lib.hid hS5
        have hn5 : n5 = ss.length := hS5.len
        have hss : ss.length = tl.length + 1 := by
          have := congrArg List.length hS5.acts
          simpa [homeA] using this
        have hsz5 := hS5.fr.size
        have hn5b : n5 ≤ 9 := by omega
        have Hn5 := Lib.hid hn5
        clear hS5 hn5 hss
        go_wp2_with fail
        refine (jwrite_any w.heap.size 0 (some ⟨g, 0, none⟩) hh.length sc w5).mono ?_
        rintro e w6 ⟨p3, p4, p5, rfl, k3, k4, k5, g3, g4, g5, f6⟩
        have hWr : (Stp.wr p3 p4 p5 0 ⟨some ⟨g, 0, none⟩, hh.length, sc⟩ (hh.set 0 0)).Ok w6 (rowF H po n5 pc) w.heap.size :=
          WCell.mk' (w := w5) k3 k4 k5 g3 g4 g5 (HS5.out.F_lt HL4.out) Hsl.out.symm ((Hall.out.2.2.2.far HS5.out.fr HS5.out.F_far).fr f6) (by rw [Hsl.out]; omega)
        have HB := Lib.hid (And.intro hWr f6)
        clear k3 k4 k5 g3 g4 g5 f6 hWr
        go_wp2_with (at_builtin; apply stop_here)
        refine ⟨?_, trivial⟩
        have hz6 := HB.out.2.size
        refine wpList_app rfl _ _ rfl (el_steps L) (v := .slice po n5 pc) ss [Stp.wr p3 p4 p5 0 ⟨some ⟨g, 0, none⟩, hh.length, sc⟩ (hh.set 0 0), Stp.fl] (ss ++ [Stp.wr p3 p4 p5 0 ⟨some ⟨g, 0, none⟩, hh.length, sc⟩ (hh.set 0 0), Stp.fl]) rfl (w3.setCell ⟨g, 0, none⟩ (.int .u8 0)).heap.size n5 (n5 + 2) (by rw [List.length_append, ← Hn5.out]; rfl) rfl (HS5.out.own' (HB.out.2.alloc _)) rfl (RowRd.of_flat (heap_new w6 _) rfl (by unfold maxLen; simp)) rfl (by unfold maxLen; omega) (by omega) (by simp; simp at hsz5; omega) ?_
        intro ao7 cap7 w7 o7 g7 a7
        go_frame
        have hM := HS5.out.more (HB.out.2.alloc (.cells #[.func (.func 69) #[] #[.pointer (some ⟨p3, 0, none⟩), .pointer (some ⟨p4, 0, none⟩), .pointer (some ⟨p5, 0, none⟩)], .func (.func 44) #[.pointer (some ⟨L, 0, none⟩)] #[]] 103)) (ts := [Stp.wr p3 p4 p5 0 ⟨some ⟨g, 0, none⟩, hh.length, sc⟩ (hh.set 0 0), Stp.fl]) (bs := [some (0, hh.set 0 0), none]) (fun s hs => by
          simp at hs
          rcases hs with rfl | rfl
          · exact HB.out.1.fr ((Fr.refl noBlock w6).alloc _)
          · trivial) rfl o7 rfl g7 a7 HL4.out
        have hA7 := JAt.ok.fr0 Hall.out.1 hM.fr
        have hT7 := Hall.out.2.1.trans (Step.same hM.fr)
        have hl7 := hM.len
        have hbs := hM.bes HL4.out
        have hrun : jrun (d, 0) ((ss ++ [Stp.wr p3 p4 p5 0 ⟨some ⟨g, 0, none⟩, hh.length, sc⟩ (hh.set 0 0), Stp.fl]).map Stp.act) = openR d := by rw [hM.acts, ← HopA.out, HO3.out]
        have hst := steps_any' hA7 hbs hM.ok' cap7 (by rw [← hl7]; omega) hrun
        rw [← hl7] at hst
        have Hst := Lib.hid hst
        have HT7 := Lib.hid hT7
        clear hM hA7 hT7 hl7 hbs hrun hst o7 g7 a7
        go_wp2_with fail
        refine Hst.out.mono ?_
        rintro e w8 ⟨H8, rfl, hA8, hT8⟩
        have HA8 := Lib.hid (And.intro hA8 (HT7.out.trans hT8))
        clear hA8 hT8
        by_cases hr : (openR d).2 = 0
        · have HR := Lib.hid hr
          rw [hr]
          clear hr
          go_wp2_with fail
          go_ret2
          left
          have hA9 := HA8.out.1
          rw [HR.out] at hA9
          exact ⟨HR.out, _, H8, rfl, hA9, HA8.out.2⟩
        · have HR := Lib.hid hr
          have hrb : ((openR d).2 != 0) = true := by simpa using hr
          obtain ⟨x, hx⟩ : ∃ x, (openR d).2 = x := ⟨_, rfl⟩
          rw [hx] at hrb ⊢
          have HX := Lib.hid hx
          clear hr hx
          go_wp2_with fail
          go_ret2
          right
          obtain ⟨F', q1, q2⟩ := HA8.out.1.out HA8.out.2
          exact ⟨HR.out, F', by rw [HX.out]; rfl, q1, q2⟩
end Go.Proofs.YthabllnhlhkejaaGreatDoor
