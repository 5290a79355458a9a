/-
  THE WALK of the journal's homes: the acts by which writes are done where they belong.
-/
import Derived.Test.YtmcckppmciflmaaJnSum
namespace Go.Proofs.Ytmcckppmciflmaa
open Go.RowKit

theorem Bes.far {α : Type} {R : Rec α} {ao : Option Addr} {xs : List α} {w0 w : World} {H G : Nat → Prop} (h : Bes R ao xs w0 H) (hf : Fr noBlock w0 w) (hG : ∀ k, G k → H k ∨ w0.heap.size ≤ k) : Bes R ao xs w G :=
  ⟨h.rd.fr0 hf, fun h0 a e => ⟨fun hk => (hG _ hk).elim (h.ap h0 a e).1 (fun hle => by have := (h.ap h0 a e).2; omega), Nat.lt_of_lt_of_le (h.ap h0 a e).2 hf.size⟩⟩
/-- H, and a row's block -/
def rowF (H : Nat → Prop) (po : Option Addr) (n pc : Nat) : Nat → Prop := fun k => H k ∨ (Value.slice po n pc).ownBlock = some k
/-- acts to come, in a row of one's own -/
structure StL (w0 w : World) (H : Nat → Prop) (j L : Nat) (po : Option Addr) (n pc : Nat) (ss : List Stp) (ac : List JA) : Prop where
  own : w.ownsRow w0.heap.size 34 (StpR L).k (.slice po n pc) n ((StpR L).flat ss)
  len : n = ss.length
  ok : ∀ s ∈ ss, s.Ok w (rowF H po n pc) j
  acts : ss.map Stp.act = ac
  fr : Fr noBlock w0 w
namespace StL
variable {w0 w w' w1 w2 : World} {H : Nat → Prop} {j L : Nat} {po po2 : Option Addr} {n pc n2 pc2 : Nat} {ss ts : List Stp} {ac bs : List JA}
theorem nil (hf : Fr noBlock w0 w) : StL w0 w H j L none 0 0 [] [] := ⟨World.ownsRow_nil _ _ _ _, rfl, (fun s h => by cases h), rfl, hf⟩
theorem own' (h : StL w0 w H j L po n pc ss ac) (hf : Fr noBlock w w') : w'.ownsRow w0.heap.size 34 (StpR L).k (.slice po n pc) n ((StpR L).flat ss) := ownsRow_fr h.own hf (fun _ _ x => x)
theorem to (h : StL w0 w H j L po n pc ss ac) (hf : Fr noBlock w w') : StL w0 w' H j L po n pc ss ac := ⟨h.own' hf, h.len, fun s hs => (h.ok s hs).fr hf, h.acts, h.fr.trans' hf⟩
theorem row_lt (h : StL w0 w H j L po n pc ss ac) : ∀ k, (Value.slice po n pc).ownBlock = some k → w0.heap.size ≤ k ∧ k < w.heap.size := h.own.lt
theorem F_lt (h : StL w0 w H j L po n pc ss ac) (hH : ∀ k, H k → k < w0.heap.size) : ∀ k, rowF H po n pc k → k < w.heap.size := fun k hk => hk.elim (fun hk => Nat.lt_of_lt_of_le (hH k hk) h.fr.size) (fun hk => (h.row_lt k hk).2)
theorem F_far (h : StL w0 w H j L po n pc ss ac) : ∀ k, rowF H po n pc k → H k ∨ w0.heap.size ≤ k := fun k hk => hk.imp (fun x => x) (fun hk => (h.row_lt k hk).1)
/-- more acts behind them: w1 is the world ahead of the append -/
theorem more (h : StL w0 w H j L po n pc ss ac) (hf : Fr noBlock w w1) (hts : ∀ s ∈ ts, s.Ok w1 (rowF H po n pc) j) (ht : ts.map Stp.act = bs)
    (ho : w2.ownsRow w0.heap.size 34 (StpR L).k (.slice po2 n2 pc2) n2 ((StpR L).flat (ss ++ ts))) (hn : n2 = n + ts.length) (hg : w1.grownBy w2 (Value.slice po n pc).ownBlock)
    (hat : (Value.slice po2 n2 pc2).ownBlock = (Value.slice po n pc).ownBlock ∨ (Value.slice po2 n2 pc2).ownBlock = some w1.heap.size) (_ : ∀ k, H k → k < w0.heap.size) : StL w0 w2 H j L po2 n2 pc2 (ss ++ ts) (ac ++ bs) := by
  have hf2 : Fr noBlock w0 w2 := (h.fr.trans' hf).grown hg (fun k hk => .inr (h.own.lt k hk).1)
  have hst : Step (rowF H po n pc) (rowF H po2 n2 pc2) w1 w2 := ⟨(Fr.refl _ w1).grown hg (fun k hk => .inl (.inr hk)), fun k hk => hk.elim (fun hk => .inl (.inl hk)) (fun hk => hat.elim (fun e => .inl (.inr (e ▸ hk))) (fun e => .inr (by rw [e] at hk; cases hk; exact Nat.le_refl _)))⟩
  refine ⟨ho, by rw [hn, h.len, List.length_append], fun s hs => ?_, by rw [List.map_append, h.acts, ht], hf2⟩
  rcases List.mem_append.1 hs with hs | hs
  · exact ((h.ok s hs).fr hf).step hst
  · exact (hts s hs).step hst
/-- its row, beside H -/
theorem bes (h : StL w0 w H j L po n pc ss ac) (hH : ∀ k, H k → k < w0.heap.size) : Bes (StpR L) po ss w H := by
  have hr : RowAt 34 (StpR L) w (.slice po n pc) ss := RowAt.of_own h.own h.len
  exact ⟨RowAt.rd hr, fun _ a e => by
    subst e
    have := h.row_lt a.block rfl
    exact ⟨fun hk => by have := hH _ hk; omega, this.2⟩⟩
theorem ok' (h : StL w0 w H j L po n pc ss ac) : ∀ s ∈ ss, s.Ok w H j := fun s hs => by
  have := h.ok s hs
  cases s with
  | fl => trivial
  | wr p3 p4 p5 n s b =>
    have h' : WCell w (rowF H po _ pc) j p3 p4 p5 n s b := this
    exact (⟨h'.c3, fun x => h'.a3 (.inl x), h'.c4, fun x => h'.a4 (.inl x), h'.c5, fun x => h'.a5 (.inl x), h'.len, h'.row.sub (fun _ x => .inl x), h'.max⟩ : WCell w H j p3 p4 p5 n s b)
end StL
/-- a write's act among rows that are under way -/
theorem WCell.mk' {j : Nat} {n : Int} {s : SV} {b : Bs} {w w' : World} {F : Nat → Prop} {p3 p4 p5 : Nat} (h3 : w'.cell? ⟨p3, 0, none⟩ = some (.pointer (some ⟨j, 0, none⟩))) (h4 : w'.cell? ⟨p4, 0, none⟩ = some (.int .i64 n)) (h5 : w'.cell? ⟨p5, 0, none⟩ = some s.val)
    (g3 : w.heap.size ≤ p3) (g4 : w.heap.size ≤ p4) (g5 : w.heap.size ≤ p5) (hF : ∀ k, F k → k < w.heap.size) (hl : s.n = b.length) (hb : Bes ByteR s.ao b w' F) (hm : b.length ≤ 9223372036854775807) : (Stp.wr p3 p4 p5 n s b).Ok w' F j :=
  JWrP.stp h3 h4 h5 g3 g4 g5 hF hl hb hm

theorem homeA_take {l : List JW} {i : Nat} (hi : i < l.length) : homeA (l.take (i + 1)) = homeA (l.take i) ++ [some (9 + l[i].1, l[i].2)] := by
  unfold homeA
  rw [List.take_succ_eq_append_getElem hi, List.map_append]
  simp
def StepsP (w0 : World) (H : Nat → Prop) (j L : Nat) (ac : List JA) (e : Ending) (w' : World) : Prop := ∃ po n pc ss, e = .returned (.slice po n pc) ∧ StL w0 w' H j L po n pc ss ac
set_option maxRecDepth 100000 in
set_option maxHeartbeats 1600000 in
theorem jhomes_any' {j L : Nat} {w : World} {H : Nat → Prop} (c0 : w.cell? ⟨j, 0, none⟩ = some (.pointer (some ⟨L, 0, none⟩))) (hlt : ∀ k, H k → k < w.heap.size) {ao : Option Addr} {ws : List (Int × SV)} {l : List JW} (hw : JWrs w H ao ws l) (cap : Nat) (hl : l.length ≤ 8) (hsec : ∀ w ∈ l, 0 ≤ w.1 ∧ w.1 < 65536) (hmax : ∀ w ∈ l, w.2.length ≤ 9223372036854775807) :
    Calls Try.prog 55 #[.pointer (some ⟨j, 0, none⟩), .slice ao l.length cap] w (StepsP w H j L (homeA l ++ [none])) := by
  have HW := Lib.hid hw
  have HSec := Lib.hid hsec
  have HMax := Lib.hid hmax
  have HH := Lib.hid hlt
  have hj := lt_of_cell c0
  have C0 := Lib.hid c0
  clear hw hsec hmax hlt
  go_enter Try.func55, Try.ntmps55
  go_wp2_with fail
  go_loopw [5, 10] (fun s5 s10 wr => ∃ (i : Nat) (po : Option Addr) (pc : Nat) (ss : List Stp), i ≤ l.length ∧ s10 = .int .i64 i ∧ s5 = .slice po i pc ∧ StL w wr H j L po i pc ss (homeA (l.take i))) (fun _ s10 _ => l.length - (intOf s10).toNat)
  case atStart => exact ⟨0, none, 0, [], Nat.zero_le _, rfl, rfl, StL.nil (Fr.refl _ _)⟩
  case round =>
    obtain ⟨i, po, pc, ss, hi, rfl, rfl, hS⟩ := hrel
    have HS := Lib.hid hS
    have Hsl := Lib.hid hS.len
    have hsz := hS.fr.size
    have x0 := (hS.fr.cell (p := ⟨j, 0, none⟩) hj (fun x => x)).trans C0.out
    clear c0
    by_cases hlt : i < l.length
    · have q1 : (i : Int) < (l.length : Int) := by omega
      obtain ⟨b, off, s, rfl, hb, y0, y1, hws, hsn, -⟩ := (HW.out.fr hS.fr).at' hlt
      have hst := homeA_take hlt
      have hsec := HSec.out l[i] (List.getElem_mem hlt)
      have hmx := HMax.out l[i] (List.getElem_mem hlt)
      have hbF : Bes ByteR s.ao l[i].2 wr (rowF H po i pc) := (HW.out.each i _ l[i] hws (List.getElem?_eq_getElem hlt)).2.2.far hS.fr hS.F_far
      generalize l[i] = q at *
      obtain ⟨qn, qb⟩ := q
      obtain ⟨sa, sn, sc⟩ := s
      simp only at hsn y0 y1 hsec hmx hst
      subst hsn
      obtain ⟨hq0, hq1⟩ := hsec
      have Hst := Lib.hid hst
      have HbF := Lib.hid hbF
      clear hS hst hbF hws hlt x0
      have hi' : i + 1 ≤ l.length := by omega
      go_wp2_with fail
      refine (jwrite_any j _ sa qb.length sc _).mono ?_
      rintro e w2 ⟨p3, p4, p5, rfl, k3, k4, k5, g3, g4, g5, f2⟩
      have fA := ((Fr.refl noBlock wr).alloc (.cells #[.int .i64 qn, .slice sa qb.length sc] 69)).trans' f2
      have hWr : (Stp.wr p3 p4 p5 (9 + qn) ⟨sa, qb.length, sc⟩ qb).Ok w2 (rowF H po i pc) j :=
        WCell.mk' (w := wr) k3 k4 k5 (by simp at g3; omega) (by simp at g4; omega) (by simp at g5; omega) (HS.out.F_lt HH.out) rfl (HbF.out.fr fA) hmx
      have HB := Lib.hid (And.intro hWr fA)
      clear k3 k4 k5 g3 g4 g5 f2 hWr fA
      go_wp2_with (at_builtin; apply stop_here)
      refine ⟨?_, trivial⟩
      refine wpList_app rfl _ _ rfl (el_steps L) (v := .slice po i pc) ss [Stp.wr p3 p4 p5 (9 + qn) ⟨sa, qb.length, sc⟩ qb] (ss ++ [Stp.wr p3 p4 p5 (9 + qn) ⟨sa, qb.length, sc⟩ qb]) rfl w.heap.size i (i + 1) (by rw [List.length_append, ← Hsl.out]; rfl) rfl (HS.out.own' (HB.out.2.alloc _)) rfl (RowRd.one (heap_new w2 _) _ rfl) rfl (by unfold maxLen; omega) (by omega) (by have := HB.out.2.size; simp; omega) ?_
      intro ao3 cap3 w3 o3 g3 a3
      go_frame
      have hM := HS.out.more (HB.out.2.alloc (.cells #[.func (.func 72) #[] #[.pointer (some ⟨p3, 0, none⟩), .pointer (some ⟨p4, 0, none⟩), .pointer (some ⟨p5, 0, none⟩)]] 34)) (ts := [Stp.wr p3 p4 p5 (9 + qn) ⟨sa, qb.length, sc⟩ qb]) (bs := [some (9 + qn, qb)]) (fun s hs => by
        simp at hs
        subst hs
        exact HB.out.1.fr ((Fr.refl noBlock w2).alloc _)) rfl o3 rfl g3 a3 HH.out
      have HM := Lib.hid hM
      clear o3 g3 a3 hM
      go_wp2_with fail
      go_roundw
      case rel => exact ⟨i + 1, ao3, cap3, _, hi', by go_num, rfl, by rw [Hst.out]; exact HM.out⟩
      case measure => simp [intOf]; omega
    · have q1 : (l.length : Int) ≤ (i : Int) := by omega
      have e : i = l.length := by omega
      subst e
      rw [List.take_length] at HS
      clear hS hlt
      go_wp2_with (at_builtin; apply stop_here)
      refine ⟨?_, trivial⟩
      refine wpList_app rfl _ _ rfl (el_steps L) (v := .slice po l.length pc) ss [Stp.fl] (ss ++ [Stp.fl]) rfl w.heap.size l.length (l.length + 1) (by rw [List.length_append, ← Hsl.out]; rfl) rfl (HS.out.own' ((Fr.refl _ _).alloc _)) rfl (RowRd.one (heap_new wr _) _ rfl) rfl (by unfold maxLen; omega) (by omega) (by simp; omega) ?_
      intro ao3 cap3 w3 o3 g3 a3
      go_frame
      have hM := HS.out.more ((Fr.refl noBlock wr).alloc (.cells #[.func (.func 15) #[.pointer (some ⟨L, 0, none⟩)] #[]] 34)) (ts := [Stp.fl]) (bs := [none]) (fun s hs => by
        simp at hs
        subst hs
        trivial) rfl o3 rfl g3 a3 HH.out
      have HM := Lib.hid hM
      clear o3 g3 a3 hM
      go_wp2_with fail
      go_ret
      exact ⟨ao3, _, cap3, _, rfl, HM.out⟩
theorem jhomes_any {j L : Nat} {d : DK} {bad : Int} {w : World} {H : Nat → Prop} (h : JAt j L d bad w H) {ao : Option Addr} {ws : List (Int × SV)} {l : List JW} (hw : JWrs w H ao ws l) (cap : Nat) (hl : l.length ≤ 8) (hsec : ∀ w ∈ l, 0 ≤ w.1 ∧ w.1 < 65536) (hmax : ∀ w ∈ l, w.2.length ≤ 9223372036854775807) :
    Calls Try.prog 55 #[.pointer (some ⟨j, 0, none⟩), .slice ao l.length cap] w (StepsP w H j L (homeA l ++ [none])) := jhomes_any' h.cells.1 (JAt.ok.lt h) hw cap hl hsec hmax
theorem JWrs.far {w0 w : World} {H G : Nat → Prop} {ao : Option Addr} {ws : List (Int × SV)} {l : List JW} (h : JWrs w0 H ao ws l) (hf : Fr noBlock w0 w) (hG : ∀ k, G k → H k ∨ w0.heap.size ≤ k) : JWrs w G ao ws l :=
  ⟨h.rows.far hf hG, h.len, fun i p q a b => ⟨(h.each i p q a b).1, (h.each i p q a b).2.1, (h.each i p q a b).2.2.far hf hG⟩⟩
end Go.Proofs.Ytmcckppmciflmaa
