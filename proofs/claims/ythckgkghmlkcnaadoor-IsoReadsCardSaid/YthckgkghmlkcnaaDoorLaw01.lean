/-
  THE WALKS of what the laws lend and own: Lent, Kept, Owned.
-/
import Derived.Test.YthckgkghmlkcnaaDoorByteS
import Derived.Test.YthckgkghmlkcnaaDoorCopy
import Derived.Test.YthckgkghmlkcnaaDoorApp
import Derived.Deep.QuietTactic
import Derived.BigQuiet
import Derived.Laws.MakeOwn
namespace Go.Proofs.YthckgkghmlkcnaaDoor
open Go.RowKit

/-- the byte that the owner of row i writes -/
def bI (i : Nat) : Value := .int .u8 (((i : Int) + 1) % 256)
/-- the blocks of some slices -/
def blocksOf (ss : List SV) : Nat → Prop := fun k => ∃ s ∈ ss, s.val.ownBlock = some k
/-- whole blocks of bytes, in which the cells that f names hold their row's byte -/
def OwnedI (w : World) (ss : List SV) (f : Nat → Nat → Prop) : Prop := ∀ (i : Nat) (s : SV), ss[i]? = some s → s.cap = 0 ∨ ∃ g cur, s.ao = some ⟨g, 0, none⟩ ∧ w.heap[g]? = some (.cells cur 5 (0, 0)) ∧ cur.size = s.cap ∧ ∀ k, k < s.cap → f i k → cur[k]? = some (bI i)
def ApartS (ss : List SV) : Prop := ∀ (i j : Nat) (s t : SV) (k : Nat), ss[i]? = some s → ss[j]? = some t → s.val.ownBlock = some k → t.val.ownBlock = some k → i = j
theorem OwnedI.mono {w : World} {ss : List SV} {f g : Nat → Nat → Prop} (h : OwnedI w ss f) (hg : ∀ i k, g i k → f i k) : OwnedI w ss g := by
  intro i s hs
  rcases h i s hs with h | ⟨b, cur, h1, h2, h3, h4⟩
  · exact .inl h
  · exact .inr ⟨b, cur, h1, h2, h3, fun k hk hgk => h4 k hk (hg i k hgk)⟩
theorem OwnedI.write {w : World} {ss : List SV} {f : Nat → Nat → Prop} (h : OwnedI w ss f) (ha : ApartS ss) {i : Nat} {s : SV} (hs : ss[i]? = some s) {g : Nat} (hg : s.ao = some ⟨g, 0, none⟩) (k : Nat) : OwnedI (w.setCell ⟨g, k, none⟩ (bI i)) ss (fun j q => f j q ∨ (j = i ∧ q = k)) := by
  intro j t ht
  rcases h j t ht with h0 | ⟨b, cur, h1, h2, h3, h4⟩
  · exact .inl h0
  · by_cases e : b = g
    · have hji : j = i := ha j i t s b ht hs (by unfold SV.val; rw [h1]; rfl) (by unfold SV.val; rw [hg, e]; rfl)
      subst hji e
      refine .inr ⟨b, _, h1, heap_set_eq h2, by simpa using h3, fun q hq hf => ?_⟩
      by_cases e : k = q
      · subst e
        rw [Array.getElem?_setIfInBounds, if_pos rfl, if_pos (by omega)]
      · rw [Array.getElem?_setIfInBounds, if_neg e]
        exact h4 q hq (hf.resolve_right (fun h => e h.2.symm))
    · refine .inr ⟨b, cur, h1, heap_set_ne h2 e, h3, fun q hq hf => ?_⟩
      refine h4 q hq (hf.resolve_right (fun h => ?_))
      obtain ⟨rfl, rfl⟩ := h
      rw [hs] at ht
      cases ht
      rw [hg] at h1
      cases h1
      exact e rfl
theorem OwnedI.fr {S : Nat → Prop} {w w' : World} {ss : List SV} {f : Nat → Nat → Prop} (h : OwnedI w ss f) (hf : Fr S w w') (hn : ∀ k, blocksOf ss k → ¬ S k) : OwnedI w' ss f := by
  intro i s hs
  rcases h i s hs with h0 | ⟨b, cur, h1, h2, h3, h4⟩
  · exact .inl h0
  · exact .inr ⟨b, cur, h1, hf.obj h2 (hn b ⟨s, List.mem_of_getElem? hs, by unfold SV.val; rw [h1]; rfl⟩), h3, h4⟩
def OwnedP (ss : List SV) (w : World) (e : Ending) (w' : World) : Prop := e = .returned (.bool true) ∧ Fr (blocksOf ss) w w'

set_option maxRecDepth 100000 in
set_option maxHeartbeats 800000 in
theorem owned_any {w : World} {ao : Option Addr} {ss : List SV} (hr : RowRd SliceR w ao ss) (hin : OwnedI w ss (fun _ _ => False)) (ha : ApartS ss) (hap : ∀ a, ao = some a → ¬ blocksOf ss a.block) (hc : ∀ s ∈ ss, s.n ≤ s.cap ∧ s.cap ≤ 9223372036854775807) (hl : ss.length ≤ 1000) (cap : Nat) :
    Calls Tryd.prog 13 #[.slice ao ss.length cap] w (OwnedP ss w) := by
  have HR := Lib.hid hr
  have HI := Lib.hid hin
  have HA := Lib.hid ha
  have HP := Lib.hid hap
  have HC := Lib.hid hc
  clear hr hin ha hap hc
  go_enter Tryd.func13, Tryd.ntmps13
  go_wp2_with fail
  go_loopw [3] (fun s3 wr => ∃ i : Nat, i ≤ ss.length ∧ s3 = .int .i64 i ∧ OwnedI wr ss (fun j _ => j < i) ∧ Fr (blocksOf ss) w wr) (fun s3 _ => ss.length - (intOf s3).toNat)
  case atStart => exact ⟨0, Nat.zero_le _, rfl, HI.out.mono (fun i k h => by omega), Fr.refl _ _⟩
  case round =>
    obtain ⟨i, hi, rfl, hI, hf⟩ := hrel
    have HI1 := Lib.hid hI
    have Hf := Lib.hid hf
    clear hI hf
    by_cases hlt : i < ss.length
    · have q1 : (i : Int) < (ss.length : Int) := by omega
      obtain ⟨b, off, rfl, hb, y0⟩ : ∃ b off, ao = some ⟨b, off, none⟩ ∧ b < wr.heap.size ∧ wr.cell? ⟨b, off + i, none⟩ = some ss[i].val := by
        obtain ⟨b, off, e, h2, h3⟩ := HR.out.at' i hlt
        have := h3 0 ss[i].val rfl
        have hk : SliceR.k = 1 := rfl
        refine ⟨b, off, e, Nat.lt_of_lt_of_le h2 Hf.out.size, ?_⟩
        refine (Hf.out.cell (p := ⟨b, off + i, none⟩) h2 (HP.out ⟨b, off, none⟩ e)).trans ?_
        simpa [hk] using this
      have hsi : ss[i]? = some ss[i] := List.getElem?_eq_getElem hlt
      have hcc := HC.out ss[i] (List.getElem_mem hlt)
      generalize ss[i] = s at *
      obtain ⟨a, n, c⟩ := s
      unfold SV.val at y0
      simp only at y0 hcc
      have Hsi := Lib.hid hsi
      obtain ⟨hc1, hc2⟩ := hcc
      have hc3 : (c : Int) ≤ 9223372036854775807 := by omega
      clear hsi
      go_wp2_with fail
      go_quiet (fail)
      go_wp2_with fail
      have HI2 := Lib.hid (show OwnedI (wr.drewN nq) ss (fun j q => j < i ∨ (j = i ∧ q < 0)) from (HI1.out.mono (fun j q h => by omega)).fr ((Fr.refl noBlock wr).drewN nq) (fun _ _ x => x))
      have Hf2 := Lib.hid (Hf.out.drewN nq)
      clear HI1 Hf y0
      obtain ⟨wo, hwo⟩ : ∃ wo : World, wr.drewN nq = wo := ⟨_, rfl⟩
      rw [hwo] at HI2 Hf2 ⊢
      clear hwo
      go_loopw [5] (fun s5 wq => ∃ k : Nat, k ≤ c ∧ s5 = .int .i64 k ∧ OwnedI wq ss (fun j q => j < i ∨ (j = i ∧ q < k)) ∧ Fr (blocksOf ss) w wq) (fun s5 _ => c - (intOf s5).toNat)
      case atStart => exact ⟨0, Nat.zero_le _, rfl, HI2.out, Hf2.out⟩
      case round =>
        obtain ⟨k, hk, rfl, hI, hf⟩ := hrel
        have HI3 := Lib.hid hI
        have Hf3 := Lib.hid hf
        clear hI hf HI2 Hf2
        by_cases hlk : k < c
        · have q2 : (k : Int) < (c : Int) := by omega
          obtain ⟨g, cur, ea, hbk, hsz, -⟩ := (HI3.out i _ Hsi.out).resolve_left (by show c ≠ 0; omega)
          simp only at ea hsz
          subst ea
          have z1 := free_of hbk k
          have z0 : ∃ x, wr.cell? ⟨g, k, none⟩ = some x := ⟨cur[k]'(by omega), by rw [cell_of hbk]; exact Array.getElem?_eq_getElem (by omega)⟩
          obtain ⟨x, z0⟩ := z0
          have HI4 := Lib.hid (HI3.out.write HA.out Hsi.out rfl k)
          have Hf4 := Lib.hid (Hf3.out.setCell (p := ⟨g, k, none⟩) (.inl ⟨_, List.mem_of_getElem? Hsi.out, rfl⟩) (bI i))
          clear hbk hsz
          go_wp2_with fail
          go_roundw
          case rel => exact ⟨k + 1, by omega, by go_num, HI4.out.mono (fun j q h => by omega), Hf4.out⟩
          case measure => simp [intOf]; omega
        · have q2 : (c : Int) ≤ (k : Int) := by omega
          have e : k = c := by omega
          go_wp2_with fail
          go_roundw
          case rel =>
            refine ⟨i + 1, by omega, by go_num, ?_, Hf3.out⟩
            intro j t ht
            rcases HI3.out j t ht with h0 | ⟨b', cur, h1, h2, h3, h4⟩
            · exact .inl h0
            · refine .inr ⟨b', cur, h1, h2, h3, fun q hq hj => h4 q hq ?_⟩
              by_cases e2 : j < i
              · exact .inl e2
              · have e3 : j = i := by omega
                subst e3
                have := Hsi.out
                rw [ht] at this
                cases this
                exact .inr ⟨rfl, by simpa [e] using hq⟩
          case measure => simp [intOf]; omega
    · have q1 : (ss.length : Int) ≤ (i : Int) := by omega
      have e : i = ss.length := by omega
      subst e
      clear hlt
      go_wp2_with fail
      go_loopw [6] (fun s6 wq => ∃ i : Nat, i ≤ ss.length ∧ s6 = .int .i64 i ∧ OwnedI wq ss (fun j _ => j < ss.length) ∧ Fr (blocksOf ss) w wq) (fun s6 _ => ss.length - (intOf s6).toNat)
      case atStart => exact ⟨0, Nat.zero_le _, rfl, HI1.out, Hf.out⟩
      case round =>
        obtain ⟨i, hi', rfl, hI, hf⟩ := hrel
        clear HI1 Hf HI
        have HI1 := Lib.hid hI
        have Hf := Lib.hid hf
        clear hI hf
        by_cases hlt : i < ss.length
        · have q3 : (i : Int) < (ss.length : Int) := by omega
          obtain ⟨b, off, rfl, hb, y0⟩ : ∃ b off, ao = some ⟨b, off, none⟩ ∧ b < wr.heap.size ∧ wr.cell? ⟨b, off + i, none⟩ = some ss[i].val := by
            obtain ⟨b, off, e, h2, h3⟩ := HR.out.at' i hlt
            have := h3 0 ss[i].val rfl
            have hk : SliceR.k = 1 := rfl
            refine ⟨b, off, e, Nat.lt_of_lt_of_le h2 Hf.out.size, ?_⟩
            refine (Hf.out.cell (p := ⟨b, off + i, none⟩) h2 (HP.out ⟨b, off, none⟩ e)).trans ?_
            simpa [hk] using this
          have hsi : ss[i]? = some ss[i] := List.getElem?_eq_getElem hlt
          have hcc := HC.out ss[i] (List.getElem_mem hlt)
          generalize ss[i] = s at *
          obtain ⟨a, n, c⟩ := s
          unfold SV.val at y0
          simp only at y0 hcc
          have Hsi := Lib.hid hsi
          obtain ⟨hc1, hc2⟩ := hcc
          have hc3 : (c : Int) ≤ 9223372036854775807 := by omega
          clear hsi q1
          go_wp2_with fail
          go_quiet (fail)
          go_wp2_with fail
          have HI2 := Lib.hid (show OwnedI (wr.drewN nq) ss (fun j _ => j < ss.length) from HI1.out.fr ((Fr.refl noBlock wr).drewN nq) (fun _ _ x => x))
          have Hf2 := Lib.hid (Hf.out.drewN nq)
          clear HI1 Hf y0
          obtain ⟨wo, hwo⟩ : ∃ wo : World, wr.drewN nq = wo := ⟨_, rfl⟩
          rw [hwo] at HI2 Hf2 ⊢
          clear hwo
          go_loopw [8] (fun s8 wq => ∃ k : Nat, k ≤ c ∧ s8 = .int .i64 k ∧ wq = wo) (fun s8 _ => c - (intOf s8).toNat)
          case atStart => exact ⟨0, Nat.zero_le _, rfl, rfl⟩
          case round =>
            obtain ⟨k, hk, rfl, rfl⟩ := hrel
            by_cases hlk : k < c
            · have q2 : (k : Int) < (c : Int) := by omega
              obtain ⟨g, cur, ea, hbk, hsz, hcur⟩ := (HI2.out i _ Hsi.out).resolve_left (by show c ≠ 0; omega)
              simp only at ea hsz
              subst ea
              have z0 := (cell_of hbk k).trans (hcur k hlk hlt)
              unfold bI at z0
              clear hbk hsz hcur
              go_wp2_with fail
              go_roundw
              case rel => exact ⟨k + 1, by omega, by go_num, trivial⟩
              case measure => simp [intOf]; omega
            · have q2 : (c : Int) ≤ (k : Int) := by omega
              go_wp2_with fail
              go_roundw
              case rel => exact ⟨i + 1, by omega, by go_num, HI2.out, Hf2.out⟩
              case measure => simp [intOf]; omega
        · have q3 : (ss.length : Int) ≤ (i : Int) := by omega
          go_wp2_with fail
          go_ret
          exact ⟨rfl, Hf.out⟩

/-- lent bytes: a mark behind them -/
structure LentAt (w : World) (g : Nat) (b : Bs) : Prop where
  row : RowAt 5 ByteR w (.slice (some ⟨g, 0, none⟩) b.length (b.length + 1)) b
  mark : w.cell? ⟨g, b.length, none⟩ = some (.int .u8 77)
theorem LentAt.fr {S : Nat → Prop} {w w' : World} {g : Nat} {b : Bs} (h : LentAt w g b) (hf : Fr S w w') (hn : ¬ S g) : LentAt w' g b :=
  ⟨h.row.fr hf (fun k hk => by cases hk; exact hn), (hf.cell (p := ⟨g, b.length, none⟩) (h.row.lt g rfl) hn).trans h.mark⟩
theorem LentAt.fr0 {w w' : World} {g : Nat} {b : Bs} (h : LentAt w g b) (hf : Fr noBlock w w') : LentAt w' g b := h.fr hf (fun x => x)
theorem LentAt.lt {w : World} {g : Nat} {b : Bs} (h : LentAt w g b) : g < w.heap.size := h.row.lt g rfl
def LentP (b : Bs) (w : World) (e : Ending) (w' : World) : Prop := ∃ g, e = .returned (.slice (some ⟨g, 0, none⟩) b.length (b.length + 1)) ∧ LentAt w' g b ∧ w.heap.size ≤ g ∧ Fr noBlock w w'

set_option maxRecDepth 100000 in
set_option maxHeartbeats 800000 in
theorem lent_any {w : World} {ao : Option Addr} {b : Bs} (hb : RowRd ByteR w ao b) (cap : Nat) (hbl : b.length ≤ 140737488351232) : Calls Tryd.prog 10 #[.slice ao b.length cap] w (LentP b w) := by
  have hmk : ∀ W : World, (Instr.makeSlice 22 (.int .i64 (b.length : Int)) (.int .i64 ((b.length : Int) + 1))).run Tryd.prog W = .ok (.slice (some ⟨W.heap.size, 0, none⟩) b.length (b.length + 1)) (W.alloc (.cells (madeCells #[.int .u8 0] (b.length + 1)) 5)) := by
    intro W
    obtain ⟨i, z, hi, hz, hs, hby, hzs⟩ := el_bytes.info
    have hz' : z = .int .u8 0 := by
      have := infoB
      rw [hi] at this
      simp at this
      rw [hz] at this
      simpa using this.1
    subst hz'
    have := run_make W 22 5 i _ Tryd.underlying22 hi hz .i64 .i64 (b.length : Int) ((b.length : Int) + 1) (by omega) (by omega) (by rw [hby]; omega) (by omega)
    rw [this]
    have e : ((b.length : Int) + 1).toNat = b.length + 1 := by omega
    rw [e, hs, byteK, Nat.mul_one]
    rfl
  have hmade : ∀ W : World, RowAt 5 ByteR (W.alloc (.cells (madeCells #[.int .u8 0] (b.length + 1)) 5)) (.slice (some ⟨W.heap.size, 0, none⟩) b.length (b.length + 1)) (List.replicate b.length 0) := by
    intro W
    have h := RowAt.of_block (E := 5) (R := ByteR) (w := W.alloc (.cells (madeCells #[.int .u8 0] (b.length + 1)) 5)) (g := W.heap.size) (cap := b.length + 1) (xs := List.replicate b.length 0) (heap_new W _) (by simp) (by unfold maxLen; omega) (by rw [byteK]; simp [size_madeCells]) (by
      rw [byteK, flat_bytes]
      have hl : (madeCells #[Value.int .u8 0] (b.length + 1)).toList = List.replicate (b.length + 1) (.int .u8 0) := toList_madeCells_one _ _
      rw [hl]
      simp [List.take_replicate, byteV])
    simpa using h
  obtain ⟨Z, hZ⟩ : ∃ Z, madeCells #[.int .u8 0] (b.length + 1) = Z := ⟨_, rfl⟩
  rw [hZ] at hmk hmade
  have Hmade := Lib.hid (hmade w)
  have HB := Lib.hid hb
  have hlI : (b.length : Int) ≤ 140737488351232 := by omega
  clear hZ hmade hb
  go_enter Tryd.func10, Tryd.ntmps10
  go_wp2_with (with_reducible refine wpList_cp rfl _ _ rfl (List.replicate b.length 0) b Hmade.out 0 b.length rfl rfl (HB.out.fr0 ((Fr.refl _ _).alloc _)) rfl (by simp) (fun _ => rfl) (by simp) ?_)
  intro w2 r2 f2
  obtain ⟨cur, hg, _, _, hcm, hcs, htk⟩ := r2.block
  rw [byteK, Nat.mul_one] at hcs htk
  have z1 := free_of hg b.length
  have z0 : ∃ x, w2.cell? ⟨w.heap.size, b.length, none⟩ = some x := ⟨cur[b.length]'(by omega), by rw [cell_of hg]; exact Array.getElem?_eq_getElem (by omega)⟩
  obtain ⟨x, z0⟩ := z0
  have hbox := heap_set_eq (i := b.length) (u := .int .u8 77) hg
  have hL : LentAt (w2.setCell ⟨w.heap.size, b.length, none⟩ (.int .u8 77)) w.heap.size b := by
    refine ⟨RowAt.of_block hbox (by omega) (by unfold maxLen; omega) (by rw [byteK, Nat.mul_one]; simp; omega) ?_, ?_⟩
    · rw [byteK, Nat.mul_one, ← htk, Array.toList_setIfInBounds, List.take_set_of_le (by omega)]
    · rw [cell_of hbox, Array.getElem?_setIfInBounds, if_pos rfl, if_pos (by omega)]
  have HL := Lib.hid hL
  have HF := Lib.hid ((((Fr.refl noBlock w).alloc (.cells Z 5)).trans f2 (fun k hk => by subst hk; exact .inr (Nat.le_refl _))).setCell (p := ⟨w.heap.size, b.length, none⟩) (.inr (Nat.le_refl _)) (.int .u8 77))
  clear r2 f2 hg hcm hcs htk hbox hL hmk Hmade
  go_wp2_with fail
  go_ret
  exact ⟨_, rfl, HL.out, Nat.le_refl _, HF.out⟩

set_option maxRecDepth 100000 in
theorem kept_any {w : World} {g : Nat} {b : Bs} (hg : LentAt w g b) {ao : Option Addr} (hb : RowRd ByteR w ao b) (cap : Nat) (hbl : b.length ≤ 140737488351232) : Calls Tryd.prog 12 #[.slice (some ⟨g, 0, none⟩) b.length (b.length + 1), .slice ao b.length cap] w fun e w' => e = .returned (.bool true) ∧ w = w' := by
  have k1 := conv_rd (RowAt.rd hg.row) (b.length + 1)
  have k2 := conv_rd hb cap
  have k3 := hg.mark
  have hlI : (b.length : Int) ≤ 140737488351232 := by omega
  clear hg hb
  go_enter Tryd.func12, Tryd.ntmps12
  go_wp2_with fail
  go_ret
  exact ⟨rfl, rfl⟩
/-- one row is owned -/
theorem owned_one {w : World} {s : SV} {b : Bs} {cs : Array Value} {t : TypeId} {f : Nat × Nat} {rb : Nat} (hrb : w.heap[rb]? = some (.cells cs t f)) (hcs : cs.toList = [s.val]) (h : RowAt 5 ByteR w s.val b) (hn : s.val.ownBlock ≠ some rb) (cap : Nat) :
    Calls Tryd.prog 13 #[.slice (some ⟨rb, 0, none⟩) 1 cap] w (OwnedP [s] w) := by
  refine owned_any (ss := [s]) (RowRd.one hrb s hcs) ?_ ?_ ?_ ?_ (by simp) cap
  · intro i s' hs'
    have e : s' = s := by have := List.mem_of_getElem? hs'; simpa using this
    subst e
    rcases h.2 with ⟨e, _⟩ | ⟨g, cap', cur, e, _, hg, hc, hm, hcs', _⟩
    · left
      unfold SV.val at e
      simp only [Value.slice.injEq] at e
      exact e.2.2
    · right
      unfold SV.val at e
      simp only [Value.slice.injEq] at e
      refine ⟨g, cur, e.1, hg, ?_, fun k _ hf => hf.elim⟩
      rw [hcs', byteK, Nat.mul_one, e.2.2]
  · intro i j s1 s2 k h1 h2 _ _
    have a1 := (List.getElem?_eq_some_iff.1 h1).1
    have a2 := (List.getElem?_eq_some_iff.1 h2).1
    simp at a1 a2; omega
  · rintro a ha ⟨s', hs', hk⟩
    cases ha
    simp at hs'
    subst hs'
    exact hn hk
  · intro s' hs'
    simp at hs'
    subst hs'
    obtain ⟨ao', cap', e, h1, h2, _⟩ := h.shape
    unfold SV.val at e
    simp only [Value.slice.injEq] at e
    unfold maxLen at h2
    exact ⟨by omega, by omega⟩
end Go.Proofs.YthckgkghmlkcnaaDoor
