/-
  THE READER in memory. THE WALKS of its take, digits.
-/
import Derived.Test.YthckgkghmlkcnaaDoorDgU
import Derived.Test.YthckgkghmlkcnaaDoorDgPk
import Derived.Test.YthckgkghmlkcnaaDoorIsB
namespace Go.Proofs.YthckgkghmlkcnaaDoor
open Go.RowKit

def Robj (ao : Option Addr) (n cap : Nat) (e : Int) : Obj := .cells #[.slice ao n cap, .int .i64 e] 54 (0, 0)
/-- a reader of bytes that were there at w0 -/
structure Rdr (w0 : World) (r : Nat) (b : Bs) (e : Int) (w : World) : Prop where
  box : ∃ ao cap, w.heap[r]? = some (Robj ao b.length cap e) ∧ RowRd ByteR w0 ao b ∧ b.length ≤ cap ∧ cap ≤ 9223372036854775807 ∧ (ao = none → cap = 0)
  new : w0.heap.size ≤ r
  fr : Fr noBlock w0 w
namespace Rdr
variable {w0 w w' : World} {r : Nat} {b : Bs} {e : Int}
theorem on (h : Rdr w0 r b e w) (f : Fr noBlock w w') : Rdr w0 r b e w' := by
  obtain ⟨ao, cap, h1, h2⟩ := h.box
  exact ⟨⟨ao, cap, f.obj h1 (fun x => x), h2⟩, h.new, h.fr.trans' f⟩
theorem turn {S : Nat → Prop} (h : Rdr w0 r b e w) (f : Fr S w w') (hr : ¬ S r) (hS : ∀ k, S k → w0.heap.size ≤ k) : Rdr w0 r b e w' := by
  obtain ⟨ao, cap, h1, h2⟩ := h.box
  exact ⟨⟨ao, cap, f.obj h1 hr, h2⟩, h.new, h.fr.trans f (fun k hk => .inr (hS k hk))⟩
theorem lt (h : Rdr w0 r b e w) : r < w.heap.size := by
  obtain ⟨ao, cap, h1, _⟩ := h.box
  exact heap_lt h1
theorem cells (h : Rdr w0 r b e w) : ∃ ao cap, w.cell? ⟨r, 0, none⟩ = some (.slice ao b.length cap) ∧ w.cell? ⟨r, 1, none⟩ = some (.int .i64 e) ∧ (∀ i, w.frozen? ⟨r, i, none⟩ = false) ∧ RowRd ByteR w0 ao b ∧ RowRd ByteR w ao b ∧ b.length ≤ cap ∧ cap ≤ 9223372036854775807 ∧ (ao = none → cap = 0) := by
  obtain ⟨ao, cap, h1, h2, h3, h4⟩ := h.box
  exact ⟨ao, cap, by simpa [Robj] using cell_of h1 0, by simpa [Robj] using cell_of h1 1, fun i => free_of h1 i, h2, h2.fr0 h.fr, h3, h4⟩
theorem setE (h : Rdr w0 r b e w) (x : Int) : Rdr w0 r b x (w.setCell ⟨r, 1, none⟩ (.int .i64 x)) ∧ Fr (fun k => k = r) w (w.setCell ⟨r, 1, none⟩ (.int .i64 x)) := by
  obtain ⟨ao, cap, h1, h2⟩ := h.box
  have hb := heap_set_eq (i := 1) (u := .int .i64 x) h1
  exact ⟨⟨⟨ao, cap, by simpa [Robj] using hb, h2⟩, h.new, h.fr.setCell (p := ⟨r, 1, none⟩) (.inr h.new) _⟩, (Fr.refl (fun k => k = r) w).setCell (p := ⟨r, 1, none⟩) (.inl rfl) _⟩
theorem setB (h : Rdr w0 r b e w) {ao : Option Addr} {cap : Nat} {x : Bs} (hr : RowRd ByteR w0 ao x) (h1' : x.length ≤ cap) (h2' : cap ≤ 9223372036854775807) (h3' : ao = none → cap = 0) : Rdr w0 r x e (w.setCell ⟨r, 0, none⟩ (.slice ao x.length cap)) ∧ Fr (fun k => k = r) w (w.setCell ⟨r, 0, none⟩ (.slice ao x.length cap)) := by
  obtain ⟨ao', cap', h1, h2⟩ := h.box
  have hb := heap_set_eq (i := 0) (u := .slice ao x.length cap) h1
  exact ⟨⟨⟨ao, cap, by simpa [Robj] using hb, hr, h1', h2', h3'⟩, h.new, h.fr.setCell (p := ⟨r, 0, none⟩) (.inr h.new) _⟩, (Fr.refl (fun k => k = r) w).setCell (p := ⟨r, 0, none⟩) (.inl rfl) _⟩
end Rdr
theorem RowRd.drop {w : World} {b off : Nat} {x : Bs} (h : RowRd ByteR w (some ⟨b, off, none⟩) x) (k : Nat) : RowRd ByteR w (some ⟨b, off + k, none⟩) (x.drop k) := by
  have := RowRd.piece h k (x.length - k)
  rw [byteK, Nat.mul_one, List.take_of_length_le (by rw [List.length_drop]; omega)] at this
  exact this
theorem RowRd.empty {w : World} {ao : Option Addr} : RowRd ByteR w ao [] := RowRd.nil
/-- what take answers -/
def takeE (b : Bs) (e : Int) (n : Nat) : Int := if e ≠ 0 then e else if b.length < n then 3 else 0
def takeB (b : Bs) (e : Int) (n : Nat) : Bs := if takeE b e n = 0 then b.drop n else b
def takeX (b : Bs) (e : Int) (n : Nat) : Bs := if takeE b e n = 0 then b.take n else zeros n
def TakeP (w0 : World) (r : Nat) (b : Bs) (e : Int) (n : Nat) (w : World) (en : Ending) (w' : World) : Prop := ∃ s : SV, en = .returned s.val ∧ s.n = n ∧ n ≤ s.cap ∧ (takeX b e n).length = n ∧ RowRd ByteR w' s.ao (takeX b e n) ∧ (∀ a, s.ao = some a → a.block ≠ r ∧ a.block < w'.heap.size) ∧ Rdr w0 r (takeB b e n) (takeE b e n) w' ∧ Fr (fun k => k = r) w w'
set_option maxRecDepth 100000 in
set_option maxHeartbeats 1600000 in
theorem take_any {w0 w : World} {r : Nat} {b : Bs} {e : Int} (h : Rdr w0 r b e w) (n : Nat) (hn1 : 1 ≤ n) (hn : n ≤ 999) : Calls Tryd.prog 49 #[.pointer (some ⟨r, 0, none⟩), .int .i64 n] w (TakeP w0 r b e n w) := by
  have HR := Lib.hid h
  obtain ⟨ao, cap, c0, c1, z, hr0, hr, hcap, hc63, -⟩ := h.cells
  have z0 := z 0
  have z1 := z 1
  have hrw := h.lt
  obtain ⟨i0, hi0, hz0, hz1, hz2⟩ := info_parts infoB
  have hq1 : (1 : Int) ≤ (n : Int) := by omega
  have hq9 : (n : Int) ≤ 999 := by omega
  clear h z
  by_cases he : e = 0
  · subst he
    by_cases hl : b.length < n
    · have hE : takeE b 0 n = 3 := by unfold takeE; rw [if_neg (by simp), if_pos hl]
      have HE := Lib.hid hE
      have hlI : (b.length : Int) < (n : Int) := by omega
      have HS := Lib.hid (HR.out.setE 3)
      clear hE hl hr0 hr
      go_enter Tryd.func49, Tryd.ntmps49
      go_wp2_with (at_make; refine wpList_make_full _ rfl _ _ _ rfl 0 5 i0 (.int .u8 0) 1 Tryd.underlying22 hi0 hz0 hz1 .i64 .i64 _ _ n rfl rfl ?c1 ?c2 ?c3 ?c4 ?c5 ?_)
      case c1 => first | rfl | omega
      case c2 => first | rfl | omega
      case c3 => rw [hz2]; omega
      case c4 => unfold maxLen; omega
      case c5 => exact Nat.zero_le _
      intro w1 hown hgrow
      have H1 := Lib.hid (And.intro (zeros_made hown) ((Fr.refl noBlock _).grown hgrow (by intro k hk; cases hk)))
      clear hown hgrow
      go_wp2_with fail
      go_ret
      refine ⟨⟨some ⟨w.heap.size, 0, none⟩, n, n⟩, rfl, rfl, Nat.le_refl _, ?_, ?_, fun a ea => ?_, ?_, HS.out.2.trans H1.out.2 (fun k hk => hk.elim)⟩
      · unfold takeX; rw [if_neg (by rw [HE.out]; decide)]; simp [zeros]
      · unfold takeX; rw [if_neg (by rw [HE.out]; decide)]; exact RowAt.rd H1.out.1
      · cases ea
        have := H1.out.1.lt _ rfl
        exact ⟨by show w.heap.size ≠ r; omega, this⟩
      · unfold takeB; rw [if_neg (by rw [HE.out]; decide), HE.out]
        exact HS.out.1.on H1.out.2
    · have hE : takeE b 0 n = 0 := by unfold takeE; rw [if_neg (by simp), if_neg hl]
      have HE := Lib.hid hE
      have hlI : (n : Int) ≤ (b.length : Int) := by omega
      have hcI : (n : Int) ≤ (cap : Int) := by omega
      have hnc : n ≤ cap := by omega
      have hb0 : 0 < b.length := by omega
      have hlb : n ≤ b.length := by omega
      obtain ⟨g, off, rfl, hg⟩ := byte_addr hr0 (i := 0) hb0
      have hgr := HR.out.new
      have HT := Lib.hid (RowRd.takeN hr n)
      have hlen : (b.take n).length = n := by rw [List.length_take]; omega
      by_cases hcn : cap = n
      · subst hcn
        have hbn : b.length = cap := by omega
        have hbd : b.drop cap = [] := List.drop_eq_nil_of_le (by omega)
        have HS := Lib.hid (fun (a : Option Addr) => HR.out.setB (ao := a) (cap := 0) (x := []) RowRd.empty (Nat.le_refl _) (by omega) (fun _ => rfl))
        clear hE hl hr0 hr hbn
        go_enter Tryd.func49, Tryd.ntmps49
        go_wp2_with fail
        go_ret
        refine ⟨⟨some ⟨g, off, none⟩, cap, cap⟩, rfl, rfl, Nat.le_refl _, ?_, ?_, fun a ea => ?_, ?_, (HS.out _).2⟩
        · unfold takeX; rw [if_pos HE.out]; exact hlen
        · unfold takeX; rw [if_pos HE.out]; exact HT.out.fr (HS.out (some ⟨g, off, none⟩)).2 (fun _ a ea => by cases ea; show g ≠ r; omega)
        · cases ea
          exact ⟨by show g ≠ r; omega, by simp; have := HR.out.fr.size; omega⟩
        · unfold takeB; rw [if_pos HE.out, HE.out, hbd]
          exact (HS.out _).1
      · have hS := HR.out.setB (RowRd.drop hr0 n) (by rw [List.length_drop]; omega : (b.drop n).length ≤ cap - n) (by omega) (fun e => by cases e)
        rw [List.length_drop] at hS
        have HS := Lib.hid hS
        clear hE hl hr0 hr hS
        go_enter Tryd.func49, Tryd.ntmps49
        go_wp2_with fail
        go_ret
        refine ⟨⟨some ⟨g, off, none⟩, n, cap⟩, rfl, rfl, hnc, ?_, ?_, fun a ea => ?_, ?_, HS.out.2⟩
        · unfold takeX; rw [if_pos HE.out]; exact hlen
        · unfold takeX; rw [if_pos HE.out]; exact HT.out.fr HS.out.2 (fun _ a ea => by cases ea; show g ≠ r; omega)
        · cases ea
          exact ⟨by show g ≠ r; omega, by simp; have := HR.out.fr.size; omega⟩
        · unfold takeB; rw [if_pos HE.out, HE.out]
          exact HS.out.1
  · have hE : takeE b e n = e := by unfold takeE; rw [if_pos he]
    have HE := Lib.hid hE
    have hb0 : (e == 0) = false := by simpa using he
    have hb1 : (e != 0) = true := by simpa using he
    have He := Lib.hid he
    clear hE hr0 hr he
    go_enter Tryd.func49, Tryd.ntmps49
    go_wp2_with (at_make; refine wpList_make_full _ rfl _ _ _ rfl 0 5 i0 (.int .u8 0) 1 Tryd.underlying22 hi0 hz0 hz1 .i64 .i64 _ _ n rfl rfl ?c1 ?c2 ?c3 ?c4 ?c5 ?_)
    case c1 => first | rfl | omega
    case c2 => first | rfl | omega
    case c3 => rw [hz2]; omega
    case c4 => unfold maxLen; omega
    case c5 => exact Nat.zero_le _
    intro w1 hown hgrow
    have H1 := Lib.hid (And.intro (zeros_made hown) ((Fr.refl noBlock _).grown hgrow (by intro k hk; cases hk)))
    clear hown hgrow
    go_wp2_with fail
    go_ret
    refine ⟨⟨some ⟨w.heap.size, 0, none⟩, n, n⟩, rfl, rfl, Nat.le_refl _, ?_, ?_, fun a ea => ?_, ?_, H1.out.2.mono (fun _ x => x.elim)⟩
    · unfold takeX; rw [if_neg (by rw [HE.out]; exact He.out)]; simp [zeros]
    · unfold takeX; rw [if_neg (by rw [HE.out]; exact He.out)]; exact RowAt.rd H1.out.1
    · cases ea
      have := H1.out.1.lt _ rfl
      exact ⟨by show w.heap.size ≠ r; omega, this⟩
    · unfold takeB; rw [if_neg (by rw [HE.out]; exact He.out), HE.out]
      exact HR.out.on H1.out.2
/-- what digits answers, no error ahead -/
def DigP (w0 : World) (r : Nat) (b : Bs) (n : Nat) (w : World) (en : Ending) (w' : World) : Prop := en = .returned (.string (strB (unpT b n))) ∧ Rdr w0 r (b.drop (unpN b n)) (unpE b n) w' ∧ Fr (fun k => k = r) w w'
set_option maxRecDepth 100000 in
set_option maxHeartbeats 1600000 in
theorem rdigits_any {w0 w : World} {r : Nat} {b : Bs} (h : Rdr w0 r b 0 w) (n : Nat) (hn1 : 1 ≤ n) (hn : n ≤ 999) : Calls Tryd.prog 27 #[.pointer (some ⟨r, 0, none⟩), .int .i64 n] w (DigP w0 r b n w) := by
  have HR := Lib.hid h
  obtain ⟨ao, cap, c0, c1, -, hr0, hr, hcap, hc63, -⟩ := h.cells
  have HU := Lib.hid (unpack_any hr cap n hcap hc63 hn1 hn)
  have hnl : unpN b n ≤ b.length := by
    unfold unpN
    split
    · rename_i h0
      exact (pack_unp h0).2.1
    · omega
  have HR0 := Lib.hid hr0
  obtain ⟨k, hk⟩ : ∃ k, unpN b n = k := ⟨_, rfl⟩
  obtain ⟨x, hx⟩ : ∃ x, unpE b n = x := ⟨_, rfl⟩
  obtain ⟨u, hu⟩ : ∃ u, strB (unpT b n) = u := ⟨_, rfl⟩
  unfold UnpP at HU
  unfold DigP
  rw [hk, hx, hu] at HU ⊢
  rw [hk] at hnl
  clear h hr hr0 hk hx hu
  go_enter Tryd.func27, Tryd.ntmps27
  go_wp2_with fail
  refine HU.out.mono ?_
  rintro e w1 ⟨rfl, f1⟩
  have HR1 := Lib.hid (HR.out.on f1)
  have HF1 := Lib.hid f1
  have HS := Lib.hid ((HR.out.on f1).setE x)
  obtain ⟨ao2, cap2, d0, d1, z, -⟩ := (HR.out.on f1).cells
  have z1 := z 1
  clear f1 c0 c1 d0
  go_upto_region 5 with fail
  refine wp_at (φ := fun W => Rdr w0 r b x W ∧ Fr (fun k => k = r) w W) ⟨HS.out.1, (HF1.out.mono (fun _ x => x.elim)).trans HS.out.2 (fun k hk => .inl hk)⟩ ?_
  rintro w2 ⟨hR2, hF2⟩
  have HR2 := Lib.hid hR2
  have HF2 := Lib.hid hF2
  clear d1 z z1 hR2 hF2
  obtain ⟨ao, cap, c0, c1, z, hr0, -, hcap, hc63, hno⟩ := HR2.out.cells
  have z0 := z 0
  have hkI : (k : Int) ≤ (b.length : Int) := by omega
  have hkc : k ≤ cap := by omega
  have hkcI : (k : Int) ≤ (cap : Int) := by omega
  have hbcI : (b.length : Int) ≤ (cap : Int) := by omega
  by_cases hcn : cap = k
  · subst hcn
    have hbd : b.drop cap = [] := List.drop_eq_nil_of_le (by omega)
    have hbl : b.length = cap := by omega
    rw [hbl] at c0
    have HS2 := Lib.hid (fun (a : Option Addr) => HR2.out.setB (ao := a) (cap := 0) (x := []) RowRd.empty (Nat.le_refl _) (by omega) (fun _ => rfl))
    have Hbd := Lib.hid hbd
    clear z hr0 hbd hno
    cases ao with
    | none =>
      go_wp2_with fail
      go_ret
      rw [Hbd.out]
      exact ⟨rfl, (HS2.out _).1, HF2.out.trans (HS2.out _).2 (fun k hk => .inl hk)⟩
    | some a =>
      obtain ⟨g, off, sp⟩ := a
      go_wp2_with fail
      go_ret
      rw [Hbd.out]
      exact ⟨rfl, (HS2.out _).1, HF2.out.trans (HS2.out _).2 (fun k hk => .inl hk)⟩
  · cases ao with
    | none => exact absurd (hno rfl) (by omega)
    | some a =>
      have hsp : ∃ g off, a = ⟨g, off, none⟩ ∨ b = [] := by
        rcases Nat.eq_zero_or_pos b.length with h0 | h0
        · exact ⟨0, 0, .inr (List.eq_nil_of_length_eq_zero h0)⟩
        · obtain ⟨g, off, e, _⟩ := byte_addr hr0 (i := 0) h0
          cases e
          exact ⟨g, off, .inl rfl⟩
      obtain ⟨g, off, hsp⟩ := hsp
      have hS := fun (a' : Option Addr) (hr' : RowRd ByteR w0 a' (b.drop k)) (hn' : a' = none → cap - k = 0) => HR2.out.setB hr' (by rw [List.length_drop]; omega : (b.drop k).length ≤ cap - k) (by omega) hn'
      rw [List.length_drop] at hS
      rcases hsp with rfl | rfl
      · have HS2 := Lib.hid (hS _ (RowRd.drop hr0 k) (fun e => by cases e))
        clear z hr0 hno hS
        go_wp2_with fail
        go_ret
        exact ⟨rfl, HS2.out.1, HF2.out.trans HS2.out.2 (fun k hk => .inl hk)⟩
      · have hk0 : k = 0 := by simp at hnl; omega
        subst hk0
        obtain ⟨g', off', sp'⟩ := a
        have HS2 := Lib.hid (hS (some ⟨g', off', sp'⟩) RowRd.empty (fun e => by cases e))
        clear z hr0 hno hS
        go_wp2_with fail
        go_ret
        exact ⟨rfl, HS2.out.1, HF2.out.trans HS2.out.2 (fun k hk => .inl hk)⟩
end Go.Proofs.YthckgkghmlkcnaaDoor
