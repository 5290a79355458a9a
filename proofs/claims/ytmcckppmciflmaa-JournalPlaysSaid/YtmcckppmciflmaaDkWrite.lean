/-
  THE WALKS of disk.Write, land.
-/
import Derived.Deep.RegionHeld3
import Derived.Test.YtmcckppmciflmaaDkWalk
namespace Go.Proofs.Ytmcckppmciflmaa
open Go.RowKit

theorem odd_t (p : Int) : (p.tmod 2 != 0) = decide (p % 2 ≠ 0) := by
  have h1 := Int.lt_tmod_of_pos p (show (0 : Int) < 2 by omega)
  have h2 := Int.tmod_lt_of_pos p (show (0 : Int) < 2 by omega)
  have h3 := Int.tmod_add_mul_tdiv p 2
  rw [Bool.eq_iff_iff]
  simp only [bne_iff_ne, decide_eq_true_eq]
  omega

theorem rise_len {l : Dirt} {N : Nat} : ∀ {a : Nat}, Rise l → (∀ p ∈ l, a ≤ p.1 ∧ p.1 < N) → l.length ≤ N - a := by
  induction l with
  | nil => intro a _ _; exact Nat.zero_le _
  | cons p l ih =>
    intro a h hN
    have hp := List.pairwise_cons.1 h
    have h1 := hN p (by simp)
    have := ih (a := p.1 + 1) hp.2 (fun q hq => ⟨hp.1 q hq, (hN q (by simp [hq])).2⟩)
    rw [List.length_cons]
    omega
theorem dirt_len {d : DK} (h : d.Good) : d.dirty.length ≤ 4096 := Nat.le_trans (rise_len (a := 0) h.rise (fun p hp => ⟨Nat.zero_le _, (h.there p hp).1⟩)) h.n1

def WriteP (l : Nat) (d' : DK) (x : Int) (F : Nat → Prop) (w : World) (e : Ending) (w' : World) : Prop := ∃ F', e = .returned (.int .i64 x) ∧ DiskAt l d' w' F' ∧ Step F F' w w'
set_option maxRecDepth 100000 in
set_option maxHeartbeats 800000 in
theorem write_any0 {l : Nat} {d : DK} {w : World} {F : Nat → Prop} (h : DiskAt l d w F) (n : Int) {ao : Option Addr} {b : Bs} (hb : RowRd ByteR w ao b) (hap : 0 < b.length → ∀ a, ao = some a → ¬ F a.block) (cap : Nat) (hbn : b.length ≤ 9223372036854775807) :
    Calls Try.prog 13 #[.pointer (some ⟨l, 0, none⟩), .int .i64 n, .slice ao b.length cap] w (WriteP l (d.write n b) (d.writeE n b.length) F w) := by
  have H := Lib.hid h
  have Hcut := Lib.hid (cut_any h)
  have His := Lib.hid (is_any h n _ rfl)
  have HB := Lib.hid hb
  have HAP := Lib.hid hap
  have hgood := h.good
  obtain ⟨acts, part, sv, ss, bm, g, hin⟩ := h
  obtain ⟨c0, c1, c2, c3, c4, c5, c6⟩ := hin.cells
  have Harm := Lib.hid hin.arm
  have C3 := Lib.hid c3
  have hs0 := hgood.s0
  have hs1 := hgood.s1
  have Hgood := Lib.hid hgood
  have Hin := Lib.hid hin
  clear hin c1 c2 c3 c5 c6 hb hgood hap
  cases hoff : d.off with
  | true =>
    rw [hoff] at c0
    have Hd := Lib.hid (show d.write n b = d ∧ d.writeE n b.length = 30 by simp [DK.write, DK.writeE, hoff])
    clear hoff
    go_enter Try.func13, Try.ntmps13
    go_wp2_with fail
    go_ret
    exact ⟨F, ret_int Hd.out.2.symm, by rw [Hd.out.1]; exact H.out, Step.refl _ _⟩
  | false =>
    rw [hoff] at c0
    cases his : d.isS n with
    | false =>
      have Hd := Lib.hid (show d.write n b = d ∧ d.writeE n b.length = 31 by simp [DK.write, DK.writeE, hoff, his])
      rw [his] at His
      clear hoff
      go_enter Try.func13, Try.ntmps13
      go_wp2_with fail
      refine His.out.mono ?_
      rintro e w1 ⟨rfl, rfl⟩
      go_wp2_with fail
      go_ret
      exact ⟨F, ret_int Hd.out.2.symm, by rw [Hd.out.1]; exact H.out, Step.refl _ _⟩
    | true =>
      rw [his] at His
      by_cases hlen : b.length = d.size
      · have hlb : ((b.length : Int) != (d.size : Int)) = false := by simp [hlen]
        have hbz : b.length ≤ 4096 := by omega
        have hdE : d.writeE n b.length = if d.gone then 30 else 0 := by simp [DK.writeE, hoff, his, hlen]
        have hdW : d.write n b = if d.gone && !d.oddP then d.cut else { d.cut with dirty := putD d.dirty n.toNat b } := by simp [DK.write, hoff, his, hlen]
        have Hd := Lib.hid (And.intro hdE hdW)
        have Hlen := Lib.hid hlen
        have Hiss := Lib.hid his
        have hn4 : 0 ≤ n ∧ n ≤ 4096 := by have := DK.isS_iff.1 his; have := Hgood.out.n1; omega
        obtain ⟨hn0, hn1⟩ := hn4
        -- the store
        have Hput := Lib.hid (show ∀ w1, DiskAt l d.cut w1 F → Step F F w w1 → ∃ bm', w1.cell? ⟨l, 6, none⟩ = some (.map (some bm')) ∧ ∀ w2 (s : SV), Fr noBlock w1 w2 → RowAt 5 ByteR w2 s.val b → (∀ k, s.val.ownBlock = some k → w1.heap.size ≤ k) →
            ∃ w3, (Instr.mapUpdate 41 (.map (some bm')) (.int .i64 n) s.val).run Try.prog w2 = .ok () w3 ∧ w3.cell? ⟨l, 6, none⟩ = some (.map (some bm')) ∧ ∃ F', DiskAt l { d.cut with dirty := putD d.dirty n.toNat b } w3 F' ∧ Step F F' w w3 by
          intro w1 h1 s1
          obtain ⟨acts, part, sv, ss, bm, g, hin⟩ := h1
          obtain ⟨e1, e2, e3⟩ := d.cut_same
          refine ⟨bm, hin.cells.2.2.2.2.2.2, fun w2 s f2 r2 n2 => ?_⟩
          have hm2 := hin.map.fr f2 (fun x => x)
          obtain ⟨w3, hrun, hm3, ht3⟩ := hm2.store (mt := 41) Try.underlying41 (by have := hin.good.n1; unfold maxLen; rw [e3]; have := dirt_len Hgood.out; omega) (kI_ok hn0 hn1) s.val
          obtain ⟨F', h3, s3⟩ := hin.put f2 (n := n) (b := b) (by unfold DK.isS; rw [e2]; exact Hiss.out) (by rw [e1]; exact Hlen.out) r2 n2 (N := _) rfl (by simpa using hm3) ht3
          refine ⟨w3, hrun, h3.cells.2.2.2.2.2.2, F', ?_, s1.trans s3⟩
          rw [e3] at h3
          exact ⟨_, _, _, _, _, _, h3⟩)
        clear hdE hdW hoff his hlen
        go_enter Try.func13, Try.ntmps13
        go_wp2_with fail
        refine His.out.mono ?_
        rintro e w1 ⟨rfl, rfl⟩
        go_wp2_with fail
        refine Hcut.out.mono ?_
        rintro e w1 ⟨rfl, h1, s1, k1⟩
        obtain ⟨bm', x6, hst⟩ := Hput.out w1 h1 s1
        have x3 := (k1 3 (by omega)).trans C3.out
        have Hst := Lib.hid hst
        have H1 := Lib.hid (And.intro h1 s1)
        have Hb1 := Lib.hid (HB.out.fr s1.fr (fun b off e => HAP.out (by have := Hlen.out; omega) _ e))
        have Hl1 := Lib.hid (show l < w1.heap.size by have := heap_lt Hin.out.box; have := s1.size; omega)
        clear hst h1 s1 k1
        cases hg : d.gone with
        | false =>
          rw [hg] at Hd
          clear x3
          go_wp2_with fail
          go_region_held3 (fun W => W.cell? ⟨l, 6, none⟩ = some (.map (some bm'))) (first | exact x6 | exact x7 | exact x8)
            ((go_at_call 38; (with_reducible refine (clone_any (bs := b) (Hb1.out.fr0 (by first | exact Fr.refl _ _ | exact (Fr.refl _ _).drew | exact (Fr.refl _ _).drewN _)) cap (by omega)).mono ?_); rintro e w2 ⟨s, rfl, hsn, hr2, f2, n2⟩; have f2' := ((Fr.refl noBlock w1).drew).trans' f2; obtain ⟨w3, hrun, x8, F', h3, s3⟩ := Hst.out w2 s f2' hr2 n2; have x7 := (f2.cell (p := ⟨l, 6, none⟩) Hl1.out (fun x => x)).trans x6))
          go_wp2_with fail
          go_ret
          exact ⟨F', ret_int (by rw [Hd.out.1]; rfl), by rw [Hd.out.2]; exact h3, s3⟩
        | true =>
          rw [hg] at Hd
          have hod : (part.tmod 2 != 0) = d.oddP := by
            rw [odd_t]
            unfold DK.gone at hg
            unfold DK.oddP
            split at hg
            · rename_i p hp
              rw [hp]
              obtain ⟨_, e⟩ := Harm.out _ _ hp
              simp [e]
            · cases hg
          cases ho : d.oddP with
          | false =>
            rw [ho] at hod Hd
            clear hg ho
            go_wp2_with fail
            go_ret
            exact ⟨F, ret_int (by rw [Hd.out.1]; rfl), by rw [Hd.out.2]; exact H1.out.1, H1.out.2⟩
          | true =>
            rw [ho] at hod Hd
            clear hg ho
            go_wp2_with fail
            go_region_held3 (fun W => W.cell? ⟨l, 6, none⟩ = some (.map (some bm'))) (first | exact x6 | exact x7 | exact x8)
              ((go_at_call 38; (with_reducible refine (clone_any (bs := b) (Hb1.out.fr0 (by first | exact Fr.refl _ _ | exact (Fr.refl _ _).drew | exact (Fr.refl _ _).drewN _)) cap (by omega)).mono ?_); rintro e w2 ⟨s, rfl, hsn, hr2, f2, n2⟩; have f2' := ((Fr.refl noBlock w1).drew).trans' f2; obtain ⟨w3, hrun, x8, F', h3, s3⟩ := Hst.out w2 s f2' hr2 n2; have x7 := (f2.cell (p := ⟨l, 6, none⟩) Hl1.out (fun x => x)).trans x6))
            go_wp2_with fail
            go_ret
            exact ⟨F', ret_int (by rw [Hd.out.1]; rfl), by rw [Hd.out.2]; exact h3, s3⟩
      · have hlb : ((b.length : Int) != (d.size : Int)) = true := by rw [bne_iff_ne]; omega
        have Hd := Lib.hid (show d.write n b = d ∧ d.writeE n b.length = 1 by simp [DK.write, DK.writeE, hoff, his, hlen])
        clear hoff his hlen
        go_enter Try.func13, Try.ntmps13
        go_wp2_with fail
        refine His.out.mono ?_
        rintro e w1 ⟨rfl, rfl⟩
        go_wp2_with fail
        go_ret
        exact ⟨F, ret_int Hd.out.2.symm, by rw [Hd.out.1]; exact H.out, Step.refl _ _⟩
theorem write_any {l : Nat} {d : DK} {w : World} {F : Nat → Prop} (h : DiskAt l d w F) (n : Int) {ao : Option Addr} {b : Bs} (hb : RowRd ByteR w ao b) (hap : ∀ a, ao = some a → ¬ F a.block) (cap : Nat) (hbn : b.length ≤ 9223372036854775807) :
    Calls Try.prog 13 #[.pointer (some ⟨l, 0, none⟩), .int .i64 n, .slice ao b.length cap] w (WriteP l (d.write n b) (d.writeE n b.length) F w) := write_any0 h n hb (fun _ => hap) cap hbn
end Go.Proofs.Ytmcckppmciflmaa
