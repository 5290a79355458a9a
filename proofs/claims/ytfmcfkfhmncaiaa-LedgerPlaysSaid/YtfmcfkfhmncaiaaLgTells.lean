/-
  THE WALK of the law's own 'tells': two ledgers of the same posts tell the same; what is answered is spoilt.
-/
import Derived.Test.YtfmcfkfhmncaiaaLgRef2
namespace Go.Proofs.Ytfmcfkfhmncaiaa
open Go.RowKit

/-- a store of a whole post into a row of posts -/
theorem store_post {w : World} {g n k : Nat} {cur : Array Value} (hb : w.heap[g]? = some (.cells cur 34 (0, 0))) (hs : n * 4 ≤ cur.size) (hk : k < n) :
    ∃ x0 x1 x2 x3, w.cell? ⟨g, k * 4, none⟩ = some x0 ∧ w.cell? ⟨g, k * 4 + 1, none⟩ = some x1 ∧ w.cell? ⟨g, k * 4 + 2, none⟩ = some x2 ∧ w.cell? ⟨g, k * 4 + 3, none⟩ = some x3 ∧ ∀ i, w.frozen? ⟨g, i, none⟩ = false := by
  have h := cell_of hb
  exact ⟨cur[k * 4]'(by omega), cur[k * 4 + 1]'(by omega), cur[k * 4 + 2]'(by omega), cur[k * 4 + 3]'(by omega), by rw [h]; simp, by rw [h]; simp, by rw [h]; simp, by rw [h]; simp, free_of hb⟩

set_option maxHeartbeats 1000000 in
theorem tells_at {w : World} {l m : Nat} {ps : List Post} {F G : Nat → Prop} (h : LedAt w l ps F) (r : RefAt w m ps G) :
    Calls Try.prog 25 #[.pointer (some ⟨l, 0, none⟩), .pointer (some ⟨m, 0, none⟩)] w fun e w' => e = .returned (.bool true) ∧ Fr noBlock w w' := by
  have hg := h.good
  have hl24 := hg.len
  obtain ⟨vo, vc, c0, f0, hm, hp, hd⟩ := r.open
  go_enter Try.func25, Try.ntmps25
  go_wp2_with fail
  refine (list_at h).mono ?_
  rintro e w1 ⟨v, h1, rfl, hp1, hf1, hn1⟩
  obtain ⟨uo, uc, rfl⟩ := hp1.shape
  have k0 := (hf1.cell (p := ⟨m, 0, none⟩) hm (fun x => x)).trans c0
  have hsame := same_rd uo vo uc vc ps ps w1 (hp1.rd hg) ((hp.fr hf1 (fun _ _ x => x)).rd hg) true (by simp)
  have Hs := Lib.hid hsame
  clear c0 f0 hsame hp
  go_wp2_with fail
  refine Hs.out.mono ?_
  rintro e w2 ⟨rfl, hf2⟩
  have h12 := hf1.trans' hf2
  have hn0 : ∀ k, (Value.slice uo ps.length uc).ownBlock = some k → w.heap.size ≤ k := hn1
  have hrow : ∃ cur : Array Value, uo = none ∧ ps.length = 0 ∨ ∃ g, uo = some ⟨g, 0, none⟩ ∧ w2.heap[g]? = some (.cells cur 34 (0, 0)) ∧ ps.length * 4 ≤ cur.size := by
    rcases (hp1.fr hf2 (fun _ _ x => x)).2 with ⟨h1, h2⟩ | ⟨g, cap, cur, h1, _, hg, hcap, _, hsz, _⟩
    · simp only [Value.slice.injEq] at h1
      exact ⟨#[], .inl ⟨h1.1, h2⟩⟩
    · simp only [Value.slice.injEq] at h1
      obtain ⟨e1, _, e3⟩ := h1
      exact ⟨cur, .inr ⟨g, e1, hg, by rw [hsz]; exact Nat.mul_le_mul_right 4 hcap⟩⟩
  obtain ⟨cur0, hrow⟩ := hrow
  have HB := Lib.hid (And.intro h12 (And.intro h r))
  clear h1 hp1 hf1 hf2 hn1 k0 h12 h r
  go_wp2_with fail
  go_loopw [7] (fun s7 wr => ∃ k : Nat, k ≤ ps.length ∧ s7 = .int .i64 k ∧ Fr noBlock w wr ∧ (k < ps.length → ∃ g cur, uo = some ⟨g, 0, none⟩ ∧ w.heap.size ≤ g ∧ wr.heap[g]? = some (.cells cur 34 (0, 0)) ∧ ps.length * 4 ≤ cur.size)) (fun s7 _ => ps.length - (intOf s7).toNat)
  case atStart =>
    refine ⟨0, Nat.zero_le _, rfl, HB.out.1, fun hk => ?_⟩
    rcases hrow with ⟨_, h2⟩ | ⟨g, h1, h2, h3⟩
    · omega
    · exact ⟨g, cur0, h1, hn0 g (by rw [h1]; rfl), h2, h3⟩
  case round =>
    clear hrow
    obtain ⟨k, hk, rfl, hf, hblk⟩ := hrel
    by_cases hlt : k < ps.length
    · obtain ⟨g, cur, rfl, hgn, hcur, hsz⟩ := hblk hlt
      obtain ⟨x0, x1, x2, x3, y0, y1, y2, y3, yf⟩ := store_post hcur hsz hlt
      have yf0 := yf (k * 4)
      have yf1 := yf (k * 4 + 1)
      have yf2 := yf (k * 4 + 2)
      have yf3 := yf (k * 4 + 3)
      have h1' : (k : Int) < (ps.length : Int) := by omega
      have hgl := heap_lt hcur
      have HF := Lib.hid (And.intro hf hcur)
      clear yf hf hcur hn0
      go_wp2_with fail
      go_roundw
      case rel =>
        refine ⟨k + 1, by omega, by go_num, ?_, fun _ => ⟨g, _, rfl, hgn, heap_set_eq (heap_set_eq (heap_set_eq (heap_set_eq HF.out.2))), by simpa using hsz⟩⟩
        exact (((HF.out.1.setCell (.inr hgn) _).setCell (.inr hgn) _).setCell (.inr hgn) _).setCell (.inr hgn) _
      case measure => simp [intOf]; omega
    · have h1' : (ps.length : Int) ≤ (k : Int) := by omega
      clear hlt hblk
      go_wp2_with fail
      refine (total_at (HB.out.2.1.fr hf (fun _ _ x => x)) rfl).mono ?_
      rintro e w3 ⟨rfl, rfl⟩
      go_wp2_with fail
      refine (rtotal_any (HB.out.2.2.fr hf (fun _ _ x => x)) hg.may hg.len).mono ?_
      rintro e w3 ⟨rfl, rfl⟩
      go_wp2_with fail
      go_ret
      exact ⟨rfl, hf⟩
end Go.Proofs.Ytfmcfkfhmncaiaa
