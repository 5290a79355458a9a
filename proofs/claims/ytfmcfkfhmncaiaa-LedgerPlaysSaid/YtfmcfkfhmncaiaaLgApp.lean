/-
  THE WALKS of ledger.Approve, Ask, Reverse.
-/
import Derived.Test.YtfmcfkfhmncaiaaLgAdd
namespace Go.Proofs.Ytfmcfkfhmncaiaa
open Go.RowKit

set_option maxHeartbeats 400000 in
theorem approve_any (L : Led) (w : World) (h : L.At w) (key : ByteArray) (amount : Int) (answer : ByteArray) (hs : key.size ≤ maxLen) :
    Calls Try.prog 10 #[.pointer (some ⟨L.l, 0, none⟩), .string key, .int .i64 amount, .string answer] w fun e w' => ∃ L' : Led, L'.At w' ∧ L'.l = L.l ∧ L'.ps = addL L.ps ⟨key, amount, 1, answer⟩ ∧ e = .returned (.int .i64 (addE L.ps ⟨key, amount, 1, answer⟩)) ∧ Fr L.foot w w' ∧ ∀ k, L'.foot k → L.foot k ∨ w.heap.size ≤ k := by
  have hc := add_any L w h ⟨key, amount, 1, answer⟩ hs
  unfold Post.val at hc
  have Hc := Lib.hid hc
  have Hh := Lib.hid h
  clear hc h
  go_enter Try.func10, Try.ntmps10
  go_wp2_with (go_at_call 26; refine Hc.out.mono ?_; rintro e w' ⟨L', h1, h2, h3, rfl, h5⟩; have H1 := Lib.hid h1; have H2 := Lib.hid h2; have H3 := Lib.hid h3; clear h1 h2 h3)
  go_ret
  exact ⟨L', H1.out, H2.out, H3.out, rfl, h5⟩

/-- the post with a key -/
def askP (ps : List Post) (s : ByteArray) : Option Post := ps.find? (fun p => decide (p.key = s))

theorem askP_of {ps : List Post} {s : ByteArray} {x : Int} (h : posOf ps s = some x) : ∃ (k : Nat) (hk : k < ps.length), x = k ∧ ps[k].key = s ∧ askP ps s = some ps[k] := by
  unfold posOf at h
  rw [Option.map_eq_some_iff] at h
  obtain ⟨k, hk, rfl⟩ := h
  have hk' := hk
  rw [List.findIdx?_eq_some_iff_getElem] at hk
  obtain ⟨hlt, h1, h2⟩ := hk
  refine ⟨k, hlt, rfl, by simpa using h1, ?_⟩
  unfold askP
  rw [List.find?_eq_some_iff_getElem]
  exact ⟨h1, k, hlt, rfl, fun j hj => by simpa using h2 j hj⟩
theorem askP_none {ps : List Post} {s : ByteArray} (h : posOf ps s = none) : askP ps s = none := by
  rw [posOf_none] at h
  simp [askP]
  exact h

theorem flat_get {ps : List Post} {k : Nat} (hk : k < ps.length) {j : Nat} (hj : j < 4) : (ps.flatMap Post.cells)[k * 4 + j]? = ps[k].cells[j]? := by
  induction ps generalizing k with
  | nil => simp at hk
  | cons p ps ih =>
    rw [List.flatMap_cons]
    cases k with
    | zero =>
      rw [List.getElem?_append_left (by simp [Post.cells]; omega)]
      simp
    | succ k =>
      have e : (k + 1) * 4 + j = p.cells.length + (k * 4 + j) := by simp [Post.cells]; omega
      rw [e, List.getElem?_append_right (by omega)]
      simp only [Nat.add_sub_cancel_left]
      rw [ih (by simpa using hk)]
      simp

/-- where a post's cells lie -/
theorem Led.At.post {L : Led} {w : World} (h : L.At w) {k : Nat} (hk : k < L.ps.length) :
    ∃ g cap, L.v = .slice (some ⟨g, 0, none⟩) L.ps.length cap ∧ L.ps.length ≤ cap ∧ w.cell? ⟨g, k * 4, none⟩ = some (.string L.ps[k].key) ∧ w.cell? ⟨g, k * 4 + 1, none⟩ = some (.int .i64 L.ps[k].amount) ∧
      w.cell? ⟨g, k * 4 + 2, none⟩ = some (.int .i64 L.ps[k].state) ∧ w.cell? ⟨g, k * 4 + 3, none⟩ = some (.string L.ps[k].answer) := by
  rcases h.row.2 with ⟨_, h2⟩ | ⟨g, cap, cur, hv, _, hg, hcap, _⟩
  · omega
  · have hc := h.row.cells (g := g) (by rw [hv]; rfl)
    refine ⟨g, cap, hv, hcap, ?_, ?_, ?_, ?_⟩
    · have := hc (k * 4 + 0) _ ((flat_get hk (j := 0) (by omega)).trans rfl); rwa [Addr.add_lit, Nat.zero_add] at this
    · have := hc (k * 4 + 1) _ ((flat_get hk (j := 1) (by omega)).trans rfl); rwa [Addr.add_lit, Nat.zero_add] at this
    · have := hc (k * 4 + 2) _ ((flat_get hk (j := 2) (by omega)).trans rfl); rwa [Addr.add_lit, Nat.zero_add] at this
    · have := hc (k * 4 + 3) _ ((flat_get hk (j := 3) (by omega)).trans rfl); rwa [Addr.add_lit, Nat.zero_add] at this

def zeroPost : Post := ⟨⟨#[]⟩, 0, 0, ⟨#[]⟩⟩

set_option maxHeartbeats 400000 in
theorem ask_any (L : Led) (w : World) (h : L.At w) (s : ByteArray) (hs : s.size ≤ maxLen) :
    Calls Try.prog 13 #[.pointer (some ⟨L.l, 0, none⟩), .string s] w fun e w' => e = .returned (.tuple #[((askP L.ps s).getD zeroPost).val, .bool (askP L.ps s).isSome]) ∧ Fr noBlock w w' := by
  have c0 := cell_of h.blk 0
  have c1 := cell_of h.blk 1
  simp at c0 c1
  have hl := heap_lt h.blk
  have hL1 := look_led L w h s hs ((Fr.refl noBlock w).alloc (.cells #[.string ⟨#[]⟩, .int .i64 0, .int .i64 0, .string ⟨#[]⟩] 34)) (fun h => h)
  cases hp : posOf L.ps s with
  | none =>
    rw [askP_none hp]
    rw [hp] at hL1
    simp only [Option.getD_none, Option.isSome_none] at hL1
    clear hp
    go_enter Try.func13, Try.ntmps13
    go_wp2
    exact bodyPost_ret (v := .tuple #[zeroPost.val, .bool false]) (by simp [results, Try.results13, go_sem, zeroPost, Post.val]) rfl ⟨rfl, (Fr.refl _ _).alloc _⟩
  | some x =>
    obtain ⟨k, hk, rfl, hkey, hask⟩ := askP_of hp
    obtain ⟨g, cap, hv, hcap, p0, p1, p2, p3⟩ := h.post hk
    rw [hask]
    rw [hp] at hL1
    simp only [Option.getD_some, Option.isSome_some] at hL1
    rw [hv] at c0
    have Hv := Lib.hid hv
    clear hp hask hv hkey
    have hk' : (k : Int) < (L.ps.length : Int) := by omega
    have hk0 : (0 : Int) ≤ (k : Int) := by omega
    generalize L.ps[k] = p at *
    have hgl := World.block_lt_of_cell? w _ p0
    simp only at hgl
    go_enter Try.func13, Try.ntmps13
    go_wp2
    exact bodyPost_ret (v := .tuple #[p.val, .bool true]) (by simp [results, Try.results13, go_sem, Post.val]) rfl ⟨rfl, (Fr.refl _ _).alloc _⟩
end Go.Proofs.Ytfmcfkfhmncaiaa
