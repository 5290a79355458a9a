/-
  A TENANT (plain): its answers' fields and types.
-/
import Derived.Test.YtajhgejhdalobaaGreatDoorTnP
namespace Go.Proofs.YtajhgejhdalobaaGreatDoor.Lg
open Go.RowKit

/-- a row of posts: a slice that reads so, and whose own block, if there is one, is 'g' -/
def PostsAt (w : World) (v : Value) (ps : List Post) : Prop := w.ownsRow 0 53 4 v ps.length (ps.flatMap Post.cells)

set_option maxRecDepth 100000 in
set_option maxHeartbeats 400000 in
theorem clone_any (v : Value) (ps : List Post) (w : World) (h : PostsAt w v ps) (hlen : ps.length ≤ 100000) :
    Calls Tryz.prog 128 #[v] w fun e w' => ∃ v', e = .returned v' ∧ PostsAt w' v' ps ∧ Fr noBlock w w' ∧ ∀ k, v'.ownBlock = some k → w.heap.size ≤ k := by
  obtain ⟨i0, hi0, hz0, hz1, hz2⟩ := info_parts info_post
  rcases h.2 with ⟨rfl, h0⟩ | ⟨g, cap, cur, rfl, _, hg, hcap, _⟩
  · have hps : ps = [] := List.eq_nil_of_length_eq_zero h0
    subst hps
    have he := fun w : World => Lib.run_eql_slice_nil (P := Tryz.prog) w 50 53 none 0 0 0 0 Tryz.underlying50
    go_enter Tryz.func128, Tryz.ntmps128
    go_wp2
    go_ret
    exact ⟨_, rfl, h, Fr.refl _ _, fun k hk => by simp [Value.ownBlock] at hk⟩
  · have he := fun w : World => Lib.run_eql_slice_nil (P := Tryz.prog) w 50 53 (some ⟨g, 0, none⟩) ps.length cap 0 0 Tryz.underlying50
    have hc := h.cells (g := g) rfl
    have hl := h.1
    have hgl := heap_lt hg
    have Hc := Lib.hid hc
    have Hl := Lib.hid hl
    have h1 : ∀ u ∈ ps.flatMap Post.cells, u.oneCell' = true := by
      intro u hu
      obtain ⟨p, _, hp⟩ := List.mem_flatMap.1 hu
      simp [Post.cells] at hp
      rcases hp with rfl | rfl | rfl | rfl <;> rfl
    have H1 := Lib.hid h1
    clear hc hl h1
    go_enter Tryz.func128, Tryz.ntmps128
    go_wp2_with (at_builtin; refine wpList_append_own_at (base := 0) (w := w.alloc (.cells #[] 53)) rfl _ _ _ rfl 53 i0 _ 4 48 Tryz.underlying50 hi0 hz0 hz1 hz2 rfl (by decide) _ 0 [] rfl ?c1 ⟨g, 0, none⟩ ps.length cap (ps.flatMap Post.cells) rfl ?c2 ?c3 ?c4 ?c5 ?c6 ?c7 ?_)
    case c1 => exact World.ownsRow_made w #[] 0 (Nat.zero_le _) (Nat.zero_le _) (by simp)
    case c2 => exact Hl.out
    case c3 => intro j u hu; exact (World.cell?_alloc_lt _ _ _ (by rw [Addr.add_lit]; exact hgl)).trans (Hc.out j u hu)
    case c4 => exact H1.out
    case c5 => unfold maxLen; omega
    case c6 => omega
    case c7 => exact Nat.zero_le _
    intro v' w1 hown hgrow _ hat
    have hF : Fr noBlock w w1 := ((Fr.refl noBlock w).alloc _).grown hgrow (by intro k hk; simp [Value.ownBlock] at hk; exact .inr (by omega))
    go_wp2
    go_ret
    refine ⟨v', rfl, hown, hF, fun k hk => ?_⟩
    rcases hat with hat | hat <;> (rw [hk] at hat; simp [Value.ownBlock] at hat; omega)

set_option maxRecDepth 100000 in
set_option maxHeartbeats 400000 in
theorem list_any (L : Led) (w : World) (h : L.At w) :
    Calls Tryz.prog 57 #[.pointer (some ⟨L.l, 0, none⟩)] w fun e w' => ∃ v', e = .returned v' ∧ PostsAt w' v' L.ps ∧ Fr noBlock w w' ∧ ∀ k, v'.ownBlock = some k → w.heap.size ≤ k := by
  have c0 := cell_of h.blk 0
  simp at c0
  have hg := h.good.len
  have hc := clone_any L.v L.ps w h.row (by omega)
  obtain ⟨ao, cap, hv⟩ := h.shape
  rw [hv] at c0 hc
  have Hc := Lib.hid hc
  clear hc hv h
  go_enter Tryz.func57, Tryz.ntmps57
  go_wp2_with (go_at_call 128; refine Hc.out.mono ?_; rintro e w' ⟨v', rfl, h1, h2, h3⟩)
  go_ret
  exact ⟨v', rfl, h1, h2, h3⟩
end Go.Proofs.YtajhgejhdalobaaGreatDoor.Lg
namespace Go.Proofs.YtajhgejhdalobaaGreatDoor.Lg
open Go.RowKit

/-- one step of a thing that lies in the blocks F, then in F' -/
structure Step (F F' : Nat → Prop) (w w' : World) : Prop where
  fr : Fr F w w'
  foot : ∀ k, F' k → F k ∨ w.heap.size ≤ k

theorem Step.below {F F' : Nat → Prop} {w w' : World} (h : Step F F' w w') {B : Nat} (hF : ∀ k, F k → B ≤ k) (hB : B ≤ w.heap.size) : Below B w w' ∧ ∀ k, F' k → B ≤ k :=
  ⟨h.fr.below hB hF, fun k hk => (h.foot k hk).elim (hF k) (fun h => by omega)⟩
/-- what lies apart stays apart -/
theorem Step.apart {F F' G : Nat → Prop} {w w' : World} (h : Step F F' w w') (hd : ∀ k, F k → ¬ G k) (hG : ∀ k, G k → k < w.heap.size) : ∀ k, F' k → ¬ G k :=
  fun k hk hg => (h.foot k hk).elim (fun hf => hd k hf hg) (fun hle => by have := hG k hg; omega)
theorem Step.refl (F : Nat → Prop) (w : World) : Step F F w w := ⟨Fr.refl _ _, fun _ h => .inl h⟩

def LedAt (w : World) (l : Nat) (ps : List Post) (F : Nat → Prop) : Prop := ∃ L : Led, L.At w ∧ L.l = l ∧ L.ps = ps ∧ ∀ k, L.foot k ↔ F k

variable {w : World} {l : Nat} {ps : List Post} {F : Nat → Prop}

theorem LedAt.lt (h : LedAt w l ps F) : ∀ k, F k → k < w.heap.size := by
  obtain ⟨L, h1, rfl, rfl, h4⟩ := h
  exact fun k hk => h1.foot_lt ((h4 k).2 hk)
theorem LedAt.good (h : LedAt w l ps F) : Good ps := by
  obtain ⟨L, h1, rfl, rfl, h4⟩ := h
  exact h1.good
theorem LedAt.fr {S : Nat → Prop} {w' : World} (h : LedAt w l ps F) (hf : Fr S w w') (hs : ∀ k, F k → ¬ S k) : LedAt w' l ps F := by
  obtain ⟨L, h1, h2, h3, h4⟩ := h
  exact ⟨L, h1.fr hf (fun k hk => hs k ((h4 k).1 hk)), h2, h3, h4⟩

theorem new_at (w : World) : Calls Tryz.prog 52 #[] w fun e w' => ∃ l F, LedAt w' l [] F ∧ e = .returned (.pointer (some ⟨l, 0, none⟩)) ∧ Fr noBlock w w' ∧ ∀ k, F k → w.heap.size ≤ k :=
  (new_any w).mono fun _ _ ⟨L, h1, h2, h3, h4, h5⟩ => ⟨L.l, L.foot, ⟨L, h1, rfl, h3, fun _ => Iff.rfl⟩, h2, h4, h5⟩
theorem approve_at (h : LedAt w l ps F) (key : ByteArray) (amount : Int) (answer : ByteArray) (hs : key.size ≤ maxLen) {n : Int} {qs : List Post} (hn : addE ps ⟨key, amount, 1, answer⟩ = n) (hq : addL ps ⟨key, amount, 1, answer⟩ = qs) :
    Calls Tryz.prog 112 #[.pointer (some ⟨l, 0, none⟩), .string key, .int .i64 amount, .string answer] w fun e w' => ∃ F', LedAt w' l qs F' ∧ e = .returned (.int .i64 n) ∧ Step F F' w w' := by
  obtain ⟨L, h1, rfl, rfl, h4⟩ := h
  subst hn hq
  exact (approve_any L w h1 key amount answer hs).mono fun e w' ⟨L', g1, g2, g3, g4, g5, g6⟩ => ⟨L'.foot, ⟨L', g1, g2, g3, fun _ => Iff.rfl⟩, g4, ⟨g5.mono (fun k hk => (h4 k).1 hk), fun k hk => (g6 k hk).imp (fun hk => (h4 k).1 hk) (fun h => h)⟩⟩
theorem reverse_at (h : LedAt w l ps F) (key : ByteArray) (hs : key.size ≤ maxLen) {a n : Int} {qs : List Post} (ha : revN ps key = a) (hn : revE ps key = n) (hq : revL ps key = qs) :
    Calls Tryz.prog 115 #[.pointer (some ⟨l, 0, none⟩), .string key] w fun e w' => ∃ F', LedAt w' l qs F' ∧ e = .returned (.tuple #[.int .i64 a, .int .i64 n]) ∧ Step F F' w w' := by
  obtain ⟨L, h1, rfl, rfl, h4⟩ := h
  subst ha hn hq
  exact (reverse_any L w h1 key hs).mono fun e w' ⟨L', g1, g2, g3, g4, g5, g6⟩ => ⟨L'.foot, ⟨L', g1, g2, g3, fun _ => Iff.rfl⟩, g4, ⟨g5.mono (fun k hk => (h4 k).1 hk), fun k hk => (g6 k hk).imp (fun hk => (h4 k).1 hk) (fun h => h)⟩⟩
theorem close_at (h : LedAt w l ps F) {n : Int} (hn : sumA ps = n) :
    Calls Tryz.prog 127 #[.pointer (some ⟨l, 0, none⟩)] w fun e w' => ∃ F', LedAt w' l [] F' ∧ e = .returned (.int .i64 n) ∧ Step F F' w w' := by
  obtain ⟨L, h1, rfl, rfl, h4⟩ := h
  subst hn
  exact (close_any L w h1).mono fun e w' ⟨L', g1, g2, g3, g4, g5, g6⟩ => ⟨L'.foot, ⟨L', g1, g2, g3, fun _ => Iff.rfl⟩, g4, ⟨g5.mono (fun k hk => (h4 k).1 hk), fun k hk => (g6 k hk).imp (fun hk => (h4 k).1 hk) (fun h => h)⟩⟩
theorem ask_at (h : LedAt w l ps F) (key : ByteArray) (hs : key.size ≤ maxLen) {p : Post} {b : Bool} (hp : (askP ps key).getD zeroPost = p) (hb : (askP ps key).isSome = b) :
    Calls Tryz.prog 106 #[.pointer (some ⟨l, 0, none⟩), .string key] w fun e w' => LedAt w' l ps F ∧ e = .returned (.tuple #[p.val, .bool b]) ∧ Fr noBlock w w' := by
  subst hp hb
  have h' := h
  obtain ⟨L, h1, rfl, rfl, h4⟩ := h
  exact (ask_any L w h1 key hs).mono fun e w' ⟨g1, g2⟩ => ⟨h'.fr g2 (fun _ _ x => x), g1, g2⟩
theorem total_at (h : LedAt w l ps F) {n : Int} (hn : sumA ps = n) :
    Calls Tryz.prog 53 #[.pointer (some ⟨l, 0, none⟩)] w fun e w' => e = .returned (.int .i64 n) ∧ w = w' := by
  subst hn
  obtain ⟨L, h1, rfl, rfl, h4⟩ := h
  exact (total_any L w h1).mono fun e w' ⟨g1, g2⟩ => ⟨g1, g2.symm⟩
theorem list_at (h : LedAt w l ps F) :
    Calls Tryz.prog 57 #[.pointer (some ⟨l, 0, none⟩)] w fun e w' => ∃ v, LedAt w' l ps F ∧ e = .returned v ∧ PostsAt w' v ps ∧ Fr noBlock w w' ∧ ∀ k, v.ownBlock = some k → w.heap.size ≤ k := by
  have h' := h
  obtain ⟨L, h1, rfl, rfl, h4⟩ := h
  exact (list_any L w h1).mono fun e w' ⟨v, g1, g2, g3, g4⟩ => ⟨v, h'.fr g3 (fun _ _ x => x), g1, g2, g3, g4⟩

/-- a block apart stays as it is -/
theorem Step.keep {F F' : Nat → Prop} {w w' : World} (h : Step F F' w w') {b : Nat} (hb : b < w.heap.size) (hn : ¬ F b) : (∀ o, w'.cell? ⟨b, o, none⟩ = w.cell? ⟨b, o, none⟩) ∧ b < w'.heap.size ∧ ¬ F' b :=
  ⟨fun _ => h.fr.cell hb hn, Nat.lt_of_lt_of_le hb h.fr.size, fun hk => (h.foot b hk).elim hn (fun hle => by omega)⟩

/-- one ledger of our own: it lies in blocks that were not there in w0, and nothing of w0 has turned -/
structure Mine (w0 : World) (w : World) (l : Nat) (ps : List Post) (F : Nat → Prop) : Prop where
  led : LedAt w l ps F
  base : ∀ k, F k → w0.heap.size ≤ k
  below : Below w0.heap.size w0 w

namespace Mine
variable {w0 : World}
theorem good (h : Mine w0 w l ps F) : Good ps := h.led.good
theorem fr {w' : World} (h : Mine w0 w l ps F) (hf : Fr noBlock w w') : Mine w0 w' l ps F :=
  ⟨h.led.fr hf (fun _ _ x => x), h.base, h.below.trans (hf.below h.below.size (fun _ hk => hk.elim))⟩
theorem step {F' : Nat → Prop} {w' : World} {qs : List Post} (h : Mine w0 w l ps F) (h' : LedAt w' l qs F') (hs : Step F F' w w') : Mine w0 w' l qs F' := by
  obtain ⟨h1, h2⟩ := hs.below h.base h.below.size
  exact ⟨h', h2, h.below.trans h1⟩
theorem alloc (h : Mine w0 w l ps F) (o : Obj) : Mine w0 (w.alloc o) l ps F := h.fr ((Fr.refl _ _).alloc _)
theorem drew (h : Mine w0 w l ps F) : Mine w0 w.drew l ps F := h.fr ((Fr.refl _ _).drew)
theorem drewN (h : Mine w0 w l ps F) (n : Nat) : Mine w0 (w.drewN n) l ps F := h.fr ((Fr.refl _ _).drewN n)

theorem new (hb : Below w0.heap.size w0 w) : Calls Tryz.prog 52 #[] w fun e w' => ∃ l F, e = .returned (.pointer (some ⟨l, 0, none⟩)) ∧ Mine w0 w' l [] F ∧ Fr noBlock w w' ∧ ∀ k, F k → w.heap.size ≤ k :=
  (new_at w).mono fun _ _ ⟨l, F, h1, h2, h3, h4⟩ => ⟨l, F, h2, ⟨h1, fun _ hk => Nat.le_trans hb.size (h4 _ hk), hb.trans (h3.below hb.size (fun _ hk => hk.elim))⟩, h3, h4⟩
theorem approve (h : Mine w0 w l ps F) (key : ByteArray) (amount : Int) (answer : ByteArray) (hs : key.size ≤ maxLen) {n : Int} {qs : List Post} (hn : addE ps ⟨key, amount, 1, answer⟩ = n) (hq : addL ps ⟨key, amount, 1, answer⟩ = qs) :
    Calls Tryz.prog 112 #[.pointer (some ⟨l, 0, none⟩), .string key, .int .i64 amount, .string answer] w fun e w' => ∃ F', e = .returned (.int .i64 n) ∧ Mine w0 w' l qs F' ∧ Step F F' w w' :=
  (approve_at h.led key amount answer hs hn hq).mono fun _ _ ⟨F', g1, g2, g3⟩ => ⟨F', g2, h.step g1 g3, g3⟩
theorem reverse (h : Mine w0 w l ps F) (key : ByteArray) (hs : key.size ≤ maxLen) {a n : Int} {qs : List Post} (ha : revN ps key = a) (hn : revE ps key = n) (hq : revL ps key = qs) :
    Calls Tryz.prog 115 #[.pointer (some ⟨l, 0, none⟩), .string key] w fun e w' => ∃ F', e = .returned (.tuple #[.int .i64 a, .int .i64 n]) ∧ Mine w0 w' l qs F' ∧ Step F F' w w' :=
  (reverse_at h.led key hs ha hn hq).mono fun _ _ ⟨F', g1, g2, g3⟩ => ⟨F', g2, h.step g1 g3, g3⟩
theorem close (h : Mine w0 w l ps F) {n : Int} (hn : sumA ps = n) :
    Calls Tryz.prog 127 #[.pointer (some ⟨l, 0, none⟩)] w fun e w' => ∃ F', e = .returned (.int .i64 n) ∧ Mine w0 w' l [] F' ∧ Step F F' w w' :=
  (close_at h.led hn).mono fun _ _ ⟨F', g1, g2, g3⟩ => ⟨F', g2, h.step g1 g3, g3⟩
theorem ask (h : Mine w0 w l ps F) (key : ByteArray) (hs : key.size ≤ maxLen) {p : Post} {b : Bool} (hp : (askP ps key).getD zeroPost = p) (hb : (askP ps key).isSome = b) :
    Calls Tryz.prog 106 #[.pointer (some ⟨l, 0, none⟩), .string key] w fun e w' => e = .returned (.tuple #[p.val, .bool b]) ∧ Mine w0 w' l ps F ∧ Fr noBlock w w' :=
  (ask_at h.led key hs hp hb).mono fun _ _ ⟨_, g2, g3⟩ => ⟨g2, h.fr g3, g3⟩
theorem total (h : Mine w0 w l ps F) {n : Int} (hn : sumA ps = n) :
    Calls Tryz.prog 53 #[.pointer (some ⟨l, 0, none⟩)] w fun e w' => e = .returned (.int .i64 n) ∧ w = w' :=
  total_at h.led hn
theorem list (h : Mine w0 w l ps F) :
    Calls Tryz.prog 57 #[.pointer (some ⟨l, 0, none⟩)] w fun e w' => ∃ v, e = .returned v ∧ Mine w0 w' l ps F ∧ PostsAt w' v ps ∧ (∀ k, v.ownBlock = some k → w.heap.size ≤ k) ∧ Fr noBlock w w' :=
  (list_at h.led).mono fun _ _ ⟨v, _, g2, g3, g4, g5⟩ => ⟨v, g2, h.fr g4, g3, g5, g4⟩
end Mine
end Go.Proofs.YtajhgejhdalobaaGreatDoor.Lg
namespace Go.Proofs.YtajhgejhdalobaaGreatDoor.Lg

/-- what the law's own variables say of the posts -/
structure SumsInv (key : ByteArray) (ps : List Post) (sum : Int) (app rev : Bool) (ans : ByteArray) : Prop where
  sum : sum = sumA ps
  app : app = (askP ps key).isSome
  rev : rev = ((askP ps key).map fun p => decide (p.state = 2)).getD false
  ans : ∀ p, askP ps key = some p → ans = p.answer

theorem addE_zero {ps : List Post} {p : Post} (h : addE ps p = 0) : p.may = true ∧ posOf ps p.key = none ∧ ps.length < 24 ∧ p.counts ≤ 5000000000000 - sumA ps := by
  unfold addE at h
  by_cases h1 : p.may = false
  · simp [h1] at h
  rw [if_neg h1] at h
  by_cases h2 : (posOf ps p.key).isSome
  · simp [h2] at h
  rw [if_neg h2] at h
  by_cases h3 : 24 ≤ ps.length
  · simp [h3] at h
  rw [if_neg h3] at h
  by_cases h4 : 5000000000000 - sumA ps < p.counts
  · simp [h4] at h
  exact ⟨by simpa using h1, by simpa using h2, by omega, by omega⟩
theorem addL_zero {ps : List Post} {p : Post} (h : addE ps p = 0) : addL ps p = ps ++ [p] := by rw [addL, if_pos h]
theorem addL_no {ps : List Post} {p : Post} (h : ¬ addE ps p = 0) : addL ps p = ps := by rw [addL, if_neg h]
theorem askP_append (ps qs : List Post) (s : ByteArray) : askP (ps ++ qs) s = (askP ps s).or (askP qs s) := by
  simp [askP, List.find?_append]
theorem askP_key {ps : List Post} {s : ByteArray} {p : Post} (h : askP ps s = some p) : p.key = s ∧ p ∈ ps := by
  have h1 := List.find?_some h
  exact ⟨by simpa using h1, List.mem_of_find?_eq_some h⟩
theorem askP_modify_ne {ps : List Post} {k : Nat} {s : ByteArray} (h : ∀ (hk : k < ps.length), ps[k].key ≠ s) : askP (ps.modify k revP) s = askP ps s := by
  induction ps generalizing k with
  | nil => simp
  | cons p ps ih =>
    cases k with
    | zero =>
      have := h (by simp)
      simp only [List.getElem_cons_zero] at this
      simp [askP, revP, this]
    | succ k =>
      have := ih (k := k) (fun hk => by have := h (by simpa using hk); simpa using this)
      unfold askP at this ⊢
      rw [List.modify_succ_cons, List.find?_cons, List.find?_cons, this]
theorem askP_modify_eq {ps : List Post} {k : Nat} {s : ByteArray} (hk : k < ps.length) (h : posOf ps s = some (k : Int)) : askP (ps.modify k revP) s = some (revP ps[k]) := by
  obtain ⟨k', hk', e, hkey, hask⟩ := askP_of h
  obtain rfl : k = k' := by omega
  have h1 : posOf (ps.modify k revP) s = some (k : Int) := by rw [posOf_keys (keys_modify ps k)]; exact h
  obtain ⟨k', hk'', e, _, hask'⟩ := askP_of h1
  obtain rfl : k = k' := by omega
  rw [hask', List.getElem_modify_eq]
theorem modify_same {ps : List Post} {k : Nat} (h : ∀ (hk : k < ps.length), ps[k].state = 2) : ps.modify k revP = ps := by
  apply List.ext_getElem
  · simp
  · intro i h1 h2
    rw [List.getElem_modify]
    split
    · rename_i e; subst e; simp [revP]; rw [← h h2]
    · rfl
theorem posOf_of_ask {ps : List Post} {s : ByteArray} {p : Post} (h : askP ps s = some p) : ∃ (k : Nat) (hk : k < ps.length), posOf ps s = some (k : Int) ∧ ps[k] = p := by
  cases hp : posOf ps s with
  | none => rw [askP_none hp] at h; cases h
  | some x =>
    obtain ⟨k, hk, rfl, _, hask⟩ := askP_of hp
    rw [hask] at h
    exact ⟨k, hk, rfl, Option.some.inj h⟩
/-- what is not reversed leaves the posts as they are -/
theorem revL_no {ps : List Post} {s : ByteArray} (h : revE ps s ≠ 0) : revL ps s = ps := by
  unfold revE at h
  unfold revL
  cases hp : posOf ps s with
  | none => rfl
  | some x =>
    obtain ⟨k, hk, rfl, _, hask⟩ := askP_of hp
    rw [hask] at h
    simp only at h
    refine modify_same fun hk' => ?_
    refine Decidable.byContradiction fun hn => ?_
    simp only [Int.toNat_natCast] at hn
    rw [if_neg hn] at h
    exact h rfl
theorem revE_zero {ps : List Post} {s : ByteArray} (h : revE ps s = 0) : ∃ (k : Nat) (hk : k < ps.length), posOf ps s = some (k : Int) ∧ askP ps s = some ps[k] ∧ ps[k].state ≠ 2 ∧ revN ps s = ps[k].amount ∧ revL ps s = ps.modify k revP := by
  unfold revE at h
  cases hask : askP ps s with
  | none => simp [hask] at h
  | some p =>
    obtain ⟨k, hk, hp, rfl⟩ := posOf_of_ask hask
    rw [hask] at h
    simp only at h
    have hs : ps[k].state ≠ 2 := fun e => by rw [if_pos e] at h; simp at h
    exact ⟨k, hk, hp, rfl, hs, by simp [revN, hask, hs], by simp [revL, hp]⟩

theorem sums_add_key {key : ByteArray} {ps : List Post} {sum : Int} {app rev : Bool} {ans : ByteArray} (hi : SumsInv key ps sum app rev ans) {amt : Int} {an : ByteArray} (h : addE ps ⟨key, amt, 1, an⟩ = 0) :
    app = false ∧ rev = false ∧ SumsInv key (ps ++ [⟨key, amt, 1, an⟩]) (sum + amt) true false an := by
  obtain ⟨hm, hp, hl, ht⟩ := addE_zero h
  have hn := askP_none hp
  obtain ⟨rfl, rfl, rfl, ha⟩ := hi
  refine ⟨by rw [hn]; rfl, by rw [hn]; rfl, ?_, ?_, ?_, ?_⟩
  · rw [sumA_append]; simp [sumA, Post.counts]
  · rw [askP_append, hn]; simp [askP]
  · rw [askP_append, hn]; simp [askP]
  · intro p hp; rw [askP_append, hn] at hp; simp [askP] at hp; rw [← hp]
theorem sums_add_other {key : ByteArray} {ps : List Post} {sum : Int} {app rev : Bool} {ans : ByteArray} (hi : SumsInv key ps sum app rev ans) {s : ByteArray} {amt : Int} {an : ByteArray} (hne : s ≠ key) :
    SumsInv key (ps ++ [⟨s, amt, 1, an⟩]) (sum + amt) app rev ans := by
  have e : askP (ps ++ [⟨s, amt, 1, an⟩]) key = askP ps key := by rw [askP_append]; simp [askP, hne]
  obtain ⟨rfl, rfl, rfl, ha⟩ := hi
  exact ⟨by rw [sumA_append]; simp [sumA, Post.counts], by rw [e], by rw [e], by rw [e]; exact ha⟩
theorem sums_rev_key {key : ByteArray} {ps : List Post} (hg : Good ps) {sum : Int} {app rev : Bool} {ans : ByteArray} (hi : SumsInv key ps sum app rev ans) (h : revE ps key = 0) :
    app = true ∧ rev = false ∧ SumsInv key (revL ps key) (sum - revN ps key) true true ans := by
  obtain ⟨k, hk, hp, hask, hs, hn, hl⟩ := revE_zero h
  have hm := hg.may _ (List.getElem_mem hk)
  obtain ⟨rfl, rfl, rfl, ha⟩ := hi
  have e := askP_modify_eq hk hp
  refine ⟨by rw [hask]; rfl, by rw [hask]; simp [hs], ?_, ?_, ?_, ?_⟩
  · rw [hl, hn, sum_modify hk hs hm]
  · rw [hl, e]; rfl
  · rw [hl, e]; simp [revP]
  · intro p hp'; rw [hl, e] at hp'; rw [ha _ hask]; obtain rfl := Option.some.inj hp'; rfl
theorem sums_rev_other {key : ByteArray} {ps : List Post} (hg : Good ps) {sum : Int} {app rev : Bool} {ans : ByteArray} (hi : SumsInv key ps sum app rev ans) {s : ByteArray} (hne : s ≠ key) (h : revE ps s = 0) :
    SumsInv key (revL ps s) (sum - revN ps s) app rev ans := by
  obtain ⟨k, hk, hp, hask, hs, hn, hl⟩ := revE_zero h
  have hm := hg.may _ (List.getElem_mem hk)
  have e : askP (ps.modify k revP) key = askP ps key := askP_modify_ne (fun _ => by rw [(askP_key hask).1]; exact hne)
  obtain ⟨rfl, rfl, rfl, ha⟩ := hi
  exact ⟨by rw [hl, hn, sum_modify hk hs hm], by rw [hl, e], by rw [hl, e], by rw [hl, e]; exact ha⟩
theorem sums_close (key : ByteArray) (ans : ByteArray) : SumsInv key [] 0 false false ans := ⟨rfl, rfl, rfl, fun p hp => by cases hp⟩
/-- what is reversed lies between 0 and the total -/
theorem revN_bounds {ps : List Post} (hg : Good ps) {s : ByteArray} (h : revE ps s = 0) : 0 ≤ revN ps s ∧ revN ps s ≤ sumA ps := by
  obtain ⟨k, hk, hp, hask, hs, hn, hl⟩ := revE_zero h
  have hm := hg.may _ (List.getElem_mem hk)
  have h2 := sumA_nonneg (good_rev hg hk hs).may
  rw [sum_modify hk hs hm] at h2
  rw [hn]
  simp only [Post.may, Bool.and_eq_true, decide_eq_true_eq] at hm
  omega
end Go.Proofs.YtajhgejhdalobaaGreatDoor.Lg
namespace Go.Proofs.YtajhgejhdalobaaGreatDoor

/-! fields -/
theorem fold_stays {k : Int} : ∀ (fs l : List Fld), (∀ f ∈ fs, f.n ≠ k) → valF k (fs.foldl (fun m f => putL m f.n f.v) l) = valF k l
  | [], _, _ => rfl
  | f :: fs, l, h => by
    rw [List.foldl_cons, fold_stays fs _ (fun g hg => h g (List.mem_cons_of_mem _ hg)), put_stays (Ne.symm (h f List.mem_cons_self))]
theorem valS_some {n : Int} {q : List Fld} (h : valB n q = true) : valF n q = some (valS n q) := by
  unfold valB at h
  unfold valS
  cases hv : valF n q with
  | none => rw [hv] at h; cases h
  | some v => rfl
theorem valF_mem : ∀ {l : List Fld} {n : Int} {v : ByteArray}, valF n l = some v → ⟨n, v⟩ ∈ l
  | [], _, _, h => by cases h
  | f :: l, n, v, h => by
    unfold valF at h
    split at h
    · rename_i e
      cases h
      subst e
      exact List.mem_cons_self
    · exact List.mem_cons_of_mem _ (valF_mem h)
theorem putIf_val {k n : Int} (q m : List Fld) : valF k (putIf q m n) = if k = n ∧ valB n q = true then valF n q else valF k m := by
  unfold putIf
  by_cases hb : valB n q = true
  · rw [if_pos hb]
    by_cases hk : k = n
    · subst hk
      rw [put_found, if_pos ⟨rfl, hb⟩, valS_some hb]
    · rw [put_stays hk, if_neg (fun h => hk h.1)]
  · rw [if_neg hb, if_neg (fun h => hb h.2)]
theorem fold_putIf {k : Int} (q : List Fld) : ∀ (ns : List Int) (m : List Fld), k ∉ ns → valF k (ns.foldl (putIf q) m) = valF k m
  | [], _, _ => rfl
  | n :: ns, m, h => by
    rw [List.foldl_cons, fold_putIf q ns _ (fun x => h (List.mem_cons_of_mem _ x)), putIf_val, if_neg (fun x : k = n ∧ valB n q = true => h (by rw [x.1]; exact List.mem_cons_self))]
/-- an answer's code -/
theorem ans_code (q : List Fld) (code : ByteArray) (more : List Fld) (hm : ∀ f ∈ more, f.n ≠ 39) : valF 39 (ansL q code more) = some code := by
  unfold ansL
  rw [fold_putIf q _ _ (by decide), List.foldl_cons, fold_stays _ _ hm, put_found]
theorem put_mem {l : List Fld} {n : Int} {s : ByteArray} {f : Fld} (h : f ∈ putL l n s) : f = ⟨n, s⟩ ∨ f ∈ l := by
  unfold putL at h
  simp only [List.mem_append, List.mem_filter, List.mem_singleton] at h
  rcases h with (⟨h, _⟩ | h) | ⟨h, _⟩
  · exact .inr (List.mem_of_mem_take h)
  · exact .inl h
  · exact .inr (List.mem_of_mem_drop h)
theorem fold_mem : ∀ (fs l : List Fld) {f : Fld}, f ∈ fs.foldl (fun m f => putL m f.n f.v) l → f ∈ fs ∨ f ∈ l
  | [], _, _, h => .inr h
  | g :: fs, l, f, h => by
    rw [List.foldl_cons] at h
    rcases fold_mem fs _ h with h | h
    · exact .inl (List.mem_cons_of_mem _ h)
    · rcases put_mem h with rfl | h
      · exact .inl List.mem_cons_self
      · exact .inr h
theorem foldIf_mem (q : List Fld) : ∀ (ns : List Int) (m : List Fld) {f : Fld}, f ∈ ns.foldl (putIf q) m → (f.n ∈ ns ∧ f ∈ q) ∨ f ∈ m
  | [], _, _, h => .inr h
  | n :: ns, m, f, h => by
    rw [List.foldl_cons] at h
    rcases foldIf_mem q ns _ h with ⟨h1, h2⟩ | h
    · exact .inl ⟨List.mem_cons_of_mem _ h1, h2⟩
    · unfold putIf at h
      split at h
      · rename_i hb
        rcases put_mem h with rfl | h
        · exact .inl ⟨List.mem_cons_self, valF_mem (valS_some hb)⟩
        · exact .inr h
      · exact .inr h
theorem ans_mem {q : List Fld} {code : ByteArray} {more : List Fld} {f : Fld} (h : f ∈ ansL q code more) : f = ⟨39, code⟩ ∨ f ∈ more ∨ (f.n ∈ [3, 4, 11, 41, 70] ∧ f ∈ q) := by
  unfold ansL at h
  rcases foldIf_mem q _ _ h with h | h
  · exact .inr (.inr h)
  · rcases fold_mem _ _ h with h | h
    · rcases List.mem_cons.1 h with h | h
      · exact .inl h
      · exact .inr (.inl h)
    · cases h
def FldOk (f : Fld) : Prop := fmtOk f.n = true ∧ valueE (bl f.v) (kindOf f.n) (longOf f.n) = 0
structure RightL (l : List Fld) : Prop where
  each : ∀ f ∈ l, FldOk f
  asc : l.Pairwise (fun f g => f.n < g.n)
theorem rightM_iff {t : ByteArray} {l : List Fld} : rightM t l = 0 ↔ valueE (bl t) 1 4 = 0 ∧ RightL l := by
  unfold rightM
  constructor
  · intro h
    split at h
    · rename_i h1; exact absurd h h1
    · rename_i h1
      obtain ⟨h2, h3⟩ := right_fields l 0 h
      exact ⟨by simpa using h1, fun f hf => (h2 f hf).2, h3⟩
  · rintro ⟨h1, h2⟩
    rw [if_neg (by simp [h1])]
    exact fields_right l 0 (fun f hf => ⟨by have := fmt_range (h2.each f hf).1; omega, h2.each f hf⟩) h2.asc
theorem putK_lo {l : List Fld} {n : Int} {a : Fld} (h : a ∈ l.take (putK l n)) : ¬ n < a.n := by
  obtain ⟨i, hi, rfl⟩ := List.mem_iff_getElem.1 h
  rw [List.length_take] at hi
  rw [List.getElem_take]
  have := List.not_of_lt_findIdx (p := fun f : Fld => decide (n < f.n)) (xs := l) (i := i) (by unfold putK at hi; omega)
  simpa using this
theorem putK_hi {l : List Fld} {n : Int} {b : Fld} (hs : l.Pairwise (fun f g => f.n < g.n)) (h : b ∈ l.drop (putK l n)) : n < b.n := by
  obtain ⟨i, hi, rfl⟩ := List.mem_iff_getElem.1 h
  rw [List.length_drop] at hi
  rw [List.getElem_drop]
  have hk : putK l n < l.length := by omega
  have h1 : n < l[putK l n].n := by
    have := List.findIdx_getElem (p := fun f : Fld => decide (n < f.n)) (xs := l) (w := hk)
    exact of_decide_eq_true this
  by_cases hz : i = 0
  · subst hz; exact h1
  · have := (List.pairwise_iff_getElem.1 hs) (putK l n) (putK l n + i) hk (by omega) (by omega)
    omega
theorem right_put {l : List Fld} {n : Int} {s : ByteArray} (h : RightL l) (hf : FldOk ⟨n, s⟩) : RightL (putL l n s) := by
  refine ⟨fun f hm => ?_, ?_⟩
  · rcases put_mem hm with rfl | hm
    · exact hf
    · exact h.each f hm
  · unfold putL
    have hlo : ∀ a ∈ (l.take (putK l n)).filter (notN n), a.n < n := by
      intro a ha
      rw [List.mem_filter] at ha
      have h1 := putK_lo ha.1
      have h2 : ¬ a.n = n := by simpa [notN] using ha.2
      omega
    have hhi : ∀ b ∈ (l.drop (putK l n)).filter (notN n), n < b.n := fun b hb => putK_hi h.asc (List.mem_filter.1 hb).1
    rw [List.pairwise_append, List.pairwise_append]
    refine ⟨⟨(h.asc.sublist (List.take_sublist _ _)).filter _, List.pairwise_singleton _ _, fun a ha b hb => ?_⟩, (h.asc.sublist (List.drop_sublist _ _)).filter _, fun a ha b hb => ?_⟩
    · rw [List.mem_singleton.1 hb]; exact hlo a ha
    · have h2 := hhi b hb
      rcases List.mem_append.1 ha with ha | ha
      · have := hlo a ha; omega
      · rw [List.mem_singleton.1 ha]; exact h2
theorem right_fold : ∀ (fs : List Fld) {l : List Fld}, RightL l → (∀ f ∈ fs, FldOk f) → RightL (fs.foldl (fun m f => putL m f.n f.v) l)
  | [], _, h, _ => h
  | f :: fs, _, h, hf => right_fold fs (right_put h (hf f List.mem_cons_self)) (fun g hg => hf g (List.mem_cons_of_mem _ hg))
theorem right_foldIf {q : List Fld} (hq : RightL q) : ∀ (ns : List Int) {l : List Fld}, RightL l → RightL (ns.foldl (putIf q) l)
  | [], _, h => h
  | n :: ns, l, h => by
    refine right_foldIf hq ns ?_
    unfold putIf
    split
    · rename_i hb
      exact right_put h (hq.each _ (valF_mem (valS_some hb)))
    · exact h
theorem right_ans {q : List Fld} {code : ByteArray} {more : List Fld} (hq : RightL q) (hc : FldOk ⟨39, code⟩) (hm : ∀ f ∈ more, FldOk f) : RightL (ansL q code more) := by
  unfold ansL
  refine right_foldIf hq _ (right_fold _ ⟨fun f hf => (by cases hf), List.Pairwise.nil⟩ (fun f hf => ?_))
  rcases List.mem_cons.1 hf with rfl | hf
  · exact hc
  · exact hm f hf
def codesL : List ByteArray := [cOk, cType, cPan, cRoute, cMissing, cForm, cOver, cOften, cOther, cRoom]
theorem code_ok : ∀ c ∈ codesL, FldOk ⟨39, c⟩ := by
  intro c hc
  have : ∀ c ∈ codesL, fmtOk 39 = true ∧ valueE (bl c) (kindOf 39) (longOf 39) = 0 := by decide +kernel
  exact this c hc

/-! numbers in texts -/
theorem ito_dig (n : Nat) : (itoB n).all isDig = true := by
  induction n using Nat.strongRecOn with
  | ind n ih =>
    unfold itoB
    have g : ∀ x < 10, isDig (UInt8.ofNat (48 + x)) = true := by decide
    split
    · rename_i h
      rw [List.all_cons, g n h]
      rfl
    · rename_i h
      rw [List.all_append, ih (n / 10) (by omega), List.all_cons, g (n % 10) (by omega)]
      rfl
theorem ito_num (n : Nat) : numB (itoB n) = n := by
  induction n using Nat.strongRecOn with
  | ind n ih =>
    unfold itoB
    split
    · rename_i h
      have g : ∀ x < 10, numB [UInt8.ofNat (48 + x)] = x := by decide
      exact g n h
    · rename_i h
      have e : ∀ (a : Bs) (x : Nat), x < 10 → numB (a ++ [UInt8.ofNat (48 + x)]) = 10 * numB a + x := by
        intro a x hx
        unfold numB
        rw [List.foldl_append]
        show 10 * _ + ((UInt8.ofNat (48 + x)).toNat - 48) = _
        rw [UInt8.toNat_ofNat', Nat.mod_eq_of_lt (by omega)]
        omega
      rw [e _ _ (Nat.mod_lt _ (by decide)), ih (n / 10) (by omega)]
      omega
theorem ito_len {n : Nat} : ∀ {k : Nat}, 1 ≤ k → n < 10 ^ k → 1 ≤ (itoB n).length ∧ (itoB n).length ≤ k := by
  induction n using Nat.strongRecOn with
  | ind n ih =>
    intro k hk hn
    unfold itoB
    split
    · exact ⟨by simp, by simpa using hk⟩
    · rename_i h
      obtain ⟨j, rfl⟩ : ∃ j, k = j + 1 := ⟨k - 1, by omega⟩
      rw [Nat.pow_succ] at hn
      have hj : 1 ≤ j := by
        rcases j with _ | j
        · omega
        · omega
      obtain ⟨a, b⟩ := ih (n / 10) (by omega) hj (by omega)
      rw [List.length_append]
      simp
      omega
theorem ito_numR {n : Nat} (h : n ≤ 9223372036854775807) : numR (itoB n) = (n, 0) := by
  obtain ⟨h1, h2⟩ := ito_len (n := n) (k := 19) (by decide) (by omega)
  unfold numR
  rw [if_neg (by rw [ito_dig]; simp), if_neg (by omega), if_neg (by intro e; rw [e] at h1; simp at h1), ito_num, if_neg (by omega)]
theorem digs_no {l : Bs} (h : l.all isDig = true) {x : UInt8} (hx : isDig x = false) : x ∉ l := by
  intro hm
  rw [List.all_eq_true] at h
  rw [h x hm] at hx
  cases hx
theorem fld_target {n : Nat} (h : n < 256) : FldOk ⟨32, strB (itoB n)⟩ := by
  obtain ⟨_, h1, h2, h3⟩ := ito_small n h
  exact ⟨rfl, ok_value (l := itoB n) (dig_other (.inr rfl) h1) (fun _ => ⟨h2, by show ((itoB n).length : Int) ≤ 11; omega⟩) (fun h => absurd (Or.inl rfl) h)⟩

/-! tokens -/
theorem tok_all {s : Bs} {v : Nat} (hs : shapeB s = true) (x : UInt8) (hx : x ∈ tokB s v) : isDig x = true ∨ x = 46 := by
  unfold tokB at hx
  rcases List.mem_append.1 hx with hx | hx
  · exact .inl (List.all_eq_true.1 (shape_iff.1 hs).1 x hx)
  · rcases List.mem_cons.1 hx with hx | hx
    · exact .inr hx
    · exact .inl (List.all_eq_true.1 (ito_dig v) x hx)
theorem tok_len {s : Bs} {v : Nat} (hs : shapeB s = true) (hv : v ≤ 255) : 18 ≤ (tokB s v).length ∧ (tokB s v).length ≤ 23 := by
  obtain ⟨_, h1, h2⟩ := shape_iff.1 hs
  obtain ⟨_, _, h3, h4⟩ := ito_small v (by omega)
  unfold tokB
  rw [List.length_append, List.length_cons]
  omega
theorem back_tok {M : MaskF} {now : Nat} {t l : Bs} (h : backB M now t = (l, 0)) : ∃ s v, t = tokB s v ∧ shapeB s = true ∧ 1 ≤ v ∧ v ≤ 255 ∧ v ≤ now ∧ maskB s = maskB l ∧ splitB t = some (s, v) ∧ panB l = true := by
  obtain ⟨s, v, h1, h2, h3, h4, _, h6⟩ := back_some M h
  obtain ⟨_, k1, k2, k3⟩ := split_some h1
  exact ⟨s, v, k3, h3, k1, k2, h2, h4, h1, h6⟩
theorem fld_tok {M : MaskF} {now : Nat} {t l : Bs} (h : backB M now t = (l, 0)) : FldOk ⟨48, strB t⟩ := by
  obtain ⟨s, v, rfl, hs, _, hv, _, _, _, _⟩ := back_tok h
  obtain ⟨h1, h2⟩ := tok_len hs hv
  refine ⟨rfl, ok_value (l := tokB s v) ?_ (fun _ => ⟨by omega, by show ((tokB s v).length : Int) ≤ 999; omega⟩) (fun h => absurd (Or.inr rfl) h)⟩
  unfold otherB
  rw [List.any_eq_false]
  intro x hx
  show ¬ badC 4 x = true
  have e : badC 4 x = !isSign x := rfl
  rw [e]
  have g : isSign x = true := by
    rcases tok_all hs x hx with h | rfl
    · unfold isDig at h
      unfold isSign
      simp at h ⊢
      omega
    · rfl
  rw [g]
  simp
theorem said_split {tok : Bs} {a b : Nat} (ht : (32 : UInt8) ∉ tok) : splitS (saidB tok a b) = [[48, 48], tok, itoB a, itoB b] := by
  have e : saidB tok a b = [48, 48] ++ 32 :: (tok ++ 32 :: (itoB a ++ 32 :: itoB b)) := by simp [saidB]
  rw [e, split_cons (by decide), split_cons ht, split_cons (digs_no (ito_dig a) rfl), split_none (digs_no (ito_dig b) rfl)]
theorem tok_space {M : MaskF} {now : Nat} {t l : Bs} (h : backB M now t = (l, 0)) : (32 : UInt8) ∉ t := by
  obtain ⟨s, v, rfl, hs, _⟩ := back_tok h
  intro hm
  rcases tok_all hs _ hm with h | h
  · revert h; decide
  · revert h; decide
theorem read_said {M : MaskF} {now : Nat} {tok l : Bs} (h : backB M now tok = (l, 0)) {a b : Nat} (h1 : 1 ≤ a) (h2 : a ≤ 99) (h3 : b ≤ 1099511627776) : readS M now (saidB tok a b) = some (tok, a, b) := by
  unfold readS
  rw [said_split (tok_space h)]
  dsimp only
  rw [ito_numR (by omega), ito_numR (by omega), h, if_pos ⟨rfl, rfl, rfl, h1, h2, h3, rfl⟩]
theorem read_some {M : MaskF} {now : Nat} {s tok : Bs} {a b : Nat} (h : readS M now s = some (tok, a, b)) : s = saidB tok a b ∧ (∃ l, backB M now tok = (l, 0)) ∧ 1 ≤ a ∧ a ≤ 99 ∧ b ≤ 1099511627776 := by
  unfold readS at h
  split at h
  · split at h
    · rename_i hc
      cases h
      obtain ⟨_, _, h3, h4, h5, h6, h7⟩ := hc
      exact ⟨h7.symm, ⟨_, Prod.ext rfl h3⟩, h4, h5, h6⟩
    · cases h
  · cases h
theorem said_len {M : MaskF} {now : Nat} {tok l : Bs} (h : backB M now tok = (l, 0)) {a b : Nat} (h2 : a ≤ 99) (h3 : b ≤ 1099511627776) : (saidB tok a b).length ≤ 60 := by
  obtain ⟨s, v, rfl, hs, _, hv, _⟩ := back_tok h
  have := (tok_len hs hv).2
  have := (ito_len (n := a) (k := 3) (by decide) (by omega)).2
  have := (ito_len (n := b) (k := 14) (by decide) (by omega)).2
  simp [saidB]
  omega
end Go.Proofs.YtajhgejhdalobaaGreatDoor
