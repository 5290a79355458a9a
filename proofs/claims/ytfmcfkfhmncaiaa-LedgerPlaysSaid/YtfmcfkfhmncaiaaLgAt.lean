/-
  LEDGER's contracts in the form for callers: 'LedAt w l ps F': at l lies a ledger of the posts ps, in the blocks F.
-/
import Derived.Test.YtfmcfkfhmncaiaaLgList
namespace Go.Proofs.Ytfmcfkfhmncaiaa
open Go.RowKit

/-- one step of a thing that lies in the blocks F, then in F' -/
structure Step (F F' : Nat → Prop) (w w' : World) : Prop where
  fr : Fr F w w'
  foot : ∀ k, F' k → F k ∨ w.heap.size ≤ k

theorem Step.below {F F' : Nat → Prop} {w w' : World} (h : Step F F' w w') {B : Nat} (hF : ∀ k, F k → B ≤ k) (hB : B ≤ w.heap.size) : Below B w w' ∧ ∀ k, F' k → B ≤ k :=
  ⟨h.fr.below hB hF, fun k hk => (h.foot k hk).elim (hF k) (fun h => by omega)⟩
/-- what lies apart stays apart -/
theorem Step.apart {F F' G : Nat → Prop} {w w' : World} (h : Step F F' w w') (hd : ∀ k, F k → ¬ G k) (hG : ∀ k, G k → k < w.heap.size) : ∀ k, F' k → ¬ G k :=
  fun k hk hg => (h.foot k hk).elim (fun hf => hd k hf hg) (fun hle => by have := hG k hg; omega)
theorem Step.refl (F : Nat → Prop) (w : World) : Step F F w w := ⟨Fr.refl _ _, fun _ h => .inl h⟩

def LedAt (w : World) (l : Nat) (ps : List Post) (F : Nat → Prop) : Prop := ∃ L : Led, L.At w ∧ L.l = l ∧ L.ps = ps ∧ ∀ k, L.foot k ↔ F k

variable {w : World} {l : Nat} {ps : List Post} {F : Nat → Prop}

theorem LedAt.lt (h : LedAt w l ps F) : ∀ k, F k → k < w.heap.size := by
  obtain ⟨L, h1, rfl, rfl, h4⟩ := h
  exact fun k hk => h1.foot_lt ((h4 k).2 hk)
theorem LedAt.good (h : LedAt w l ps F) : Good ps := by
  obtain ⟨L, h1, rfl, rfl, h4⟩ := h
  exact h1.good
theorem LedAt.fr {S : Nat → Prop} {w' : World} (h : LedAt w l ps F) (hf : Fr S w w') (hs : ∀ k, F k → ¬ S k) : LedAt w' l ps F := by
  obtain ⟨L, h1, h2, h3, h4⟩ := h
  exact ⟨L, h1.fr hf (fun k hk => hs k ((h4 k).1 hk)), h2, h3, h4⟩

theorem new_at (w : World) : Calls Try.prog 9 #[] w fun e w' => ∃ l F, LedAt w' l [] F ∧ e = .returned (.pointer (some ⟨l, 0, none⟩)) ∧ Fr noBlock w w' ∧ ∀ k, F k → w.heap.size ≤ k :=
  (new_any w).mono fun _ _ ⟨L, h1, h2, h3, h4, h5⟩ => ⟨L.l, L.foot, ⟨L, h1, rfl, h3, fun _ => Iff.rfl⟩, h2, h4, h5⟩
theorem approve_at (h : LedAt w l ps F) (key : ByteArray) (amount : Int) (answer : ByteArray) (hs : key.size ≤ maxLen) {n : Int} {qs : List Post} (hn : addE ps ⟨key, amount, 1, answer⟩ = n) (hq : addL ps ⟨key, amount, 1, answer⟩ = qs) :
    Calls Try.prog 10 #[.pointer (some ⟨l, 0, none⟩), .string key, .int .i64 amount, .string answer] w fun e w' => ∃ F', LedAt w' l qs F' ∧ e = .returned (.int .i64 n) ∧ Step F F' w w' := by
  obtain ⟨L, h1, rfl, rfl, h4⟩ := h
  subst hn hq
  exact (approve_any L w h1 key amount answer hs).mono fun e w' ⟨L', g1, g2, g3, g4, g5, g6⟩ => ⟨L'.foot, ⟨L', g1, g2, g3, fun _ => Iff.rfl⟩, g4, ⟨g5.mono (fun k hk => (h4 k).1 hk), fun k hk => (g6 k hk).imp (fun hk => (h4 k).1 hk) (fun h => h)⟩⟩
theorem reverse_at (h : LedAt w l ps F) (key : ByteArray) (hs : key.size ≤ maxLen) {a n : Int} {qs : List Post} (ha : revN ps key = a) (hn : revE ps key = n) (hq : revL ps key = qs) :
    Calls Try.prog 11 #[.pointer (some ⟨l, 0, none⟩), .string key] w fun e w' => ∃ F', LedAt w' l qs F' ∧ e = .returned (.tuple #[.int .i64 a, .int .i64 n]) ∧ Step F F' w w' := by
  obtain ⟨L, h1, rfl, rfl, h4⟩ := h
  subst ha hn hq
  exact (reverse_any L w h1 key hs).mono fun e w' ⟨L', g1, g2, g3, g4, g5, g6⟩ => ⟨L'.foot, ⟨L', g1, g2, g3, fun _ => Iff.rfl⟩, g4, ⟨g5.mono (fun k hk => (h4 k).1 hk), fun k hk => (g6 k hk).imp (fun hk => (h4 k).1 hk) (fun h => h)⟩⟩
theorem close_at (h : LedAt w l ps F) {n : Int} (hn : sumA ps = n) :
    Calls Try.prog 12 #[.pointer (some ⟨l, 0, none⟩)] w fun e w' => ∃ F', LedAt w' l [] F' ∧ e = .returned (.int .i64 n) ∧ Step F F' w w' := by
  obtain ⟨L, h1, rfl, rfl, h4⟩ := h
  subst hn
  exact (close_any L w h1).mono fun e w' ⟨L', g1, g2, g3, g4, g5, g6⟩ => ⟨L'.foot, ⟨L', g1, g2, g3, fun _ => Iff.rfl⟩, g4, ⟨g5.mono (fun k hk => (h4 k).1 hk), fun k hk => (g6 k hk).imp (fun hk => (h4 k).1 hk) (fun h => h)⟩⟩
theorem ask_at (h : LedAt w l ps F) (key : ByteArray) (hs : key.size ≤ maxLen) {p : Post} {b : Bool} (hp : (askP ps key).getD zeroPost = p) (hb : (askP ps key).isSome = b) :
    Calls Try.prog 13 #[.pointer (some ⟨l, 0, none⟩), .string key] w fun e w' => LedAt w' l ps F ∧ e = .returned (.tuple #[p.val, .bool b]) ∧ Fr noBlock w w' := by
  subst hp hb
  have h' := h
  obtain ⟨L, h1, rfl, rfl, h4⟩ := h
  exact (ask_any L w h1 key hs).mono fun e w' ⟨g1, g2⟩ => ⟨h'.fr g2 (fun _ _ x => x), g1, g2⟩
theorem total_at (h : LedAt w l ps F) {n : Int} (hn : sumA ps = n) :
    Calls Try.prog 14 #[.pointer (some ⟨l, 0, none⟩)] w fun e w' => e = .returned (.int .i64 n) ∧ w = w' := by
  subst hn
  obtain ⟨L, h1, rfl, rfl, h4⟩ := h
  exact (total_any L w h1).mono fun e w' ⟨g1, g2⟩ => ⟨g1, g2.symm⟩
theorem list_at (h : LedAt w l ps F) :
    Calls Try.prog 16 #[.pointer (some ⟨l, 0, none⟩)] w fun e w' => ∃ v, LedAt w' l ps F ∧ e = .returned v ∧ PostsAt w' v ps ∧ Fr noBlock w w' ∧ ∀ k, v.ownBlock = some k → w.heap.size ≤ k := by
  have h' := h
  obtain ⟨L, h1, rfl, rfl, h4⟩ := h
  exact (list_any L w h1).mono fun e w' ⟨v, g1, g2, g3, g4⟩ => ⟨v, h'.fr g3 (fun _ _ x => x), g1, g2, g3, g4⟩

/-- a block apart stays as it is -/
theorem Step.keep {F F' : Nat → Prop} {w w' : World} (h : Step F F' w w') {b : Nat} (hb : b < w.heap.size) (hn : ¬ F b) : (∀ o, w'.cell? ⟨b, o, none⟩ = w.cell? ⟨b, o, none⟩) ∧ b < w'.heap.size ∧ ¬ F' b :=
  ⟨fun _ => h.fr.cell hb hn, Nat.lt_of_lt_of_le hb h.fr.size, fun hk => (h.foot b hk).elim hn (fun hle => by omega)⟩

/-- one ledger of our own: it lies in blocks that were not there in w0, and nothing of w0 has turned -/
structure Mine (w0 : World) (w : World) (l : Nat) (ps : List Post) (F : Nat → Prop) : Prop where
  led : LedAt w l ps F
  base : ∀ k, F k → w0.heap.size ≤ k
  below : Below w0.heap.size w0 w

namespace Mine
variable {w0 : World}
theorem good (h : Mine w0 w l ps F) : Good ps := h.led.good
theorem fr {w' : World} (h : Mine w0 w l ps F) (hf : Fr noBlock w w') : Mine w0 w' l ps F :=
  ⟨h.led.fr hf (fun _ _ x => x), h.base, h.below.trans (hf.below h.below.size (fun _ hk => hk.elim))⟩
theorem step {F' : Nat → Prop} {w' : World} {qs : List Post} (h : Mine w0 w l ps F) (h' : LedAt w' l qs F') (hs : Step F F' w w') : Mine w0 w' l qs F' := by
  obtain ⟨h1, h2⟩ := hs.below h.base h.below.size
  exact ⟨h', h2, h.below.trans h1⟩
theorem alloc (h : Mine w0 w l ps F) (o : Obj) : Mine w0 (w.alloc o) l ps F := h.fr ((Fr.refl _ _).alloc _)
theorem drew (h : Mine w0 w l ps F) : Mine w0 w.drew l ps F := h.fr ((Fr.refl _ _).drew)
theorem drewN (h : Mine w0 w l ps F) (n : Nat) : Mine w0 (w.drewN n) l ps F := h.fr ((Fr.refl _ _).drewN n)

theorem new (hb : Below w0.heap.size w0 w) : Calls Try.prog 9 #[] w fun e w' => ∃ l F, e = .returned (.pointer (some ⟨l, 0, none⟩)) ∧ Mine w0 w' l [] F ∧ Fr noBlock w w' ∧ ∀ k, F k → w.heap.size ≤ k :=
  (new_at w).mono fun _ _ ⟨l, F, h1, h2, h3, h4⟩ => ⟨l, F, h2, ⟨h1, fun _ hk => Nat.le_trans hb.size (h4 _ hk), hb.trans (h3.below hb.size (fun _ hk => hk.elim))⟩, h3, h4⟩
theorem approve (h : Mine w0 w l ps F) (key : ByteArray) (amount : Int) (answer : ByteArray) (hs : key.size ≤ maxLen) {n : Int} {qs : List Post} (hn : addE ps ⟨key, amount, 1, answer⟩ = n) (hq : addL ps ⟨key, amount, 1, answer⟩ = qs) :
    Calls Try.prog 10 #[.pointer (some ⟨l, 0, none⟩), .string key, .int .i64 amount, .string answer] w fun e w' => ∃ F', e = .returned (.int .i64 n) ∧ Mine w0 w' l qs F' ∧ Step F F' w w' :=
  (approve_at h.led key amount answer hs hn hq).mono fun _ _ ⟨F', g1, g2, g3⟩ => ⟨F', g2, h.step g1 g3, g3⟩
theorem reverse (h : Mine w0 w l ps F) (key : ByteArray) (hs : key.size ≤ maxLen) {a n : Int} {qs : List Post} (ha : revN ps key = a) (hn : revE ps key = n) (hq : revL ps key = qs) :
    Calls Try.prog 11 #[.pointer (some ⟨l, 0, none⟩), .string key] w fun e w' => ∃ F', e = .returned (.tuple #[.int .i64 a, .int .i64 n]) ∧ Mine w0 w' l qs F' ∧ Step F F' w w' :=
  (reverse_at h.led key hs ha hn hq).mono fun _ _ ⟨F', g1, g2, g3⟩ => ⟨F', g2, h.step g1 g3, g3⟩
theorem close (h : Mine w0 w l ps F) {n : Int} (hn : sumA ps = n) :
    Calls Try.prog 12 #[.pointer (some ⟨l, 0, none⟩)] w fun e w' => ∃ F', e = .returned (.int .i64 n) ∧ Mine w0 w' l [] F' ∧ Step F F' w w' :=
  (close_at h.led hn).mono fun _ _ ⟨F', g1, g2, g3⟩ => ⟨F', g2, h.step g1 g3, g3⟩
theorem ask (h : Mine w0 w l ps F) (key : ByteArray) (hs : key.size ≤ maxLen) {p : Post} {b : Bool} (hp : (askP ps key).getD zeroPost = p) (hb : (askP ps key).isSome = b) :
    Calls Try.prog 13 #[.pointer (some ⟨l, 0, none⟩), .string key] w fun e w' => e = .returned (.tuple #[p.val, .bool b]) ∧ Mine w0 w' l ps F ∧ Fr noBlock w w' :=
  (ask_at h.led key hs hp hb).mono fun _ _ ⟨_, g2, g3⟩ => ⟨g2, h.fr g3, g3⟩
theorem total (h : Mine w0 w l ps F) {n : Int} (hn : sumA ps = n) :
    Calls Try.prog 14 #[.pointer (some ⟨l, 0, none⟩)] w fun e w' => e = .returned (.int .i64 n) ∧ w = w' :=
  total_at h.led hn
theorem list (h : Mine w0 w l ps F) :
    Calls Try.prog 16 #[.pointer (some ⟨l, 0, none⟩)] w fun e w' => ∃ v, e = .returned v ∧ Mine w0 w' l ps F ∧ PostsAt w' v ps ∧ (∀ k, v.ownBlock = some k → w.heap.size ≤ k) ∧ Fr noBlock w w' :=
  (list_at h.led).mono fun _ _ ⟨v, _, g2, g3, g4, g5⟩ => ⟨v, g2, h.fr g4, g3, g5, g4⟩
end Mine
end Go.Proofs.Ytfmcfkfhmncaiaa
