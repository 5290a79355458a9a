/-
  TWO LEDGERS SIDE BY SIDE: the program's and the document's.
-/
import Derived.Test.YtfmcfkfhmncaiaaLgTells
namespace Go.Proofs.Ytfmcfkfhmncaiaa
open Go.RowKit

structure Both (w0 w : World) (l m : Nat) (ps qs : List Post) (F G : Nat → Prop) : Prop where
  led : LedAt w l ps F
  ref : RefAt w m qs G
  apart : ∀ k, F k → ¬ G k
  bF : ∀ k, F k → w0.heap.size ≤ k
  bG : ∀ k, G k → w0.heap.size ≤ k
  below : Below w0.heap.size w0 w

namespace Both
variable {w0 w w' : World} {l m : Nat} {ps qs : List Post} {F G : Nat → Prop}
theorem fr (h : Both w0 w l m ps qs F G) (hf : Fr noBlock w w') : Both w0 w' l m ps qs F G :=
  ⟨h.led.fr hf (fun _ _ x => x), h.ref.fr hf (fun _ _ x => x), h.apart, h.bF, h.bG, h.below.trans (hf.below h.below.size (fun _ hk => hk.elim))⟩
theorem one {F' : Nat → Prop} {ps' : List Post} (h : Both w0 w l m ps qs F G) (g : LedAt w' l ps' F') (hs : Step F F' w w') : Both w0 w' l m ps' qs F' G :=
  ⟨g, h.ref.fr hs.fr (fun k hk hf => h.apart k hf hk), hs.apart h.apart h.ref.lt, (hs.below h.bF h.below.size).2, h.bG, h.below.trans (hs.below h.bF h.below.size).1⟩
theorem two {G' : Nat → Prop} {qs' : List Post} (h : Both w0 w l m ps qs F G) (g : RefAt w' m qs' G') (hs : Step G G' w w') : Both w0 w' l m ps qs' F G' :=
  ⟨h.led.fr hs.fr (fun k hk hf => h.apart k hk hf), g, fun k hk hg => hs.apart (fun k hg hf => h.apart k hf hg) h.led.lt k hg hk, h.bF, (hs.below h.bG h.below.size).2, h.below.trans (hs.below h.bG h.below.size).1⟩

theorem approve (h : Both w0 w l m ps qs F G) (key : ByteArray) (amount : Int) (answer : ByteArray) (hs : key.size ≤ maxLen) :
    Calls Try.prog 10 #[.pointer (some ⟨l, 0, none⟩), .string key, .int .i64 amount, .string answer] w fun e w' => ∃ F', e = .returned (.int .i64 (addE ps ⟨key, amount, 1, answer⟩)) ∧ Both w0 w' l m (addL ps ⟨key, amount, 1, answer⟩) qs F' G ∧ Step F F' w w' :=
  (approve_at h.led key amount answer hs rfl rfl).mono fun _ _ ⟨F', g1, g2, g3⟩ => ⟨F', g2, h.one g1 g3, g3⟩
theorem rapprove (h : Both w0 w l m ps qs F G) (hg : Good qs) (key : ByteArray) (amount : Int) (answer : ByteArray) :
    Calls Try.prog 21 #[.pointer (some ⟨m, 0, none⟩), .string key, .int .i64 amount, .string answer] w fun e w' => ∃ G', e = .returned (.int .i64 (addE qs ⟨key, amount, 1, answer⟩)) ∧ Both w0 w' l m ps (addL qs ⟨key, amount, 1, answer⟩) F G' ∧ Step G G' w w' :=
  (rapprove_at h.ref hg key amount answer).mono fun _ _ ⟨F', g1, g2, g3⟩ => ⟨F', g2, h.two g1 g3, g3⟩
theorem reverse (h : Both w0 w l m ps qs F G) (key : ByteArray) (hs : key.size ≤ maxLen) :
    Calls Try.prog 11 #[.pointer (some ⟨l, 0, none⟩), .string key] w fun e w' => ∃ F', e = .returned (.tuple #[.int .i64 (revN ps key), .int .i64 (revE ps key)]) ∧ Both w0 w' l m (revL ps key) qs F' G ∧ Step F F' w w' :=
  (reverse_at h.led key hs rfl rfl rfl).mono fun _ _ ⟨F', g1, g2, g3⟩ => ⟨F', g2, h.one g1 g3, g3⟩
theorem rreverse (h : Both w0 w l m ps qs F G) (hg : Good qs) (key : ByteArray) :
    Calls Try.prog 22 #[.pointer (some ⟨m, 0, none⟩), .string key] w fun e w' => ∃ G', e = .returned (.tuple #[.int .i64 (revN qs key), .int .i64 (revE qs key)]) ∧ Both w0 w' l m ps (revL qs key) F G' ∧ Step G G' w w' :=
  (rreverse_at h.ref hg key).mono fun _ _ ⟨F', g1, g2, g3⟩ => ⟨F', g2, h.two g1 g3, g3⟩
theorem close (h : Both w0 w l m ps qs F G) :
    Calls Try.prog 12 #[.pointer (some ⟨l, 0, none⟩)] w fun e w' => ∃ F', e = .returned (.int .i64 (sumA ps)) ∧ Both w0 w' l m [] qs F' G ∧ Step F F' w w' :=
  (close_at h.led rfl).mono fun _ _ ⟨F', g1, g2, g3⟩ => ⟨F', g2, h.one g1 g3, g3⟩
theorem rclose (h : Both w0 w l m ps qs F G) (hg : Good qs) :
    Calls Try.prog 24 #[.pointer (some ⟨m, 0, none⟩)] w fun e w' => ∃ G', e = .returned (.int .i64 (sumA qs)) ∧ Both w0 w' l m ps [] F G' ∧ Step G G' w w' :=
  (rclose_at h.ref hg).mono fun _ _ ⟨F', g1, g2, g3⟩ => ⟨F', g2, h.two g1 g3, g3⟩
theorem ask (h : Both w0 w l m ps qs F G) (key : ByteArray) (hs : key.size ≤ maxLen) :
    Calls Try.prog 13 #[.pointer (some ⟨l, 0, none⟩), .string key] w fun e w' => e = .returned (.tuple #[((askP ps key).getD zeroPost).val, .bool (askP ps key).isSome]) ∧ Fr noBlock w w' :=
  (ask_at h.led key hs rfl rfl).mono fun _ _ ⟨_, g2, g3⟩ => ⟨g2, g3⟩
theorem rask (h : Both w0 w l m ps qs F G) (hg : Good qs) (key : ByteArray) :
    Calls Try.prog 23 #[.pointer (some ⟨m, 0, none⟩), .string key] w fun e w' => e = .returned (.tuple #[((askP qs key).getD zeroPost).val, .bool (askP qs key).isSome]) ∧ Fr noBlock w w' :=
  (rask_at h.ref hg key).mono fun _ _ ⟨_, g2, g3⟩ => ⟨g2, g3⟩
theorem tell (h : Both w0 w l m ps ps F G) :
    Calls Try.prog 25 #[.pointer (some ⟨l, 0, none⟩), .pointer (some ⟨m, 0, none⟩)] w fun e w' => e = .returned (.bool true) ∧ Fr noBlock w w' := tells_at h.led h.ref
end Both
end Go.Proofs.Ytfmcfkfhmncaiaa
