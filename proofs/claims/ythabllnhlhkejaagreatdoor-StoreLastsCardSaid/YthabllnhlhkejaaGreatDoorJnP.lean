/-
  JOURNALS (plain): the acts of a Commit, of an Open; what they do to a disk.
-/
import Derived.Test.YthabllnhlhkejaaGreatDoorDkPlain
import Derived.Test.YthabllnhlhkejaaGreatDoorCrcP
namespace Go.Proofs.YthabllnhlhkejaaGreatDoor

/-- a write: its sector in the journal, its bytes -/
abbrev JW := Int × Bs
/-- an act: a write to the disk, or a flush -/
abbrev JA := Option (Int × Bs)
def jstep (s : DK × Int) (a : JA) : DK × Int := if s.2 = 0 then (match a with
  | some (n, b) => (s.1.write n b, s.1.writeE n b.length)
  | none => (s.1.flush, s.1.flushE)) else s
def jrun (s : DK × Int) (l : List JA) : DK × Int := l.foldl jstep s
theorem jrun_nil (s : DK × Int) : jrun s [] = s := rfl
theorem jrun_cons (s : DK × Int) (a : JA) (l : List JA) : jrun s (a :: l) = jrun (jstep s a) l := rfl
theorem jrun_append (s : DK × Int) (l m : List JA) : jrun s (l ++ m) = jrun (jrun s l) m := by simp [jrun]
theorem jrun_snoc (s : DK × Int) (l : List JA) (a : JA) : jrun s (l ++ [a]) = jstep (jrun s l) a := by simp [jrun]
theorem jstep_bad {s : DK × Int} (h : s.2 ≠ 0) (a : JA) : jstep s a = s := by unfold jstep; rw [if_neg h]
theorem jrun_bad {s : DK × Int} (h : s.2 ≠ 0) (l : List JA) : jrun s l = s := by
  induction l with
  | nil => rfl
  | cons a l ih => rw [jrun_cons, jstep_bad h, ih]

def by2 (n : Nat) : Bs := [UInt8.ofNat (n / 256), UInt8.ofNat n]
def by4 (n : Nat) : Bs := [UInt8.ofNat (n / 16777216), UInt8.ofNat (n / 65536), UInt8.ofNat (n / 256), UInt8.ofNat n]
def sumB (l : List JW) : Bs := by4 (crcS (l.flatMap Prod.snd)).toNat
def headN (l : List JW) : Bs := l.flatMap (fun w => by2 w.1.toNat)
/-- the head's bytes -/
def headB (flag : UInt8) (l : List JW) (size : Nat) : Bs := [flag, UInt8.ofNat l.length] ++ headN l ++ List.replicate (16 - 2 * l.length) 0 ++ sumB l ++ List.replicate (size - 22) 0
theorem headN_len (l : List JW) : (headN l).length = 2 * l.length := by
  induction l with
  | nil => rfl
  | cons w l ih => show (by2 _ ++ headN l).length = _; rw [List.length_append, ih, List.length_cons]; show 2 + _ = _; omega
theorem sumB_len (l : List JW) : (sumB l).length = 4 := rfl
theorem headB_len (flag : UInt8) {l : List JW} {size : Nat} (hl : l.length ≤ 8) (hs : 22 ≤ size) : (headB flag l size).length = size := by
  unfold headB
  simp only [List.length_append, headN_len, sumB_len, List.length_replicate, List.length_cons, List.length_nil]
  omega

def noteA (k : Nat) : List JW → List JA
  | [] => []
  | w :: l => some ((k : Int), w.2) :: noteA (k + 1) l
theorem noteA_snoc (l : List JW) (w : JW) : ∀ k, noteA k (l ++ [w]) = noteA k l ++ [some (((k + l.length : Nat) : Int), w.2)] := by
  induction l with
  | nil => intro k; rfl
  | cons v l ih => intro k; show some _ :: noteA (k + 1) (l ++ [w]) = _; rw [ih]; simp [noteA]; omega
theorem noteA_len (l : List JW) : ∀ k, (noteA k l).length = l.length := by
  induction l with
  | nil => intro k; rfl
  | cons v l ih => intro k; simp [noteA, ih]
def homeA (l : List JW) : List JA := l.map (fun w => some (9 + w.1, w.2))
def commitA (l : List JW) (size : Nat) : List JA := noteA 1 l ++ [some (0, headB 0 l size), none, some (0, headB 1 l size), none] ++ (homeA l ++ [none]) ++ [some (0, headB 0 l size), none]
def secs (d : DK) : Int := (d.safe.length : Int) - 9
def isJ (d : DK) (n : Int) : Bool := decide (0 ≤ n) && decide (n < secs d)
def mayL (d : DK) : List JW → List JW → Int
  | _, [] => 0
  | pre, w :: l => if w.2.length ≠ d.size then 1 else if isJ d w.1 = false then 31 else if pre.any (fun v => v.1 == w.1) then 1 else mayL d (pre ++ [w]) l
def mayE (d : DK) (l : List JW) : Int := if 8 < l.length then 1 else mayL d [] l
/-- a Commit: the disk behind it, the error that stays, the error that is told -/
def commitR (d : DK) (bad : Int) (l : List JW) : DK × Int × Int :=
  if bad ≠ 0 then (d, bad, bad) else if mayE d l ≠ 0 then (d, 0, mayE d l) else if l = [] then (d, 0, 0) else
  let r := jrun (d, 0) (commitA l d.size); (r.1, r.2, r.2)
/-- the writes that a head tells, with the notes' bytes -/
def toldL (d : DK) (h : Bs) (n : Nat) : List JW := (List.range n).map (fun i => (((h.getD (2 + 2 * i) 0).toNat * 256 + (h.getD (3 + 2 * i) 0).toNat : Nat), d.readB ((1 + i : Nat) : Int)))
def toldB (d : DK) (h : Bs) : Bool := let n := (h.getD 1 0).toNat
  decide (h.getD 0 0 = 1) && decide (1 ≤ n) && decide (n ≤ 8) && (toldL d h n).all (fun w => isJ d w.1) && decide (sumB (toldL d h n) = (h.drop 18).take 4)
def openA (d : DK) (h : Bs) : List JA := homeA (toldL d h (h.getD 1 0).toNat) ++ [none] ++ [some (0, h.set 0 0), none]
/-- an Open: the disk behind it, the error -/
def openR (d : DK) : DK × Int :=
  if d.safe.length ≤ 9 then (d, 1) else if d.off then (d, 30) else
  let h := d.readB 0
  if h.getD 0 0 = 0 then (d, 0) else if toldB d h = false then (d, 21) else jrun (d, 0) (openA d h)
end Go.Proofs.YthabllnhlhkejaaGreatDoor
