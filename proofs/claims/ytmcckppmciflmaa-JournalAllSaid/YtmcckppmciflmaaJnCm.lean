/-
  FOR THE JOURNAL LAWS: rows of strings; what a Commit of made writes does.
-/
import Derived.Test.YtmcckppmciflmaaJnSmall
import Derived.Test.YtmcckppmciflmaaJnMade
import Derived.Test.YtmcckppmciflmaaJnRdP
import Derived.Test.YtmcckppmciflmaaJnOpenZ
namespace Go.Proofs.Ytmcckppmciflmaa
open Go.RowKit

def TxtR : Rec ByteArray := ⟨1, fun s => [.string s], fun _ => rfl, fun s u hu => by simp at hu; subst hu; rfl⟩
theorem info_txt : (Try.prog.info? 9).map (fun i => (i.zero, i.size, i.bytes)) = some (some (.string ⟨#[]⟩), 1, 16) := by kernel_rfl
theorem el_txts : Elem Try.prog 74 9 TxtR.k 16 := Elem.mk' Try.underlying74 info_txt (by decide) rfl
theorem madeL_len (l : List JW) (m : Nat) : (madeL l m).length = l.length := by simp [madeL]
theorem madeL_max {l : List JW} {m : Nat} (hm : m ≤ 4096) : ∀ q ∈ madeL l m, q.2.length ≤ 9223372036854775807 := by
  intro q hq
  obtain ⟨v, _, rfl⟩ := List.mem_map.1 hq
  show (fillB _ _).length ≤ _
  rw [fillB_len]; omega
theorem ArgW.max' {w : World} {lo : Option Addr} {ws : List (Int × SV)} {l : List JW} (h : ArgW w lo ws l) : ∀ q ∈ l, q.2.length ≤ 9223372036854775807 := fun q hq => by have := h.max q hq; omega
/-- a cell of what came in stays -/
theorem cell_below {w W : World} (h : Below w.heap.size w W) {b o : Nat} {v : Value} (hb : b < w.heap.size) (hc : w.cell? ⟨b, o, none⟩ = some v) : W.cell? ⟨b, o, none⟩ = some v := (Fr.of_below (S := noBlock) h).cell hb (fun x => x) |>.trans hc
/-- a Commit of made writes, to a journal without a cut to come -/
def Cm14 (j L : Nat) (d : DK) (X : Nat → Bs) (x : List JW) (H : Nat → Prop) (w : World) (e : Ending) (w' : World) : Prop := ∃ d' H', e = .returned (.int .i64 (mayE d x)) ∧ JAt j L d' 0 w' H' ∧ Step H H' w w' ∧ Jn14 (if mayE d x = 0 then thnF x X else X) d'
theorem jcommit_14 {j L : Nat} {d : DK} {X : Nat → Bs} {w : World} {H : Nat → Prop} (h : JAt j L d 0 w H) (hJ : Jn14 X d) {lo : Option Addr} {us : List (Int × SV)} {l : List JW} (hw : JWrs w H lo us (madeL l 64)) (lc : Nat) (hc : l.length ≤ lc) (hb : l.length * 32 ≤ 140737488351232) :
    Calls Try.prog 28 #[.pointer (some ⟨j, 0, none⟩), .slice lo l.length lc] w (Cm14 j L d X (madeL l 64) H w) := by
  have hcc := jcommit_any h hw lc (by rw [madeL_len]; exact hc) (by rw [madeL_len]; omega) (madeL_max (by omega))
  rw [madeL_len] at hcc
  refine hcc.mono ?_
  rintro e w' ⟨H', he, hA, hS⟩
  obtain ⟨e1, e2, e3⟩ := hJ.commit (madeL l 64)
  rw [e1] at hA
  rw [e2] at he
  exact ⟨_, H', he, hA, hS, e3⟩
theorem jread_14 {j L : Nat} {d : DK} {X : Nat → Bs} {w : World} {H : Nat → Prop} (h : JAt j L d 0 w H) (hJ : Jn14 X d) {k : Nat} (hk : k < 5) : Calls Try.prog 32 #[.pointer (some ⟨j, 0, none⟩), .int .i64 k] w (ReadP (X k) 0 w) := by
  have hrb : jreadB d (k : Int) = X k := Cl.readB hJ.cl hk
  have hre : jreadE d (k : Int) = 0 := Cl.readE hJ.cl hk
  have := jread_any h (k : Int)
  rw [hrb, hre] at this
  exact this
end Go.Proofs.Ytmcckppmciflmaa
