/-
  JOURNALS (plain): a journal of 14 sectors of 64 bytes, without a cut: Commits, and what is read.
-/
import Derived.Test.YtmcckppmciflmaaJnAllP3
namespace Go.Proofs.Ytmcckppmciflmaa

/-- the journal of 14 sectors, clean, without a cut to come -/
structure Jn14 (X : Nat → Bs) (d : DK) : Prop where
  cl : Cl (A0 X) d
  arm : d.arm = none
namespace Jn14
variable {X : Nat → Bs} {d : DK}
theorem new : Jn14 (fun _ => List.replicate 64 0) (DK.new 14 64) := by
  refine ⟨⟨⟨DK.Good.new (by omega) (by omega) (by omega), rfl, rfl, fun n b hb => ?_, fun p hp => by cases hp⟩, rfl, rfl⟩, rfl⟩
  have hb' : b = List.replicate 64 0 := List.eq_of_mem_replicate (List.mem_of_getElem? hb)
  subst hb'
  exact ⟨fun _ => rfl, fun _ _ => rfl⟩
theorem commit (h : Jn14 X d) (l : List JW) : (commitR d 0 l).2.1 = 0 ∧ (commitR d 0 l).2.2 = mayE d l ∧ Jn14 (if mayE d l = 0 then thnF l X else X) (commitR d 0 l).1 := by
  have hu := commit_unarmed h.cl.2.1 h.arm (by rw [h.cl.1.len]; omega) (by rw [h.cl.1.size]; omega) l
  refine ⟨hu.1, hu.2.1, ?_, hu.2.2.2.1⟩
  rcases commit_after (l := l) h.cl with ⟨_, _, e, _, hm⟩ | ⟨hm, _, _, hc⟩ | ⟨e, _, _⟩
  · rw [if_neg hm, e]; exact h.cl
  · rw [if_pos hm]; exact hc
  · have := mayE_err d l
    rw [hu.2.1] at e
    omega
theorem open' (h : Jn14 X d) : openR d = (d, 0) := open_Cl0 h.cl
theorem secs (h : Jn14 X d) : secs d = 5 := by unfold Go.Proofs.Ytmcckppmciflmaa.secs; rw [h.cl.1.len]; rfl
end Jn14
theorem Cl.readB {X : Nat → Bs} {d : DK} (h : Cl (A0 X) d) {k : Nat} (hk : k < 5) : (if isJ d k then d.readB (9 + (k : Int)) else []) = X k := by
  have hi : isJ d (k : Int) = true := by rw [isJ_14 h.1.len]; simp; omega
  have e : (9 + (k : Int)) = ((9 + k : Nat) : Int) := by omega
  rw [hi, if_pos rfl, e, readB_clean h (by omega)]
  exact (h.1.safe (9 + k) _ (safe_at h.1 (by omega))).2 k rfl
theorem Cl.readE {X : Nat → Bs} {d : DK} (h : Cl (A0 X) d) {k : Nat} (hk : k < 5) : (if isJ d k then d.readE (9 + (k : Int)) else if d.off then 30 else 31) = 0 := by
  have hi : isJ d (k : Int) = true := by rw [isJ_14 h.1.len]; simp; omega
  have e : (9 + (k : Int)) = ((9 + k : Nat) : Int) := by omega
  rw [hi, if_pos rfl, e]
  exact readE_clean h (by omega)
/-- a commit that is told to be all right was of writes to the journal -/
theorem lastW_take (l : List JW) (k : Nat) (x : Bs) {i : Nat} (hi : i < l.length) : lastW (l.take (i + 1)) k x = if l[i].1 = (k : Int) then l[i].2 else lastW (l.take i) k x := by
  rw [List.take_succ_eq_append_getElem hi, lastW_append]
  rfl
end Go.Proofs.Ytmcckppmciflmaa
