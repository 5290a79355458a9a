/-
  SORTING A ROW OF STRINGS; the keys that a range over the table's map has collected, sorted, are the routes' prefixes.
-/
import Derived.Test.YtpdkilfncflngaaRtShelf
import Derived.Test.YtpdkilfncflngaaRtWalk
import Derived.Sort.OwnSorted
import Derived.Sort.KeysCollected
namespace Go.Proofs.Ytpdkilfncflngaa
open Go.RowKit Go.Sort

def StrR : Rec ByteArray := ⟨1, fun s => [.string s], fun _ => rfl, fun s u hu => by simp at hu; subst hu; rfl⟩
abbrev byt (s : ByteArray) : List UInt8 := s.data.toList
theorem byt_eq (s : ByteArray) : byt s = s.toList := by rw [ByteArray.toList_eq]
theorem encStr_byt (s : ByteArray) : encStr (byt s) = .string s := by simp [encStr]
theorem flat_strs (ss : List ByteArray) : StrR.flat ss = (ss.map byt).map encStr := by
  induction ss with
  | nil => rfl
  | cons s ss ih =>
    show StrR.cells s ++ StrR.flat ss = _
    rw [ih, List.map_cons, List.map_cons, encStr_byt]; rfl

/-- the library's sort, at a row of strings of any make -/
theorem sort_any {w : World} {v : Value} {ss : List (List UInt8)} {base : Nat} (h : w.ownsRow base 9 1 v ss.length (ss.map encStr)) (hm : ss.length < 4611686018427387904) :
    Calls Try.prog 24 #[v] w fun e w' => e = .returned (.tuple #[]) ∧ w'.ownsRow base 9 1 v ss.length ((ss.mergeSort leB).map encStr) ∧ w.grownBy w' v.ownBlock := by
  rcases h.2 with ⟨rfl, hn⟩ | ⟨g, cap, cur, rfl, hbase, hb, h1, h2, h3, h4⟩
  · refine (Try.slices_Sort_string_none none 0 w).mono ?_
    rintro e w' ⟨rfl, rfl⟩
    have : ss = [] := List.eq_nil_of_length_eq_zero hn
    subst this
    exact ⟨rfl, by simpa using h, ⟨rfl, rfl, rfl, Nat.le_refl _, fun _ _ _ => rfl⟩⟩
  · refine (Try.slices_Sort_string g 0 cap ss w (holds_of_block hb (by simpa using h4)) (heap_lt hb) hm).mono ?_
    rintro e w' ⟨rfl, nn, os, rfl⟩
    exact ⟨rfl, ownsRow_sorted (by simp) hbase hb h1 h2 h3, grownBy_sorted _⟩

theorem sorted_keys {D : DataW Unit} {rs : List Route} {N : Nat} (hD : MapD D (lookR rs) N) (hs : Sorted rs) {left : Lit → Bool} {ss : List (List UInt8)} (hC : Collected D left ss) (hl : ∀ kl, left kl = false) :
    ss.mergeSort leB = rs.map (fun r => byt r.pre) := by
  have hsort : (rs.map (fun r => byt r.pre)).Pairwise (fun a b => a < b) := by
    rw [List.pairwise_map]
    exact hs.imp (fun {a b} h => by rw [byt_eq, byt_eq]; exact h)
  have hp : ss.Perm (rs.map (fun r => byt r.pre)) := by
    refine (List.perm_ext_iff_of_nodup hC.1 (hsort.imp (fun {a b} h e => by subst e; exact List.lt_irrefl _ h))).2 fun x => ?_
    rw [hC.2 x, hl]
    have hx := (hD.says ⟨x.toArray⟩).1
    have e : keyLit ⟨x.toArray⟩ = .string x := by simp
    rw [e] at hx
    rw [hx, List.mem_map]
    constructor
    · rintro ⟨h1, _⟩
      cases hlk : lookR rs ⟨x.toArray⟩ with
      | none => rw [hlk] at h1; cases h1
      | some t =>
        obtain ⟨r, hr, hpre, _⟩ := lookR_mem hlk
        exact ⟨r, hr, by rw [hpre]⟩
    · rintro ⟨r, hr, rfl⟩
      refine ⟨?_, rfl⟩
      have := lookR_of_mem hs hr
      have e2 : (⟨(byt r.pre).toArray⟩ : ByteArray) = r.pre := by simp
      rw [e2, this]; rfl
  rw [mergeSort_of_perm hp]
  apply List.mergeSort_of_pairwise
  exact hsort.imp (fun {a b} h => by simp only [leB, decide_eq_true_eq]; exact List.le_of_lt h)
theorem strs_row {w : World} {v : Value} {base : Nat} {rs : List Route} {n : Nat} (hn : n = rs.length) (h : w.ownsRow base 9 1 v n ((rs.map (fun r => byt r.pre)).map encStr)) : RowAt 9 StrR w v (rs.map Route.pre) := by
  subst hn
  unfold RowAt
  have e : StrR.flat (rs.map Route.pre) = (rs.map (fun r => byt r.pre)).map encStr := by rw [flat_strs]; simp only [List.map_map]; rfl
  rw [e, List.length_map]
  obtain ⟨h1, h2⟩ := h
  refine ⟨h1, ?_⟩
  rcases h2 with h2 | ⟨g, cap, cur, rfl, hb, rest⟩
  · exact .inl h2
  · exact .inr ⟨g, cap, cur, rfl, Nat.zero_le _, rest⟩
end Go.Proofs.Ytpdkilfncflngaa
