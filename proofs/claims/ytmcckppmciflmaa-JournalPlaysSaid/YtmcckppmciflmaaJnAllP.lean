/-
  JOURNALS (plain): whichever act is cut off, and whatever is kept at a boot: all the writes are there, or none.
-/
import Derived.Test.YtmcckppmciflmaaJnP
namespace Go.Proofs.Ytmcckppmciflmaa

/-- what is safe, what is dirty, of a disk of 14 sectors of 64 bytes -/
structure Pr (A B : Nat → Bs → Prop) (d : DK) : Prop where
  good : d.Good
  size : d.size = 64
  len : d.safe.length = 14
  safe : ∀ n b, d.safe[n]? = some b → A n b
  dirt : ∀ p ∈ d.dirty, B p.1 p.2
def Mix (A B : Nat → Bs → Prop) : Prop := ∀ (n : Nat) (s b : Bs) (k : Nat), k ≤ 64 → s.length = 64 → b.length = 64 → A n s → B n b → A n (b.take k ++ s.drop k)
def none2 : Nat → Bs → Prop := fun _ _ => False

theorem landL_pr {A B : Nat → Bs → Prop} (hm : Mix A B) : ∀ (l : List (Nat × Bs × Nat)) (safe : List Bs), (∀ n b, safe[n]? = some b → A n b ∧ b.length = 64) → (∀ x ∈ l, B x.1 x.2.1 ∧ x.2.1.length = 64 ∧ x.2.2 ≤ 64) →
    ∀ n b, (landL safe l)[n]? = some b → A n b ∧ b.length = 64
  | [], safe, hs, _, n, b, h => hs n b h
  | (m, c, k) :: l, safe, hs, hl, n, b, h => by
    obtain ⟨h1, h2, h3⟩ := hl (m, c, k) (by simp)
    simp only at h1 h2 h3
    refine landL_pr hm l _ ?_ (fun x hx => hl x (by simp [hx])) n b h
    intro n' b' hb'
    rw [List.getElem?_set] at hb'
    by_cases e : m = n'
    · subst e
      rw [if_pos rfl] at hb'
      by_cases hlt : m < safe.length
      · rw [if_pos hlt] at hb'
        cases hb'
        obtain ⟨g1, g2⟩ := hs m safe[m] (List.getElem?_eq_getElem hlt)
        have e : safe.getD m [] = safe[m] := by simp [List.getD, List.getElem?_eq_getElem hlt]
        rw [e]
        exact ⟨hm _ _ _ _ h3 g2 h2 g1 h1, by simp; omega⟩
      · rw [if_neg hlt] at hb'; cases hb'
    · rw [if_neg e] at hb'
      exact hs n' b' hb'
namespace Pr
variable {A B : Nat → Bs → Prop} {d : DK}
theorem sizes (h : Pr A B d) : ∀ n b, d.safe[n]? = some b → A n b ∧ b.length = 64 := fun n b hb => ⟨h.safe n b hb, by rw [← h.size]; exact h.good.sizes b (List.mem_of_getElem? hb)⟩
theorem mono {A' B' : Nat → Bs → Prop} (h : Pr A B d) (ha : ∀ n b, b.length = 64 → A n b → A' n b) (hb : ∀ n b, B n b → B' n b) : Pr A' B' d :=
  ⟨h.good, h.size, h.len, fun n b hn => ha n b (h.sizes n b hn).2 (h.safe n b hn), fun p hp => hb _ _ (h.dirt p hp)⟩
theorem clean {B' : Nat → Bs → Prop} (h : Pr A B d) (hd : d.dirty = []) : Pr A B' d := ⟨h.good, h.size, h.len, h.safe, fun p hp => by rw [hd] at hp; cases hp⟩
theorem cut (h : Pr A B d) : Pr A B d.cut := by
  obtain ⟨e1, e2, e3⟩ := d.cut_same
  exact ⟨h.good.cut, by rw [e1]; exact h.size, by rw [e2]; exact h.len, by rw [e2]; exact h.safe, by rw [e3]; exact h.dirt⟩
theorem flush (h : Pr A B d) (hm : Mix A B) : Pr A B d.flush := by
  have hg := h.good.flush
  unfold DK.flush at hg ⊢
  split
  · exact h
  · rename_i ho
    rw [if_neg ho] at hg
    obtain ⟨e1, e2, e3⟩ := d.cut_same
    refine ⟨hg, by show d.cut.size = 64; rw [e1]; exact h.size, by show (landL _ _).length = 14; rw [landL_len]; exact h.len, ?_, fun p hp => h.dirt p (List.mem_of_mem_drop hp)⟩
    intro n b hb
    refine (landL_pr hm _ _ h.sizes ?_ n b hb).1
    intro x hx
    obtain ⟨p, hp, rfl⟩ := List.mem_map.1 hx
    have hp' := List.mem_of_mem_take hp
    exact ⟨h.dirt p hp', by rw [← h.size]; exact (h.good.there p hp').2, by show d.size ≤ 64; rw [h.size]; omega⟩
theorem write (h : Pr A B d) {n : Int} {b : Bs} (hb : B n.toNat b) : Pr A B (d.write n b) := by
  have hg := h.good.write n b
  unfold DK.write at hg ⊢
  split
  · exact h
  · split
    · exact h
    · split
      · exact h
      · rename_i h1 h2 h3
        rw [if_neg h1, if_neg h2, if_neg h3] at hg
        split
        · exact h.cut
        · rename_i h4
          rw [if_neg h4] at hg
          have hc := h.cut
          refine ⟨hg, hc.size, hc.len, hc.safe, fun p hp => ?_⟩
          rcases putD_mem hp with hp | rfl
          · exact h.dirt p hp
          · exact hb
theorem boot (h : Pr A B d) (hm : Mix A B) (keep : List Int) : Pr A none2 (d.boot keep) ∧ (d.boot keep).off = false ∧ (d.boot keep).dirty = [] ∧ (d.boot keep).arm = none := by
  refine ⟨⟨h.good.boot keep, h.size, by show (landL _ _).length = 14; rw [landL_len]; exact h.len, ?_, fun p hp => by cases hp⟩, rfl, rfl, rfl⟩
  intro n b hb
  refine (landL_pr hm _ _ h.sizes ?_ n b hb).1
  intro x hx
  obtain ⟨p, hp, e1, e2, e3⟩ := bootL_mem hx
  rw [e1, e2]
  exact ⟨h.dirt p hp, by rw [← h.size]; exact (h.good.there p hp).2, by rw [h.size] at e3; exact e3⟩
theorem armed (h : Pr A B d) {a p : Int} (ha : a ≤ 9223372036854775807) (hp0 : -9223372036854775808 ≤ p) (hp1 : p ≤ 9223372036854775807) : Pr A B (d.armed a p) := ⟨h.good.armed ha hp0 hp1, h.size, h.len, h.safe, h.dirt⟩
end Pr

/-- acts that write what B allows -/
def ActsB (B : Nat → Bs → Prop) (l : List JA) : Prop := ∀ n b, some (n, b) ∈ l → B n.toNat b
theorem Pr.run {A B : Nat → Bs → Prop} (hm : Mix A B) : ∀ (l : List JA) (s : DK × Int), Pr A B s.1 → ActsB B l → Pr A B (jrun s l).1
  | [], s, h, _ => h
  | a :: l, s, h, hb => by
    rw [jrun_cons]
    refine Pr.run hm l _ ?_ (fun n b hn => hb n b (by simp [hn]))
    unfold jstep
    split
    · cases a with
      | none => exact h.flush hm
      | some w => obtain ⟨n, b⟩ := w; exact h.write (hb n b (by simp))
    · exact h

/-- writes of whole sectors that are there -/
def WOk (d : DK) (ws : List (Int × Bs)) : Prop := ∀ w ∈ ws, d.isS w.1 = true ∧ w.2.length = d.size
def lastW (ws : List (Int × Bs)) (n : Nat) (x : Bs) : Bs := ws.foldl (fun acc w => if w.1 = (n : Int) then w.2 else acc) x
theorem lastW_mem {ws : List (Int × Bs)} {n : Nat} : ∀ {x : Bs}, (lastW ws n x = x ∧ ∀ w ∈ ws, w.1 ≠ (n : Int)) ∨ ∃ w ∈ ws, w.1 = (n : Int) ∧ lastW ws n x = w.2 := by
  induction ws with
  | nil => intro x; exact .inl ⟨rfl, by simp⟩
  | cons v ws ih =>
    intro x
    have e : lastW (v :: ws) n x = lastW ws n (if v.1 = (n : Int) then v.2 else x) := rfl
    rw [e]
    rcases ih (x := if v.1 = (n : Int) then v.2 else x) with ⟨h1, h2⟩ | ⟨w, hw, h1, h2⟩
    · by_cases hv : v.1 = (n : Int)
      · exact .inr ⟨v, by simp, hv, by rw [h1, if_pos hv]⟩
      · refine .inl ⟨by rw [h1, if_neg hv], fun w hw => ?_⟩
        rcases List.mem_cons.1 hw with rfl | hw
        · exact hv
        · exact h2 w hw
    · exact .inr ⟨w, by simp [hw], h1, h2⟩
theorem writeE_ok {d : DK} (h0 : d.off = false) {n : Int} {b : Bs} (h1 : d.isS n = true) (h2 : b.length = d.size) : d.writeE n b.length = if d.gone then 30 else 0 := by simp [DK.writeE, h0, h1, h2]
theorem gone_cut {d : DK} (h : d.gone = false) : d.cut.off = d.off := by
  unfold DK.gone at h; unfold DK.cut
  split at h <;> simp_all
  split <;> simp_all
theorem write_ok {d : DK} (h0 : d.off = false) {n : Int} {b : Bs} (h1 : d.isS n = true) (h2 : b.length = d.size) (hg : d.gone = false) : d.write n b = { d.cut with dirty := putD d.dirty n.toNat b } := by simp [DK.write, h0, h1, h2, hg]
/-- writes that all told OK -/
theorem run_writes : ∀ (ws : List (Int × Bs)) (d : DK), d.off = false → WOk d ws → (jrun (d, 0) (ws.map some)).2 = 0 →
    (jrun (d, 0) (ws.map some)).1.off = false ∧ (jrun (d, 0) (ws.map some)).1.safe = d.safe ∧ (jrun (d, 0) (ws.map some)).1.size = d.size ∧ (jrun (d, 0) (ws.map some)).1.dirty = ws.foldl (fun D w => putD D w.1.toNat w.2) d.dirty ∧ (d.arm = none → (jrun (d, 0) (ws.map some)).1.arm = none)
  | [], d, h0, _, _ => ⟨h0, rfl, rfl, rfl, fun h => h⟩
  | w :: ws, d, h0, hw, he => by
    obtain ⟨h1, h2⟩ := hw w (by simp)
    rw [List.map_cons, jrun_cons] at he ⊢
    have e1 : jstep (d, 0) (some w) = (d.write w.1 w.2, d.writeE w.1 w.2.length) := by unfold jstep; rw [if_pos rfl]
    rw [e1] at he ⊢
    cases hg : d.gone with
    | true =>
      rw [writeE_ok h0 h1 h2, hg, if_pos rfl, jrun_bad (by simp)] at he
      simp at he
    | false =>
      have e2 := write_ok h0 h1 h2 hg
      rw [writeE_ok h0 h1 h2, hg] at he ⊢
      simp only [Bool.false_eq_true, if_false] at he ⊢
      rw [e2] at he ⊢
      obtain ⟨c1, c2, c3⟩ := d.cut_same
      have ih := run_writes ws ({ d.cut with dirty := putD d.dirty w.1.toNat w.2 } : DK) (by show d.cut.off = false; rw [gone_cut hg, h0]) (fun v hv => by
        have := hw v (by simp [hv])
        exact ⟨by show (decide (0 ≤ v.1) && decide (v.1 < ((d.cut.safe.length : Nat) : Int))) = true; rw [c2]; exact this.1, by show _ = d.cut.size; rw [c1]; exact this.2⟩) he
      obtain ⟨i1, i2, i3, i4, i5⟩ := ih
      exact ⟨i1, i2.trans c2, i3.trans c1, i4, fun ha => i5 (by show d.cut.arm = none; unfold DK.cut; rw [ha]; exact ha)⟩
theorem look_fold : ∀ (ws : List (Int × Bs)) (D : Dirt) (n : Nat) (x : Bs), (∀ w ∈ ws, 0 ≤ w.1) → (lookD (ws.foldl (fun D w => putD D w.1.toNat w.2) D) n).getD x = lastW ws n ((lookD D n).getD x)
  | [], D, n, x, _ => rfl
  | w :: ws, D, n, x, h => by
    have h0 := h w (by simp)
    rw [List.foldl_cons, look_fold ws _ n x (fun v hv => h v (by simp [hv]))]
    show lastW ws n _ = lastW ws n (if w.1 = (n : Int) then w.2 else _)
    congr 1
    rw [putD_look]
    by_cases e : w.1 = (n : Int)
    · rw [if_pos e, if_pos (by omega)]; rfl
    · rw [if_neg e, if_neg (by omega)]
theorem land_get (size : Nat) : ∀ (l : Dirt) (safe : List Bs), Rise l → (∀ b ∈ safe, b.length = size) → (∀ p ∈ l, p.1 < safe.length ∧ p.2.length = size) → ∀ n, (landL safe (l.map (fun p => (p.1, p.2, size)))).getD n [] = (lookD l n).getD (safe.getD n [])
  | [], safe, _, _, _, n => rfl
  | p :: l, safe, hr, hs, hp, n => by
    obtain ⟨h1, h2⟩ := hp p (by simp)
    have hr' := List.pairwise_cons.1 hr
    have hsz : (safe.getD p.1 []).length = size := by
      simp only [List.getD, List.getElem?_eq_getElem h1, Option.getD_some]
      exact hs _ (List.getElem_mem h1)
    have hb : p.2.take size ++ (safe.getD p.1 []).drop size = p.2 := by rw [List.take_of_length_le (by omega), List.drop_of_length_le (by omega), List.append_nil]
    rw [List.map_cons]
    show (landL (safe.set p.1 (p.2.take size ++ (safe.getD p.1 []).drop size)) _).getD n [] = _
    rw [hb, land_get size l _ hr'.2 (fun b hb => by
      rcases List.mem_or_eq_of_mem_set hb with hb | rfl
      · exact hs b hb
      · exact h2) (fun q hq => by rw [List.length_set]; exact hp q (by simp [hq])), lookD_cons]
    by_cases e : (p.1 : Int) = n
    · have e' : p.1 = n := by omega
      rw [if_pos e]
      have : lookD l n = none := lookD_none.2 (fun q hq => by have := hr'.1 q hq; omega)
      rw [this]
      have hn : n < safe.length := by omega
      subst e'
      simp [List.getD, hn]
    · rw [if_neg e]
      congr 1
      simp only [List.getD]
      rw [List.getElem?_set_ne (by omega)]
/-- writes and a flush that all told OK -/
theorem run_flush {d : DK} (hg : d.Good) (h0 : d.off = false) (hd : d.dirty = []) {ws : List (Int × Bs)} (hw : WOk d ws) (he : (jrun (d, 0) (ws.map some ++ [none])).2 = 0) :
    (jrun (d, 0) (ws.map some ++ [none])).1.off = false ∧ (jrun (d, 0) (ws.map some ++ [none])).1.dirty = [] ∧ (∀ n, (jrun (d, 0) (ws.map some ++ [none])).1.safe.getD n [] = lastW ws n (d.safe.getD n [])) ∧ (jrun (d, 0) (ws.map some ++ [none])).1.Good ∧ (jrun (d, 0) (ws.map some ++ [none])).1.safe.length = d.safe.length ∧ (jrun (d, 0) (ws.map some ++ [none])).1.size = d.size := by
  rw [jrun_append] at he ⊢
  obtain ⟨s, e⟩ : ∃ s, jrun (d, 0) (ws.map some) = s := ⟨_, rfl⟩
  have hws : s.2 = 0 := by
    rw [e] at he
    by_cases h : s.2 = 0
    · exact h
    · rw [jrun_bad h] at he; exact absurd he h
  obtain ⟨r1, r2, r3, r4, _⟩ := run_writes ws d h0 hw (by rw [e]; exact hws)
  have hgd : s.1.Good := by
    rw [← e]
    clear he e hws r1 r2 r3 r4
    have : ∀ (ws : List JA) (s : DK × Int), s.1.Good → (jrun s ws).1.Good := by
      intro ws
      induction ws with
      | nil => intro s h; exact h
      | cons a l ih =>
        intro s h
        rw [jrun_cons]
        refine ih _ ?_
        unfold jstep
        split
        · cases a with
          | none => exact h.flush
          | some w => obtain ⟨n, b⟩ := w; exact h.write n b
        · exact h
    exact this _ _ hg
  rw [e] at r1 r2 r3 r4 he ⊢
  obtain ⟨s1, s2⟩ := s
  simp only at r1 r2 r3 r4 hws hgd
  subst hws
  have e2 : jrun (s1, 0) [none] = (s1.flush, s1.flushE) := by rw [jrun_cons, jrun_nil]; unfold jstep; rw [if_pos rfl]
  rw [e2] at he ⊢
  simp only at he ⊢
  have hgo : s1.gone = false := by
    cases h : s1.gone with
    | false => rfl
    | true => simp [DK.flushE, r1, h] at he
  have hfn : s1.flushN = s1.dirty.length := by
    unfold DK.flushN
    unfold DK.gone at hgo
    split <;> simp_all
  have hf : s1.flush = { s1.cut with safe := landL s1.safe (s1.dirty.map (fun p => (p.1, p.2, s1.size))), dirty := [] } := by
    unfold DK.flush
    rw [if_neg (by rw [r1]; simp), hfn, List.take_length, List.drop_length]
  have hgf := hgd.flush
  rw [hf] at hgf ⊢
  obtain ⟨c1, _, _⟩ := s1.cut_same
  refine ⟨by show s1.cut.off = false; rw [gone_cut hgo, r1], rfl, fun n => ?_, hgf, by show (landL _ _).length = _; rw [landL_len, r2], by show s1.cut.size = _; rw [c1, r3]⟩
  show (landL s1.safe (s1.dirty.map (fun p => (p.1, p.2, s1.size)))).getD n [] = _
  rw [land_get s1.size s1.dirty s1.safe hgd.rise hgd.sizes hgd.there, r4, look_fold _ _ _ _ (fun w hw' => (DK.isS_iff.1 (hw w hw').1).1), r2, hd]
  rfl
end Go.Proofs.Ytmcckppmciflmaa
