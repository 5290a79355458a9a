/-
  JOURNALS (plain): a Commit and an Open, in four pieces; what a cut leaves; what an Open makes of that.
-/
import Derived.Test.YthabllnhlhkejaaGreatDoorJnP
namespace Go.Proofs.YthabllnhlhkejaaGreatDoor

/-- of what size a disk is: its sectors, their bytes -/
class Dim where
  N : Nat
  Z : Nat
  n9 : 9 < N
  n4 : N ≤ 4096
  z0 : 64 ≤ Z
  z1 : Z ≤ 4096
variable [Dim]

/-- what is safe, what is dirty, of a disk of Dim.N sectors of Dim.Z bytes -/
structure Pr (A B : Nat → Bs → Prop) (d : DK) : Prop where
  good : d.Good
  size : d.size = Dim.Z
  len : d.safe.length = Dim.N
  safe : ∀ n b, d.safe[n]? = some b → A n b
  dirt : ∀ p ∈ d.dirty, B p.1 p.2
def Mix (A B : Nat → Bs → Prop) : Prop := ∀ (n : Nat) (s b : Bs) (k : Nat), k ≤ Dim.Z → s.length = Dim.Z → b.length = Dim.Z → A n s → B n b → A n (b.take k ++ s.drop k)
def none2 : Nat → Bs → Prop := fun _ _ => False

theorem landL_pr {A B : Nat → Bs → Prop} (hm : Mix A B) : ∀ (l : List (Nat × Bs × Nat)) (safe : List Bs), (∀ n b, safe[n]? = some b → A n b ∧ b.length = Dim.Z) → (∀ x ∈ l, B x.1 x.2.1 ∧ x.2.1.length = Dim.Z ∧ x.2.2 ≤ Dim.Z) →
    ∀ n b, (landL safe l)[n]? = some b → A n b ∧ b.length = Dim.Z
  | [], safe, hs, _, n, b, h => hs n b h
  | (m, c, k) :: l, safe, hs, hl, n, b, h => by
    obtain ⟨h1, h2, h3⟩ := hl (m, c, k) (by simp)
    simp only at h1 h2 h3
    refine landL_pr hm l _ ?_ (fun x hx => hl x (by simp [hx])) n b h
    intro n' b' hb'
    rw [List.getElem?_set] at hb'
    by_cases e : m = n'
    · subst e
      rw [if_pos rfl] at hb'
      by_cases hlt : m < safe.length
      · rw [if_pos hlt] at hb'
        cases hb'
        obtain ⟨g1, g2⟩ := hs m safe[m] (List.getElem?_eq_getElem hlt)
        have e : safe.getD m [] = safe[m] := by simp [List.getD, List.getElem?_eq_getElem hlt]
        rw [e]
        exact ⟨hm _ _ _ _ h3 g2 h2 g1 h1, by simp; omega⟩
      · rw [if_neg hlt] at hb'; cases hb'
    · rw [if_neg e] at hb'
      exact hs n' b' hb'
namespace Pr
variable {A B : Nat → Bs → Prop} {d : DK}
theorem sizes (h : Pr A B d) : ∀ n b, d.safe[n]? = some b → A n b ∧ b.length = Dim.Z := fun n b hb => ⟨h.safe n b hb, by rw [← h.size]; exact h.good.sizes b (List.mem_of_getElem? hb)⟩
theorem mono {A' B' : Nat → Bs → Prop} (h : Pr A B d) (ha : ∀ n b, b.length = Dim.Z → A n b → A' n b) (hb : ∀ n b, B n b → B' n b) : Pr A' B' d :=
  ⟨h.good, h.size, h.len, fun n b hn => ha n b (h.sizes n b hn).2 (h.safe n b hn), fun p hp => hb _ _ (h.dirt p hp)⟩
theorem clean {B' : Nat → Bs → Prop} (h : Pr A B d) (hd : d.dirty = []) : Pr A B' d := ⟨h.good, h.size, h.len, h.safe, fun p hp => by rw [hd] at hp; cases hp⟩
theorem cut (h : Pr A B d) : Pr A B d.cut := by
  obtain ⟨e1, e2, e3⟩ := d.cut_same
  exact ⟨h.good.cut, by rw [e1]; exact h.size, by rw [e2]; exact h.len, by rw [e2]; exact h.safe, by rw [e3]; exact h.dirt⟩
theorem flush (h : Pr A B d) (hm : Mix A B) : Pr A B d.flush := by
  have hg := h.good.flush
  unfold DK.flush at hg ⊢
  split
  · exact h
  · rename_i ho
    rw [if_neg ho] at hg
    obtain ⟨e1, e2, e3⟩ := d.cut_same
    refine ⟨hg, by show d.cut.size = Dim.Z; rw [e1]; exact h.size, by show (landL _ _).length = Dim.N; rw [landL_len]; exact h.len, ?_, fun p hp => h.dirt p (List.mem_of_mem_drop hp)⟩
    intro n b hb
    refine (landL_pr hm _ _ h.sizes ?_ n b hb).1
    intro x hx
    obtain ⟨p, hp, rfl⟩ := List.mem_map.1 hx
    have hp' := List.mem_of_mem_take hp
    exact ⟨h.dirt p hp', by rw [← h.size]; exact (h.good.there p hp').2, by show d.size ≤ Dim.Z; rw [h.size]; omega⟩
theorem write (h : Pr A B d) {n : Int} {b : Bs} (hb : B n.toNat b) : Pr A B (d.write n b) := by
  have hg := h.good.write n b
  unfold DK.write at hg ⊢
  split
  · exact h
  · split
    · exact h
    · split
      · exact h
      · rename_i h1 h2 h3
        rw [if_neg h1, if_neg h2, if_neg h3] at hg
        split
        · exact h.cut
        · rename_i h4
          rw [if_neg h4] at hg
          have hc := h.cut
          refine ⟨hg, hc.size, hc.len, hc.safe, fun p hp => ?_⟩
          rcases putD_mem hp with hp | rfl
          · exact h.dirt p hp
          · exact hb
theorem boot (h : Pr A B d) (hm : Mix A B) (keep : List Int) : Pr A none2 (d.boot keep) ∧ (d.boot keep).off = false ∧ (d.boot keep).dirty = [] ∧ (d.boot keep).arm = none := by
  refine ⟨⟨h.good.boot keep, h.size, by show (landL _ _).length = Dim.N; rw [landL_len]; exact h.len, ?_, fun p hp => by cases hp⟩, rfl, rfl, rfl⟩
  intro n b hb
  refine (landL_pr hm _ _ h.sizes ?_ n b hb).1
  intro x hx
  obtain ⟨p, hp, e1, e2, e3⟩ := bootL_mem hx
  rw [e1, e2]
  exact ⟨h.dirt p hp, by rw [← h.size]; exact (h.good.there p hp).2, by rw [h.size] at e3; exact e3⟩
theorem armed (h : Pr A B d) {a p : Int} (ha : a ≤ 9223372036854775807) (hp0 : -9223372036854775808 ≤ p) (hp1 : p ≤ 9223372036854775807) : Pr A B (d.armed a p) := ⟨h.good.armed ha hp0 hp1, h.size, h.len, h.safe, h.dirt⟩
end Pr

/-- acts that write what B allows -/
def ActsB (B : Nat → Bs → Prop) (l : List JA) : Prop := ∀ n b, some (n, b) ∈ l → B n.toNat b
theorem Pr.run {A B : Nat → Bs → Prop} (hm : Mix A B) : ∀ (l : List JA) (s : DK × Int), Pr A B s.1 → ActsB B l → Pr A B (jrun s l).1
  | [], s, h, _ => h
  | a :: l, s, h, hb => by
    rw [jrun_cons]
    refine Pr.run hm l _ ?_ (fun n b hn => hb n b (by simp [hn]))
    unfold jstep
    split
    · cases a with
      | none => exact h.flush hm
      | some w => obtain ⟨n, b⟩ := w; exact h.write (hb n b (by simp))
    · exact h

/-- writes of whole sectors that are there -/
def WOk (d : DK) (ws : List (Int × Bs)) : Prop := ∀ w ∈ ws, d.isS w.1 = true ∧ w.2.length = d.size
def lastW (ws : List (Int × Bs)) (n : Nat) (x : Bs) : Bs := ws.foldl (fun acc w => if w.1 = (n : Int) then w.2 else acc) x
theorem lastW_mem {ws : List (Int × Bs)} {n : Nat} : ∀ {x : Bs}, (lastW ws n x = x ∧ ∀ w ∈ ws, w.1 ≠ (n : Int)) ∨ ∃ w ∈ ws, w.1 = (n : Int) ∧ lastW ws n x = w.2 := by
  have _z := Dim.n9
  induction ws with
  | nil => intro x; exact .inl ⟨rfl, by simp⟩
  | cons v ws ih =>
    intro x
    have e : lastW (v :: ws) n x = lastW ws n (if v.1 = (n : Int) then v.2 else x) := rfl
    rw [e]
    rcases ih (x := if v.1 = (n : Int) then v.2 else x) with ⟨h1, h2⟩ | ⟨w, hw, h1, h2⟩
    · by_cases hv : v.1 = (n : Int)
      · exact .inr ⟨v, by simp, hv, by rw [h1, if_pos hv]⟩
      · refine .inl ⟨by rw [h1, if_neg hv], fun w hw => ?_⟩
        rcases List.mem_cons.1 hw with rfl | hw
        · exact hv
        · exact h2 w hw
    · exact .inr ⟨w, by simp [hw], h1, h2⟩
theorem writeE_ok {d : DK} (h0 : d.off = false) {n : Int} {b : Bs} (h1 : d.isS n = true) (h2 : b.length = d.size) : d.writeE n b.length = if d.gone then 30 else 0 := by have _z := Dim.n9; simp [DK.writeE, h0, h1, h2]
theorem gone_cut {d : DK} (h : d.gone = false) : d.cut.off = d.off := by
  have _z := Dim.n9
  unfold DK.gone at h; unfold DK.cut
  split at h <;> simp_all
  split <;> simp_all
theorem write_ok {d : DK} (h0 : d.off = false) {n : Int} {b : Bs} (h1 : d.isS n = true) (h2 : b.length = d.size) (hg : d.gone = false) : d.write n b = { d.cut with dirty := putD d.dirty n.toNat b } := by have _z := Dim.n9; simp [DK.write, h0, h1, h2, hg]
/-- writes that all told OK -/
theorem run_writes : ∀ (ws : List (Int × Bs)) (d : DK), d.off = false → WOk d ws → (jrun (d, 0) (ws.map some)).2 = 0 →
    (jrun (d, 0) (ws.map some)).1.off = false ∧ (jrun (d, 0) (ws.map some)).1.safe = d.safe ∧ (jrun (d, 0) (ws.map some)).1.size = d.size ∧ (jrun (d, 0) (ws.map some)).1.dirty = ws.foldl (fun D w => putD D w.1.toNat w.2) d.dirty ∧ (d.arm = none → (jrun (d, 0) (ws.map some)).1.arm = none)
  | [], d, h0, _, _ => ⟨h0, rfl, rfl, rfl, fun h => h⟩
  | w :: ws, d, h0, hw, he => by
    obtain ⟨h1, h2⟩ := hw w (by simp)
    rw [List.map_cons, jrun_cons] at he ⊢
    have e1 : jstep (d, 0) (some w) = (d.write w.1 w.2, d.writeE w.1 w.2.length) := by unfold jstep; rw [if_pos rfl]
    rw [e1] at he ⊢
    cases hg : d.gone with
    | true =>
      rw [writeE_ok h0 h1 h2, hg, if_pos rfl, jrun_bad (by simp)] at he
      simp at he
    | false =>
      have e2 := write_ok h0 h1 h2 hg
      rw [writeE_ok h0 h1 h2, hg] at he ⊢
      simp only [Bool.false_eq_true, if_false] at he ⊢
      rw [e2] at he ⊢
      obtain ⟨c1, c2, c3⟩ := d.cut_same
      have ih := run_writes ws ({ d.cut with dirty := putD d.dirty w.1.toNat w.2 } : DK) (by show d.cut.off = false; rw [gone_cut hg, h0]) (fun v hv => by
        have := hw v (by simp [hv])
        exact ⟨by show (decide (0 ≤ v.1) && decide (v.1 < ((d.cut.safe.length : Nat) : Int))) = true; rw [c2]; exact this.1, by show _ = d.cut.size; rw [c1]; exact this.2⟩) he
      obtain ⟨i1, i2, i3, i4, i5⟩ := ih
      exact ⟨i1, i2.trans c2, i3.trans c1, i4, fun ha => i5 (by show d.cut.arm = none; unfold DK.cut; rw [ha]; exact ha)⟩
theorem look_fold : ∀ (ws : List (Int × Bs)) (D : Dirt) (n : Nat) (x : Bs), (∀ w ∈ ws, 0 ≤ w.1) → (lookD (ws.foldl (fun D w => putD D w.1.toNat w.2) D) n).getD x = lastW ws n ((lookD D n).getD x)
  | [], D, n, x, _ => rfl
  | w :: ws, D, n, x, h => by
    have _z := Dim.n9
    have h0 := h w (by simp)
    rw [List.foldl_cons, look_fold ws _ n x (fun v hv => h v (by simp [hv]))]
    show lastW ws n _ = lastW ws n (if w.1 = (n : Int) then w.2 else _)
    congr 1
    rw [putD_look]
    by_cases e : w.1 = (n : Int)
    · rw [if_pos e, if_pos (by omega)]; rfl
    · rw [if_neg e, if_neg (by omega)]
theorem land_get (size : Nat) : ∀ (l : Dirt) (safe : List Bs), Rise l → (∀ b ∈ safe, b.length = size) → (∀ p ∈ l, p.1 < safe.length ∧ p.2.length = size) → ∀ n, (landL safe (l.map (fun p => (p.1, p.2, size)))).getD n [] = (lookD l n).getD (safe.getD n [])
  | [], safe, _, _, _, n => rfl
  | p :: l, safe, hr, hs, hp, n => by
    have _z := Dim.n9
    obtain ⟨h1, h2⟩ := hp p (by simp)
    have hr' := List.pairwise_cons.1 hr
    have hsz : (safe.getD p.1 []).length = size := by
      simp only [List.getD, List.getElem?_eq_getElem h1, Option.getD_some]
      exact hs _ (List.getElem_mem h1)
    have hb : p.2.take size ++ (safe.getD p.1 []).drop size = p.2 := by rw [List.take_of_length_le (by omega), List.drop_of_length_le (by omega), List.append_nil]
    rw [List.map_cons]
    show (landL (safe.set p.1 (p.2.take size ++ (safe.getD p.1 []).drop size)) _).getD n [] = _
    rw [hb, land_get size l _ hr'.2 (fun b hb => by
      rcases List.mem_or_eq_of_mem_set hb with hb | rfl
      · exact hs b hb
      · exact h2) (fun q hq => by rw [List.length_set]; exact hp q (by simp [hq])), lookD_cons]
    by_cases e : (p.1 : Int) = n
    · have e' : p.1 = n := by omega
      rw [if_pos e]
      have : lookD l n = none := lookD_none.2 (fun q hq => by have := hr'.1 q hq; omega)
      rw [this]
      have hn : n < safe.length := by omega
      subst e'
      simp [List.getD, hn]
    · rw [if_neg e]
      congr 1
      simp only [List.getD]
      rw [List.getElem?_set_ne (by omega)]
/-- writes and a flush that all told OK -/
theorem run_flush {d : DK} (hg : d.Good) (h0 : d.off = false) (hd : d.dirty = []) {ws : List (Int × Bs)} (hw : WOk d ws) (he : (jrun (d, 0) (ws.map some ++ [none])).2 = 0) :
    (jrun (d, 0) (ws.map some ++ [none])).1.off = false ∧ (jrun (d, 0) (ws.map some ++ [none])).1.dirty = [] ∧ (∀ n, (jrun (d, 0) (ws.map some ++ [none])).1.safe.getD n [] = lastW ws n (d.safe.getD n [])) ∧ (jrun (d, 0) (ws.map some ++ [none])).1.Good ∧ (jrun (d, 0) (ws.map some ++ [none])).1.safe.length = d.safe.length ∧ (jrun (d, 0) (ws.map some ++ [none])).1.size = d.size := by
  rw [jrun_append] at he ⊢
  obtain ⟨s, e⟩ : ∃ s, jrun (d, 0) (ws.map some) = s := ⟨_, rfl⟩
  have hws : s.2 = 0 := by
    rw [e] at he
    by_cases h : s.2 = 0
    · exact h
    · rw [jrun_bad h] at he; exact absurd he h
  obtain ⟨r1, r2, r3, r4, _⟩ := run_writes ws d h0 hw (by rw [e]; exact hws)
  have hgd : s.1.Good := by
    rw [← e]
    clear he e hws r1 r2 r3 r4
    have : ∀ (ws : List JA) (s : DK × Int), s.1.Good → (jrun s ws).1.Good := by
      intro ws
      induction ws with
      | nil => intro s h; exact h
      | cons a l ih =>
        intro s h
        rw [jrun_cons]
        refine ih _ ?_
        unfold jstep
        split
        · cases a with
          | none => exact h.flush
          | some w => obtain ⟨n, b⟩ := w; exact h.write n b
        · exact h
    exact this _ _ hg
  rw [e] at r1 r2 r3 r4 he ⊢
  obtain ⟨s1, s2⟩ := s
  simp only at r1 r2 r3 r4 hws hgd
  subst hws
  have e2 : jrun (s1, 0) [none] = (s1.flush, s1.flushE) := by rw [jrun_cons, jrun_nil]; unfold jstep; rw [if_pos rfl]
  rw [e2] at he ⊢
  simp only at he ⊢
  have hgo : s1.gone = false := by
    cases h : s1.gone with
    | false => rfl
    | true => simp [DK.flushE, r1, h] at he
  have hfn : s1.flushN = s1.dirty.length := by
    unfold DK.flushN
    unfold DK.gone at hgo
    split <;> simp_all
  have hf : s1.flush = { s1.cut with safe := landL s1.safe (s1.dirty.map (fun p => (p.1, p.2, s1.size))), dirty := [] } := by
    unfold DK.flush
    rw [if_neg (by rw [r1]; simp), hfn, List.take_length, List.drop_length]
  have hgf := hgd.flush
  rw [hf] at hgf ⊢
  obtain ⟨c1, _, _⟩ := s1.cut_same
  refine ⟨by show s1.cut.off = false; rw [gone_cut hgo, r1], rfl, fun n => ?_, hgf, by show (landL _ _).length = _; rw [landL_len, r2], by show s1.cut.size = _; rw [c1, r3]⟩
  show (landL s1.safe (s1.dirty.map (fun p => (p.1, p.2, s1.size)))).getD n [] = _
  rw [land_get s1.size s1.dirty s1.safe hgd.rise hgd.sizes hgd.there, r4, look_fold _ _ _ _ (fun w hw' => (DK.isS_iff.1 (hw w hw').1).1), r2, hd]
  rfl
end Go.Proofs.YthabllnhlhkejaaGreatDoor
namespace Go.Proofs.YthabllnhlhkejaaGreatDoor

variable [Dim]

theorem jerr : ∀ (l : List JA) (s : DK × Int), (s.2 = 0 ∨ s.2 = 30) → (∀ n b, some (n, b) ∈ l → s.1.isS n = true ∧ b.length = s.1.size) → ((jrun s l).2 = 0 ∨ (jrun s l).2 = 30)
  | [], s, h, _ => h
  | a :: l, s, h, hw => by
    have _z := Dim.n9
    rw [jrun_cons]
    by_cases h0 : s.2 = 0
    · refine jerr l _ ?_ ?_
      · unfold jstep
        rw [if_pos h0]
        cases a with
        | none => show s.1.flushE = 0 ∨ s.1.flushE = 30; unfold DK.flushE; split <;> (try split) <;> simp
        | some w =>
          obtain ⟨n, b⟩ := w
          obtain ⟨h1, h2⟩ := hw n b (by simp)
          show s.1.writeE n b.length = 0 ∨ s.1.writeE n b.length = 30
          unfold DK.writeE
          split
          · simp
          · rw [if_neg (by rw [h1]; simp), if_neg (by omega)]; split <;> simp
      · intro n b hn
        obtain ⟨h1, h2⟩ := hw n b (by simp [hn])
        have e : (jstep s a).1.safe.length = s.1.safe.length ∧ (jstep s a).1.size = s.1.size := by
          unfold jstep
          rw [if_pos h0]
          obtain ⟨c1, c2, c3⟩ := s.1.cut_same
          cases a with
          | none =>
            show s.1.flush.safe.length = _ ∧ s.1.flush.size = _
            unfold DK.flush
            split
            · exact ⟨rfl, rfl⟩
            · exact ⟨landL_len _ _, c1⟩
          | some w =>
            obtain ⟨m, c⟩ := w
            show (s.1.write m c).safe.length = _ ∧ (s.1.write m c).size = _
            unfold DK.write
            split
            · exact ⟨rfl, rfl⟩
            · split
              · exact ⟨rfl, rfl⟩
              · split
                · exact ⟨rfl, rfl⟩
                · split
                  · exact ⟨by rw [c2], c1⟩
                  · exact ⟨by show s.1.cut.safe.length = _; rw [c2], c1⟩
        unfold DK.isS at h1 ⊢
        rw [e.1, e.2]
        exact ⟨h1, h2⟩
    · rw [jstep_bad h0, jrun_bad h0]; exact h
theorem mem_acts {ws : List (Int × Bs)} {n : Int} {b : Bs} (h : some (n, b) ∈ ws.map some ++ [none]) : (n, b) ∈ ws := by have _z := Dim.n9; simpa using h
/-- a piece: writes and a flush -/
theorem seg {A B : Nat → Bs → Prop} (hm : Mix A B) {d : DK} (h : Pr A none2 d) (h0 : d.off = false) (hd : d.dirty = []) {ws : List (Int × Bs)} (hw : WOk d ws) (hB : ∀ w ∈ ws, B w.1.toNat w.2) :
    ((jrun (d, 0) (ws.map some ++ [none])).2 = 0 ∧ (jrun (d, 0) (ws.map some ++ [none])).1.off = false ∧ (jrun (d, 0) (ws.map some ++ [none])).1.dirty = [] ∧ Pr (fun n b => A n b ∧ b = lastW ws n (d.safe.getD n [])) none2 (jrun (d, 0) (ws.map some ++ [none])).1) ∨
    ((jrun (d, 0) (ws.map some ++ [none])).2 = 30 ∧ Pr A B (jrun (d, 0) (ws.map some ++ [none])).1) := by
  have hp : Pr A B (jrun (d, 0) (ws.map some ++ [none])).1 := Pr.run hm _ _ (h.mono (fun _ _ _ x => x) (fun _ _ x => x.elim)) (fun n b hn => hB _ (mem_acts hn))
  rcases jerr (ws.map some ++ [none]) (d, 0) (.inl rfl) (fun n b hn => hw _ (mem_acts hn)) with he | he
  · obtain ⟨r1, r2, r3, r4, r5, r6⟩ := run_flush h.good h0 hd hw he
    refine .inl ⟨he, r1, r2, ⟨r4, r6.trans h.size, r5.trans h.len, fun n b hn => ⟨hp.safe n b hn, ?_⟩, fun p hp => by rw [r2] at hp; cases hp⟩⟩
    rw [← r3 n, List.getD, hn]; rfl
  · exact .inr ⟨he, hp⟩
theorem wok_of {d e : DK} {ws : List (Int × Bs)} (h : WOk d ws) (h1 : e.safe.length = d.safe.length) (h2 : e.size = d.size) : WOk e ws := by
  have _z := Dim.n9
  intro w hw
  obtain ⟨a, b⟩ := h w hw
  unfold DK.isS at a ⊢
  rw [h1, h2]
  exact ⟨a, b⟩

section
variable (l : List JW) (was : Nat → Bs)
def thnF (j : Nat) : Bs := lastW l j (was j)
structure VL : Prop where
  len : l.length ≤ 8
  all : ∀ w ∈ l, 0 ≤ w.1 ∧ w.1 + 9 < Dim.N ∧ w.2.length = Dim.Z
def notesIn (n : Nat) (b : Bs) : Prop := ∀ i w, l[i]? = some w → n = 1 + i → b = w.2
def A0 (X : Nat → Bs) (n : Nat) (b : Bs) : Prop := (n = 0 → b.getD 0 0 = 0) ∧ ∀ j, n = 9 + j → b = X j
def B0 (n : Nat) (b : Bs) : Prop := n < 9 ∧ (n = 0 → b.getD 0 0 = 0)
def A1 (n : Nat) (b : Bs) : Prop := (n = 0 → b = headB 0 l Dim.Z ∨ b = headB 1 l Dim.Z) ∧ notesIn l n b ∧ ∀ j, n = 9 + j → b = was j
def B1 (n : Nat) (b : Bs) : Prop := n = 0 ∧ b = headB 1 l Dim.Z
def A2 (n : Nat) (b : Bs) : Prop := (n = 0 → b = headB 1 l Dim.Z) ∧ notesIn l n b ∧ ∀ j : Nat, n = 9 + j → (∀ w ∈ l, w.1 ≠ (j : Int)) → b = was j
def B2 (n : Nat) (_ : Bs) : Prop := ∃ j : Nat, n = 9 + j ∧ ∃ w ∈ l, w.1 = (j : Int)
def A3 (n : Nat) (b : Bs) : Prop := (n = 0 → b = headB 0 l Dim.Z ∨ b = headB 1 l Dim.Z) ∧ notesIn l n b ∧ ∀ j, n = 9 + j → b = thnF l was j
def B3 (n : Nat) (b : Bs) : Prop := n = 0 ∧ b = headB 0 l Dim.Z
end
variable {l : List JW} {was : Nat → Bs}
theorem head_cons (l : List JW) (size : Nat) : ∃ t, ∀ f : UInt8, headB f l size = f :: t := (have _z := Dim.n9; ⟨_, fun _ => rfl⟩)
theorem mix_head {f g : UInt8} {k : Nat} : ((headB f l Dim.Z).take k ++ (headB g l Dim.Z).drop k = headB f l Dim.Z) ∨ ((headB f l Dim.Z).take k ++ (headB g l Dim.Z).drop k = headB g l Dim.Z) := by
  obtain ⟨t, ht⟩ := head_cons l Dim.Z
  rw [ht, ht]
  cases k with
  | zero => right; rfl
  | succ k => left; simp
theorem mix0 {X : Nat → Bs} : Mix (A0 X) B0 := by
  intro n s b k hk hs hb ha hB
  refine ⟨fun h0 => ?_, fun j hj => by have := hB.1; omega⟩
  have h1 := ha.1 h0
  have h2 := hB.2 h0
  cases k with
  | zero => simpa using h1
  | succ k =>
    cases b with
    | nil => have hz := Dim.z0; rw [List.length_nil] at hb; omega
    | cons c b => simpa using h2
theorem not_note {n : Nat} (h : n = 0) (b : Bs) : notesIn l n b := (have _z := Dim.n9; fun i w _ e => by omega)
theorem mix1 : Mix (A1 l was) (B1 l) := by
  intro n s b k hk hs hb ha hB
  obtain ⟨h0, rfl⟩ := hB
  refine ⟨fun _ => ?_, not_note h0 _, fun j hj => by omega⟩
  rcases ha.1 h0 with rfl | rfl
  · rcases mix_head (l := l) (f := 1) (g := 0) (k := k) with e | e
    · exact .inr e
    · exact .inl e
  · rcases mix_head (l := l) (f := 1) (g := 1) (k := k) with e | e <;> exact .inr e
theorem mix2 (hv : VL l) : Mix (A2 l was) (B2 l) := by
  intro n s b k hk hs hb ha hB
  obtain ⟨j, hj, w, hw, e⟩ := hB
  refine ⟨fun h0 => by omega, fun i w' hi h1 => ?_, fun j' hj' hn => ?_⟩
  · have := (List.getElem?_eq_some_iff.1 hi).1
    have := hv.len
    omega
  · exact absurd e (by rw [show j = j' by omega]; exact hn w hw)
theorem mix3 : Mix (A3 l was) (B3 l) := by
  intro n s b k hk hs hb ha hB
  obtain ⟨h0, rfl⟩ := hB
  refine ⟨fun _ => ?_, not_note h0 _, fun j hj => by omega⟩
  rcases ha.1 h0 with rfl | rfl
  · rcases mix_head (l := l) (f := 0) (g := 0) (k := k) with e | e <;> exact .inl e
  · rcases mix_head (l := l) (f := 0) (g := 1) (k := k) with e | e
    · exact .inl e
    · exact .inr e

def noteW (k : Nat) : List JW → List (Int × Bs)
  | [] => []
  | w :: l => ((k : Int), w.2) :: noteW (k + 1) l
theorem noteA_eq (l : List JW) : ∀ k, noteA k l = (noteW k l).map some := by
  have _z := Dim.n9
  induction l with
  | nil => intro k; rfl
  | cons w l ih => intro k; show some _ :: noteA (k + 1) l = _; rw [ih]; rfl
theorem noteW_mem {l : List JW} : ∀ {k : Nat} {v : Int × Bs}, v ∈ noteW k l → ∃ i w, l[i]? = some w ∧ v.1 = ((k + i : Nat) : Int) ∧ v.2 = w.2 := by
  have _z := Dim.n9
  induction l with
  | nil => intro k v h; cases h
  | cons w l ih =>
    intro k v h
    rcases List.mem_cons.1 h with rfl | h
    · exact ⟨0, w, rfl, rfl, rfl⟩
    · obtain ⟨i, u, h1, h2, h3⟩ := ih h
      exact ⟨i + 1, u, h1, by rw [h2]; congr 1; omega, h3⟩
theorem noteW_last {l : List JW} : ∀ {k i : Nat} {w : JW} {x : Bs}, l[i]? = some w → lastW (noteW k l) (k + i) x = w.2 := by
  induction l with
  | nil => intro k i w x h; simp at h
  | cons v l ih =>
    intro k i w x h
    show lastW (noteW (k + 1) l) (k + i) (if ((k : Nat) : Int) = ((k + i : Nat) : Int) then v.2 else x) = _
    cases i with
    | zero =>
      simp at h
      subst h
      rw [if_pos (by omega)]
      rcases lastW_mem (ws := noteW (k + 1) l) (n := k + 0) (x := v.2) with ⟨e, _⟩ | ⟨u, hu, h1, _⟩
      · exact e
      · obtain ⟨q, z, _, h2, _⟩ := noteW_mem hu
        omega
    | succ i =>
      rw [show k + (i + 1) = (k + 1) + i by omega]
      exact ih (by simpa using h)
theorem lastW_not {ws : List (Int × Bs)} {n : Nat} (h : ∀ w ∈ ws, w.1 ≠ (n : Int)) (x : Bs) : lastW ws n x = x := by
  rcases lastW_mem (ws := ws) (n := n) (x := x) with ⟨e, _⟩ | ⟨w, hw, e, _⟩
  · exact e
  · exact absurd e (h w hw)
theorem lastW_append (ws vs : List (Int × Bs)) (n : Nat) (x : Bs) : lastW (ws ++ vs) n x = lastW vs n (lastW ws n x) := by have _z := Dim.n9; simp [lastW]
theorem lastW_any {ws : List (Int × Bs)} {n : Nat} (h : ∃ w ∈ ws, w.1 = (n : Int)) : ∀ (x y : Bs), lastW ws n x = lastW ws n y := by
  have _z := Dim.n9
  induction ws with
  | nil => obtain ⟨w, hw, _⟩ := h; cases hw
  | cons v ws ih =>
    intro x y
    show lastW ws n (if v.1 = (n : Int) then v.2 else x) = lastW ws n (if v.1 = (n : Int) then v.2 else y)
    by_cases hv : v.1 = (n : Int)
    · rw [if_pos hv, if_pos hv]
    · obtain ⟨w, hw, e⟩ := h
      rcases List.mem_cons.1 hw with rfl | hw
      · exact absurd e hv
      · exact ih ⟨w, hw, e⟩ _ _
def homeW (l : List JW) : List (Int × Bs) := l.map (fun w => (9 + w.1, w.2))
theorem homeA_eq (l : List JW) : homeA l = (homeW l).map some := by have _z := Dim.n9; simp [homeA, homeW]
theorem home_last (l : List JW) (j : Nat) : ∀ x, lastW (homeW l) (9 + j) x = lastW l j x := by
  have _z := Dim.n9
  induction l with
  | nil => intro x; rfl
  | cons w l ih =>
    intro x
    show lastW (homeW l) (9 + j) (if 9 + w.1 = ((9 + j : Nat) : Int) then w.2 else x) = lastW l j (if w.1 = (j : Int) then w.2 else x)
    rw [ih]
    congr 1
    by_cases e : w.1 = (j : Int)
    · rw [if_pos e, if_pos (by omega)]
    · rw [if_neg e, if_neg (by omega)]

theorem commit_parts (l : List JW) (size : Nat) : commitA l size = ((noteW 1 l ++ [((0 : Int), headB 0 l size)]).map some ++ [none]) ++ (([((0 : Int), headB 1 l size)].map some ++ [none]) ++ (((homeW l).map some ++ [none]) ++ ([((0 : Int), headB 0 l size)].map some ++ [none]))) := by
  unfold commitA
  rw [noteA_eq, homeA_eq]
  simp
theorem getD_of {d : DK} {n : Nat} {b : Bs} (h : d.safe[n]? = some b) : d.safe.getD n [] = b := by have _z := Dim.n9; simp [List.getD, h]
theorem safe_at {d : DK} {A B : Nat → Bs → Prop} (h : Pr A B d) {n : Nat} (hn : n < Dim.N) : d.safe[n]? = some (d.safe.getD n []) := by
  have : n < d.safe.length := by rw [h.len]; exact hn
  rw [List.getD, List.getElem?_eq_getElem this]; rfl
theorem isS_of {d : DK} (h : d.safe.length = Dim.N) {n : Int} (h0 : 0 ≤ n) (h1 : n < Dim.N) : d.isS n = true := DK.isS_iff.2 ⟨h0, by rw [h]; exact h1⟩

/-- the last two pieces: the sectors' own writes, the head -/
def partsB (l : List JW) : List JA := ((homeW l).map some ++ [none]) ++ ([((0 : Int), headB 0 l Dim.Z)].map some ++ [none])
/-- a disk that is up, of which nothing is dirty -/
def Cl (A : Nat → Bs → Prop) (d : DK) : Prop := Pr A none2 d ∧ d.off = false ∧ d.dirty = []
theorem head64 (hv : VL l) (f : UInt8) : (headB f l Dim.Z).length = Dim.Z := headB_len f hv.len (by have := Dim.z0; omega)
theorem run_home (hv : VL l) {d : DK} (h : Cl (A2 l was) d) :
    ((jrun (d, 0) (partsB l)).2 = 0 ∧ Cl (A0 (thnF l was)) (jrun (d, 0) (partsB l)).1) ∨ ((jrun (d, 0) (partsB l)).2 = 30 ∧ (Pr (A2 l was) (B2 l) (jrun (d, 0) (partsB l)).1 ∨ Pr (A3 l was) (B3 l) (jrun (d, 0) (partsB l)).1)) := by
  obtain ⟨hp, h0, hd⟩ := h
  unfold partsB
  rw [jrun_append]
  have hw : WOk d (homeW l) := by
    intro w hw
    obtain ⟨v, hv', rfl⟩ := List.mem_map.1 hw
    have := hv.all v hv'
    exact ⟨isS_of hp.len (by show 0 ≤ 9 + v.1; omega) (by show 9 + v.1 < Dim.N; omega), by rw [hp.size]; exact this.2.2⟩
  have hB : ∀ w ∈ homeW l, B2 l w.1.toNat w.2 := by
    intro w hw
    obtain ⟨v, hv', rfl⟩ := List.mem_map.1 hw
    have := hv.all v hv'
    exact ⟨v.1.toNat, by show (9 + v.1).toNat = _; omega, v, hv', by omega⟩
  rcases seg (mix2 hv) hp h0 hd hw hB with ⟨e1, r1, r2, r3⟩ | ⟨e1, r3⟩
  · obtain ⟨s, es⟩ : ∃ s, jrun (d, 0) ((homeW l).map some ++ [none]) = s := ⟨_, rfl⟩
    rw [es] at e1 r1 r2 r3 ⊢
    obtain ⟨s1, s2⟩ := s
    simp only at e1 r1 r2 r3
    subst e1
    have h3 : Pr (A3 l was) none2 s1 := r3.mono (fun n b _ ⟨a, e⟩ => ⟨fun hn => .inr (a.1 hn), a.2.1, fun j hj => by
      subst hj
      rw [e, home_last]
      by_cases hm : ∃ w ∈ l, w.1 = (j : Int)
      · exact lastW_any hm _ _
      · have hm' : ∀ w ∈ l, w.1 ≠ (j : Int) := fun w hw e => hm ⟨w, hw, e⟩
        have hb : b = was j := a.2.2 j rfl hm'
        unfold thnF
        rw [lastW_not hm', lastW_not hm', ← hb, e, home_last, lastW_not hm']⟩) (fun _ _ x => x)
    have hw2 : WOk s1 [((0 : Int), headB 0 l Dim.Z)] := by
      intro w hw
      simp at hw
      subst hw
      exact ⟨isS_of h3.len (by simp) (by have := Dim.n9; simp; omega), by rw [h3.size]; exact head64 hv 0⟩
    rcases seg (mix3 (l := l) (was := was)) h3 r1 r2 hw2 (fun w hw => by simp at hw; subst hw; exact ⟨rfl, rfl⟩) with ⟨f1, g1, g2, g3⟩ | ⟨f1, g3⟩
    · refine .inl ⟨f1, ⟨g3.mono (fun n b _ ⟨a, e⟩ => ⟨fun hn => ?_, fun j hj => a.2.2 j hj⟩) (fun _ _ x => x), g1, g2⟩⟩
      subst hn
      have : lastW [((0 : Int), headB 0 l Dim.Z)] 0 (s1.safe.getD 0 []) = headB 0 l Dim.Z := by simp [lastW]
      rw [e, this]; rfl
    · exact .inr ⟨f1, .inr g3⟩
  · rw [jrun_bad (by rw [e1]; omega)]
    exact .inr ⟨e1, .inl r3⟩
/-- a Commit that may be -/
theorem run_commit (hv : VL l) {d : DK} (h : Cl (A0 was) d) :
    ((jrun (d, 0) (commitA l Dim.Z)).2 = 0 ∧ Cl (A0 (thnF l was)) (jrun (d, 0) (commitA l Dim.Z)).1) ∨
    ((jrun (d, 0) (commitA l Dim.Z)).2 = 30 ∧ (Pr (A0 was) B0 (jrun (d, 0) (commitA l Dim.Z)).1 ∨ Pr (A1 l was) (B1 l) (jrun (d, 0) (commitA l Dim.Z)).1 ∨ Pr (A2 l was) (B2 l) (jrun (d, 0) (commitA l Dim.Z)).1 ∨ Pr (A3 l was) (B3 l) (jrun (d, 0) (commitA l Dim.Z)).1)) := by
  obtain ⟨hp, h0, hd⟩ := h
  rw [commit_parts, jrun_append]
  have hl8 := hv.len
  have hw : WOk d (noteW 1 l ++ [((0 : Int), headB 0 l Dim.Z)]) := by
    intro w hw
    rcases List.mem_append.1 hw with hw | hw
    · obtain ⟨i, v, hi, e1, e2⟩ := noteW_mem hw
      have hlt := (List.getElem?_eq_some_iff.1 hi).1
      exact ⟨isS_of hp.len (by omega) (by have := Dim.n9; omega), by rw [hp.size, e2]; exact (hv.all v (List.mem_of_getElem? hi)).2.2⟩
    · simp at hw
      subst hw
      exact ⟨isS_of hp.len (by simp) (by have := Dim.n9; simp; omega), by rw [hp.size]; exact head64 hv 0⟩
  have hB : ∀ w ∈ noteW 1 l ++ [((0 : Int), headB 0 l Dim.Z)], B0 w.1.toNat w.2 := by
    intro w hw
    rcases List.mem_append.1 hw with hw | hw
    · obtain ⟨i, v, hi, e1, e2⟩ := noteW_mem hw
      have hlt := (List.getElem?_eq_some_iff.1 hi).1
      exact ⟨by omega, fun h => by omega⟩
    · simp at hw
      subst hw
      exact ⟨by simp, fun _ => rfl⟩
  rcases seg (mix0 (X := was)) hp h0 hd hw hB with ⟨e1, r1, r2, r3⟩ | ⟨e1, r3⟩
  · obtain ⟨s, es⟩ : ∃ s, jrun (d, 0) ((noteW 1 l ++ [((0 : Int), headB 0 l Dim.Z)]).map some ++ [none]) = s := ⟨_, rfl⟩
    rw [es] at e1 r1 r2 r3 ⊢
    obtain ⟨s1, s2⟩ := s
    simp only at e1 r1 r2 r3
    subst e1
    have h1 : Pr (A1 l was) none2 s1 := r3.mono (fun n b _ ⟨a, e⟩ => ⟨fun hn => .inl (by subst hn; rw [e, lastW_append]; simp [lastW]), fun i w hi hn => by
      subst hn
      rw [e, lastW_append, noteW_last hi]
      exact lastW_not (by intro w hw; simp at hw; subst hw; simp; omega) _, fun j hj => a.2 j hj⟩) (fun _ _ x => x)
    rw [jrun_append]
    have hw2 : WOk s1 [((0 : Int), headB 1 l Dim.Z)] := by
      intro w hw
      simp at hw
      subst hw
      exact ⟨isS_of h1.len (by simp) (by have := Dim.n9; simp; omega), by rw [h1.size]; exact head64 hv 1⟩
    rcases seg (mix1 (l := l) (was := was)) h1 r1 r2 hw2 (fun w hw => by simp at hw; subst hw; exact ⟨rfl, rfl⟩) with ⟨f1, g1, g2, g3⟩ | ⟨f1, g3⟩
    · obtain ⟨t, et⟩ : ∃ t, jrun (s1, 0) ([((0 : Int), headB 1 l Dim.Z)].map some ++ [none]) = t := ⟨_, rfl⟩
      rw [et] at f1 g1 g2 g3 ⊢
      obtain ⟨t1, t2⟩ := t
      simp only at f1 g1 g2 g3
      subst f1
      have h2 : Cl (A2 l was) t1 := ⟨g3.mono (fun n b _ ⟨a, e⟩ => ⟨fun hn => by subst hn; rw [e]; simp [lastW], a.2.1, fun j hj _ => a.2.2 j hj⟩) (fun _ _ x => x), g1, g2⟩
      rcases run_home hv h2 with h | ⟨h, h'⟩
      · exact .inl h
      · exact .inr ⟨h, .inr (.inr h')⟩
    · rw [jrun_bad (by rw [f1]; omega)]
      exact .inr ⟨f1, .inr (.inl g3)⟩
  · rw [jrun_bad (by rw [e1]; omega)]
    exact .inr ⟨e1, .inl r3⟩
end Go.Proofs.YthabllnhlhkejaaGreatDoor
