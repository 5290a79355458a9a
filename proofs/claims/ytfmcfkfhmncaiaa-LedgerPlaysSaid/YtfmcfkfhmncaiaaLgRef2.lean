/-
  THE DOCUMENT's LEDGER: Approve whole, Restore.
-/
import Derived.Test.YtfmcfkfhmncaiaaLgRef
namespace Go.Proofs.Ytfmcfkfhmncaiaa
open Go.RowKit

set_option maxHeartbeats 1000000 in
theorem rapprove_no {w : World} {l : Nat} {ps : List Post} {F : Nat → Prop} (h : RefAt w l ps F) (hg : Good ps) (key : ByteArray) (amount : Int) (answer : ByteArray) (hE : addE ps ⟨key, amount, 1, answer⟩ ≠ 0) :
    Calls Try.prog 21 #[.pointer (some ⟨l, 0, none⟩), .string key, .int .i64 amount, .string answer] w fun e w' => e = .returned (.int .i64 (addE ps ⟨key, amount, 1, answer⟩)) ∧ Fr noBlock w w' := by
  have hs0 := sumA_nonneg hg.may
  have hs1 := hg.total
  have hct : Post.counts ⟨key, amount, 1, answer⟩ = amount := by simp [Post.counts]
  obtain ⟨vo, cap, c0, f0, hl, hp, hd⟩ := h.open
  have hfr := fun (W : World) (hf : Fr noBlock w W) => at_any (h.fr hf (fun _ _ x => x)) hg.len key
  have htr := fun (W : World) (hf : Fr noBlock w W) => rtotal_any (h.fr hf (fun _ _ x => x)) hg.may hg.len
  have Htr := Lib.hid htr
  unfold addE at hE ⊢
  rw [hct] at hE ⊢
  simp only at hE ⊢
  clear hct htr hp hd h
  by_cases hm : Post.may ⟨key, amount, 1, answer⟩ = false
  · rw [if_pos hm]
    have Hmay := Lib.hid hm
    clear hm hE hfr
    go_enter Try.func21, Try.ntmps21
    go_wp2_with fail
    refine (rmay_raw key answer amount 1 false Hmay.out _).mono ?_
    rintro e w' ⟨rfl, rfl⟩
    go_wp2_with fail
    go_ret
    exact ⟨rfl, ((Fr.refl _ _).alloc _).alloc _⟩
  · rw [if_neg hm] at hE ⊢
    have hm' : Post.may ⟨key, amount, 1, answer⟩ = true := by simpa using hm
    obtain ⟨ha0, ha1⟩ := counts_mk' hm'
    have Hmay := Lib.hid hm'
    clear hm hm'
    cases hpos : posOf ps key with
    | some x =>
      obtain ⟨k, hk, rfl, _⟩ := posOf_some hpos
      rw [hpos] at hfr
      simp only [Option.getD_some] at hfr
      have Hat := Lib.hid hfr
      have hk0 : (0 : Int) ≤ (k : Int) := by omega
      rw [if_pos (by rfl)]
      clear hE hfr hpos
      go_enter Try.func21, Try.ntmps21
      go_wp2_with fail
      refine (rmay_raw key answer amount 1 true Hmay.out _).mono ?_
      rintro e w' ⟨rfl, rfl⟩
      go_wp2_with fail
      refine (Hat.out _ (((Fr.refl _ _).alloc _).alloc _)).mono ?_
      rintro e w' ⟨rfl, rfl⟩
      go_wp2_with fail
      go_ret
      exact ⟨rfl, ((Fr.refl _ _).alloc _).alloc _⟩
    | none =>
      rw [hpos] at hfr hE
      simp only [Option.getD_none] at hfr
      rw [if_neg (by simp)] at hE ⊢
      have Hat := Lib.hid hfr
      clear hfr hpos
      by_cases h24 : 24 ≤ ps.length
      · rw [if_pos h24]
        have h24' : (24 : Int) ≤ (ps.length : Int) := by omega
        clear hE h24
        go_enter Try.func21, Try.ntmps21
        go_wp2_with fail
        refine (rmay_raw key answer amount 1 true Hmay.out _).mono ?_
        rintro e w' ⟨rfl, rfl⟩
        go_wp2_with fail
        refine (Hat.out _ (((Fr.refl _ _).alloc _).alloc _)).mono ?_
        rintro e w' ⟨rfl, rfl⟩
        go_wp2_with fail
        go_ret
        exact ⟨rfl, ((Fr.refl _ _).alloc _).alloc _⟩
      · rw [if_neg h24] at hE ⊢
        by_cases ht : 5000000000000 - sumA ps < amount
        · rw [if_pos ht]
          have h24' : (ps.length : Int) < 24 := by omega
          have ht' : 5000000000000 < sumA ps + amount := by omega
          clear hE h24 ht
          go_enter Try.func21, Try.ntmps21
          go_wp2_with fail
          refine (rmay_raw key answer amount 1 true Hmay.out _).mono ?_
          rintro e w' ⟨rfl, rfl⟩
          go_wp2_with fail
          refine (Hat.out _ (((Fr.refl _ _).alloc _).alloc _)).mono ?_
          rintro e w' ⟨rfl, rfl⟩
          go_wp2_with fail
          refine (Htr.out _ (((Fr.refl _ _).alloc _).alloc _)).mono ?_
          rintro e w' ⟨rfl, rfl⟩
          go_wp2_with fail
          go_ret
          exact ⟨rfl, ((Fr.refl _ _).alloc _).alloc _⟩
        · rw [if_neg ht] at hE
          exact absurd rfl hE

theorem rapprove_at {w : World} {l : Nat} {ps : List Post} {F : Nat → Prop} (h : RefAt w l ps F) (hg : Good ps) (key : ByteArray) (amount : Int) (answer : ByteArray) :
    Calls Try.prog 21 #[.pointer (some ⟨l, 0, none⟩), .string key, .int .i64 amount, .string answer] w fun e w' => ∃ F', RefAt w' l (addL ps ⟨key, amount, 1, answer⟩) F' ∧ e = .returned (.int .i64 (addE ps ⟨key, amount, 1, answer⟩)) ∧ Step F F' w w' := by
  by_cases hE : addE ps ⟨key, amount, 1, answer⟩ = 0
  · refine (rapprove_ok h hg key amount answer hE).mono ?_
    rintro e w' ⟨F', h1, h2, h3⟩
    exact ⟨F', by rw [addL_zero hE]; exact h1, by rw [h2, hE], h3⟩
  · refine (rapprove_no h hg key amount answer hE).mono ?_
    rintro e w' ⟨h1, h2⟩
    exact ⟨F, by rw [addL_no hE]; exact h.fr h2 (fun _ _ x => x), h1, ⟨h2.mono (fun _ x => x.elim), fun k hk => .inl hk⟩⟩

/-- posts that the document's Restore takes one by one -/
structure Fine (ps : List Post) : Prop where
  may : ∀ p ∈ ps, p.may = true
  keys : (ps.map Post.key).Nodup
  len : ps.length ≤ 24
theorem fine_snoc {ps : List Post} {p : Post} (h : Fine ps) (hm : p.may = true) (hn : posOf ps p.key = none) (hl : ps.length < 24) : Fine (ps ++ [p]) := by
  refine ⟨?_, ?_, by simp; omega⟩
  · intro q hq
    rcases List.mem_append.1 hq with hq | hq
    · exact h.may q hq
    · simp at hq; subst hq; exact hm
  · rw [posOf_none] at hn
    rw [List.map_append, List.nodup_append]
    refine ⟨h.keys, by simp, ?_⟩
    intro a ha b hb
    simp at hb
    subst hb
    obtain ⟨q, hq, rfl⟩ := List.mem_map.1 ha
    exact hn q hq

theorem fine_take {ps : List Post} (h : Good ps) : Fine ps := ⟨h.may, h.keys, h.len⟩
theorem fine_of {ps : List Post} {k : Nat} (h : Good ps) (hk : k < ps.length) : ps[k].may = true ∧ posOf (ps.take k) ps[k].key = none := by
  have hg := good_take h (k + 1)
  rw [List.take_succ_eq_append_getElem hk] at hg
  have := addE_zero (add_of_good hg)
  exact ⟨this.1, this.2.1⟩

def RRestored (w w' : World) (ps : List Post) (e : Ending) : Prop :=
  Fr noBlock w w' ∧ ((Good ps ∧ ∃ l F, e = .returned (.tuple #[.pointer (some ⟨l, 0, none⟩), .int .i64 0]) ∧ RefAt w' l ps F ∧ ∀ k, F k → w.heap.size ≤ k) ∨ (¬ Good ps ∧ e = .returned (.tuple #[.pointer none, .int .i64 1])))

theorem Ref.own {w : World} {l : Nat} {ps : List Post} {vo : Option Addr} {cap : Nat} (hp : PostsAt w (.slice vo ps.length cap) ps) (hd : ∀ g, vo = some ⟨g, 0, none⟩ → g ≠ l) : (Value.slice vo ps.length cap).ownBlock ≠ some l := by
  intro e
  cases vo with
  | none => simp [Value.ownBlock] at e
  | some a =>
    simp only [Value.ownBlock, Option.some.injEq] at e
    rcases hp.2 with ⟨h1, _⟩ | ⟨g, c2, cur, h1, _⟩
    · simp at h1
    · simp only [Value.slice.injEq, Option.some.injEq] at h1
      exact hd g (by rw [h1.1]) (by rw [← e, h1.1])

set_option maxHeartbeats 2000000 in
theorem rrestore_any (ao : Option Addr) (cap : Nat) (ps : List Post) (w : World) (ha : PostsRd w ao ps) :
    Calls Try.prog 19 #[.slice ao ps.length cap] w fun e w' => RRestored w w' ps e := by
  have hl1 := ha.len
  unfold maxLen at hl1
  by_cases h24 : 24 < ps.length
  · have h24' : (24 : Int) < (ps.length : Int) := by omega
    have hng : ¬ Good ps := fun hg => by have := hg.len; omega
    have Hng := Lib.hid hng
    clear h24 hng ha
    go_enter Try.func19, Try.ntmps19
    go_wp2_with fail
    go_ret2
    exact ⟨(Fr.refl _ _).alloc _, .inr ⟨Hng.out, rfl⟩⟩
  · have h24' : (ps.length : Int) ≤ 24 := by omega
    obtain ⟨i0, hi0, hz0, hz1, hz2⟩ := info_parts info_post
    clear h24
    have hr0 : RefAt (w.alloc (.cells #[.slice none 0 0] 61)) w.heap.size [] (⟨w.heap.size, .slice none 0 0, []⟩ : Ref).foot :=
      ⟨⟨w.heap.size, .slice none 0 0, []⟩, ⟨heap_new w _, World.ownsRow_nil _ _ _ _, by simp [Value.ownBlock]⟩, rfl, rfl, fun _ => Iff.rfl⟩
    have hn0 : ∀ k, (⟨w.heap.size, .slice none 0 0, []⟩ : Ref).foot k → w.heap.size ≤ k := by
      rintro k (rfl | h)
      · exact Nat.le_refl _
      · simp [Value.ownBlock] at h
    obtain ⟨F0, hF0⟩ : ∃ F0, F0 = (⟨w.heap.size, .slice none 0 0, []⟩ : Ref).foot := ⟨_, rfl⟩
    rw [← hF0] at hr0 hn0
    clear hF0
    go_enter Try.func19, Try.ntmps19
    go_wp2_with fail
    go_loopw [5] (fun s5 wr => ∃ (k : Nat) (F : Nat → Prop), k ≤ ps.length ∧ s5 = .int .i64 k ∧ RefAt wr w.heap.size (ps.take k) F ∧ Fine (ps.take k) ∧ Fr noBlock w wr ∧ ∀ i, F i → w.heap.size ≤ i) (fun s5 _ => ps.length - (intOf s5).toNat)
    case atStart => exact ⟨0, F0, Nat.zero_le _, rfl, by simpa using hr0, ⟨by simp, by simp, by simp⟩, (Fr.refl _ _).alloc _, hn0⟩
    case round =>
      clear hr0 hn0
      obtain ⟨k, F, hk, rfl, hR, hfine, hf, hF⟩ := hrel
      by_cases hlt : k < ps.length
      · obtain ⟨b1, o1, rfl, hb1, ⟨p0, p1, p2, p3⟩, hks⟩ := (ha.fr hf (fun _ _ _ x => x)).at' k hlt
        have h1' : (k : Int) < (ps.length : Int) := by omega
        have htk := List.take_succ_eq_append_getElem hlt
        have hkl : (ps.take k).length = k := by simp; omega
        have hfo := fun hg : Good ps => fine_of hg hlt
        have hsn : ps[k].may = true → posOf (ps.take k) ps[k].key = none → Fine (ps.take k ++ [ps[k]]) := fun hm hn => fine_snoc hfine hm hn (by rw [hkl]; omega)
        rw [← htk] at hsn
        have hat := fun (W : World) (hw : Fr noBlock wr W) => at_any (hR.fr hw (fun _ _ x => x)) hfine.len ps[k].key
        have HR := Lib.hid hR
        obtain ⟨vo, vc, c0, f0, hll, hp, hd⟩ := hR.open
        have ag := Ref.own hp hd
        have Hat := Lib.hid hat
        have Hng : Hid (ps[k].may = false ∨ (posOf (ps.take k) ps[k].key).isSome = true → ¬ Good ps) := Lib.hid (fun hor hg => by
          obtain ⟨a, b⟩ := hfo hg
          rcases hor with h | h
          · rw [a] at h; cases h
          · rw [b] at h; cases h)
        clear hat hfo hd
        by_cases hm : ps[k].may = false
        · have Hn := Lib.hid (Hng.out (.inl hm))
          have hrm := fun (W : World) => rmay_raw ps[k].key ps[k].answer ps[k].amount ps[k].state false hm W
          have Hrm := Lib.hid hrm
          clear hm hrm hsn htk hfine hR hp Hng Hat
          generalize ps[k] = p at *
          go_wp2_with fail
          refine (Hrm.out _).mono ?_
          rintro e w' ⟨rfl, rfl⟩
          go_wp2_with fail
          go_ret2
          exact ⟨hf.alloc _, .inr ⟨Hn.out, rfl⟩⟩
        · have hm' : ps[k].may = true := by simpa using hm
          have hrm := fun (W : World) => rmay_raw ps[k].key ps[k].answer ps[k].amount ps[k].state true hm' W
          have Hrm := Lib.hid hrm
          clear hm hrm
          have hq0 : ∀ o : Obj, (wr.alloc o).cell? ⟨b1, o1 + k * 4, none⟩ = some (.string ps[k].key) := fun o => (World.cell?_alloc_lt _ _ _ hb1).trans p0
          have hq1 : ∀ o : Obj, (wr.alloc o).cell? ⟨b1, o1 + k * 4 + 1, none⟩ = some (.int .i64 ps[k].amount) := fun o => (World.cell?_alloc_lt _ _ _ hb1).trans p1
          have hq2 : ∀ o : Obj, (wr.alloc o).cell? ⟨b1, o1 + k * 4 + 2, none⟩ = some (.int .i64 ps[k].state) := fun o => (World.cell?_alloc_lt _ _ _ hb1).trans p2
          have hq3 : ∀ o : Obj, (wr.alloc o).cell? ⟨b1, o1 + k * 4 + 3, none⟩ = some (.string ps[k].answer) := fun o => (World.cell?_alloc_lt _ _ _ hb1).trans p3
          have HQ := Lib.hid (And.intro hq0 (And.intro hq1 (And.intro hq2 hq3)))
          clear hq0 hq1 hq2 hq3
          cases hpos : posOf (ps.take k) ps[k].key with
          | some x =>
            obtain ⟨j, hj, rfl, _⟩ := posOf_some hpos
            have Hn := Lib.hid (Hng.out (.inr (by rw [hpos]; rfl)))
            rw [hpos] at Hat
            simp only [Option.getD_some] at Hat
            have hj0 : (0 : Int) ≤ (j : Int) := by omega
            clear hsn htk hfine hR hp Hng hpos HQ
            generalize ps[k] = p at *
            go_wp2_with fail
            refine (Hrm.out _).mono ?_
            rintro e w' ⟨rfl, rfl⟩
            go_wp2_with fail
            refine (Hat.out _ ((Fr.refl _ _).alloc _)).mono ?_
            rintro e w' ⟨rfl, rfl⟩
            go_wp2_with fail
            go_ret2
            exact ⟨hf.alloc _, .inr ⟨Hn.out, rfl⟩⟩
          | none =>
            have Hfn := Lib.hid (hsn hm' hpos)
            rw [hpos] at Hat
            simp only [Option.getD_none] at Hat
            have Hrow := Lib.hid hp
            have Htk := Lib.hid htk
            have Hkl := Lib.hid hkl
            have C0 := Lib.hid c0
            clear hsn htk hfine hR hp Hng hpos hm' hkl
            have kf := f0
            generalize hqq : ps.take k = qs at *
            have Hqq := Lib.hid hqq
            clear hqq
            generalize hpp : ps[k] = p at *
            have Hpp := Lib.hid hpp
            clear hpp
            have hqk : (qs.length : Int) = (k : Int) := by have := Hkl.out; omega
            have hql : (qs.length : Int) < 24 := by omega
            clear hqk
            go_wp2_with fail
            refine (Hrm.out _).mono ?_
            rintro e w' ⟨rfl, rfl⟩
            go_wp2_with fail
            refine (Hat.out _ ((Fr.refl _ _).alloc _)).mono ?_
            rintro e w' ⟨rfl, rfl⟩
            go_wp2_with fail
            refine wp_at (fun W => Fr noBlock wr W) ((Fr.refl _ _).alloc _) ?_
            intro W hF
            have k0 := (hF.cell (p := ⟨w.heap.size, 0, none⟩) hll (fun x => x)).trans c0
            have kf' := (hF.frozen (p := ⟨w.heap.size, 0, none⟩) hll (fun x => x)).trans f0
            have y0 := (hF.cell (p := ⟨b1, o1 + k * 4, none⟩) hb1 (fun x => x)).trans p0
            have y1 := (hF.cell (p := ⟨b1, o1 + k * 4 + 1, none⟩) hb1 (fun x => x)).trans p1
            have y2 := (hF.cell (p := ⟨b1, o1 + k * 4 + 2, none⟩) hb1 (fun x => x)).trans p2
            have y3 := (hF.cell (p := ⟨b1, o1 + k * 4 + 3, none⟩) hb1 (fun x => x)).trans p3
            have hlW := Nat.lt_of_lt_of_le hll hF.size
            have hbW := Nat.lt_of_lt_of_le hb1 hF.size
            have row1 := ownsRow_fr Hrow.out hF (fun _ _ x => x)
            have Hr1 := Lib.hid row1
            have HFd := Lib.hid (fun o : Obj => (hF.alloc o).drew)
            clear c0 f0 kf hF row1 p0 p1 p2 p3 HQ
            go_region_law
                ((refine step_append_lies _ (by rfl) _ _ _ (by rfl) 0 34 i0 _ 4 48 Try.underlying39 hi0 hz0 hz1 hz2 rfl (by omega) (.slice vo qs.length vc) qs.length (qs.flatMap Post.cells) (by rfl) ((Hr1.out.alloc _).drew)
                    ⟨W.heap.size, 0, none⟩ 1 1 [.string p.key, .int .i64 p.amount, .int .i64 p.state, .string p.answer] (by rfl) (by rfl) (World.news_of_block (cs := #[.string p.key, .int .i64 p.amount, .int .i64 p.state, .string p.answer]) (t := 34) (fr := (0, 0)) (heap_alloc_new W _)) (by simp [Value.oneCell'])
                    (by omega) (by unfold maxLen; omega) (by omega) (by simp) (W.heap.size + 1) (by simp) ?_; intro gg cap2 w2 hown2 hgrow2 hat hlt
                  have hob : w2.cell? ⟨w.heap.size, 0, none⟩ = some (.slice vo qs.length vc) := (hgrow2.cell_far _ (by simp; omega) (Ne.symm ag)).trans ((World.cell?_alloc_lt _ _ _ hlW).trans k0)
                  have hof : w2.frozen? ⟨w.heap.size, 0, none⟩ = false := (hgrow2.frozen_far _ (by simp; omega) (Ne.symm ag)).trans ((World.frozen?_alloc_past _ _ _ hlW).trans kf')))
            all_goals
              obtain ⟨F', r1, r2⟩ := rapp_close HR.out p C0.out (HFd.out _) hgrow2 rfl hown2 (by simpa using hat)
              obtain ⟨f1, f2⟩ := fr_new hf hF r2
              rw [← Htk.out] at r1
              have Hr := Lib.hid r1
              clear r1 r2 hgrow2 hown2 hob hof
              go_wp2_with fail
              go_roundw
              case rel => exact ⟨k + 1, F', by omega, by go_num, Hr.out, Hfn.out, f1, f2⟩
              case measure => simp [intOf]; omega
      · have h1' : (ps.length : Int) ≤ (k : Int) := by omega
        rw [List.take_of_length_le (by omega)] at hR hfine
        have ht := rtotal_any hR hfine.may hfine.len
        have Ht := Lib.hid ht
        by_cases hT : 5000000000000 < sumA ps
        · have hng : ¬ Good ps := fun hg => by have := hg.total; omega
          have Hng := Lib.hid hng
          clear hng ht hlt
          go_wp2_with fail
          refine Ht.out.mono ?_
          rintro e w' ⟨rfl, rfl⟩
          go_wp2_with fail
          go_ret2
          exact ⟨hf, .inr ⟨Hng.out, rfl⟩⟩
        · have hT' : sumA ps ≤ 5000000000000 := by omega
          have Hg : Hid (Good ps) := Lib.hid ⟨hfine.may, hfine.keys, hfine.len, hT'⟩
          clear hT ht hlt
          go_wp2_with fail
          refine Ht.out.mono ?_
          rintro e w' ⟨rfl, rfl⟩
          go_wp2_with fail
          go_ret2
          exact ⟨hf, .inl ⟨Hg.out, _, F, rfl, hR, hF⟩⟩
end Go.Proofs.Ytfmcfkfhmncaiaa
