/-
  THE LAWS' OWN FUNCTIONS: small, begins, made.
-/
import Derived.Test.YtpdkilfncflngaaRtList
import Derived.Test.YtpdkilfncflngaaRtFind
import Derived.StillTailTactics
namespace Go.Proofs.Ytpdkilfncflngaa
open Go.RowKit

structure LAct where
  op : Int
  n : Int
  s : ByteArray
instance : Inhabited LAct := ⟨⟨0, 0, .empty⟩⟩
def LAct.cells (a : LAct) : List Value := [.int .i64 a.op, .int .i64 a.n, .string a.s]
def ActR : Rec LAct := ⟨3, LAct.cells, fun _ => rfl, fun u v hv => by simp [LAct.cells] at hv; rcases hv with rfl | rfl | rfl <;> rfl⟩
def actL (rs : List Route) (a : LAct) : List Route := if a.op = 0 then putR rs a.s a.n else if a.op = 1 then dropR rs a.s else rs
def madeL (xs : List LAct) : List Route := (xs.take 100).foldl actL []
theorem GoodR.act {rs : List Route} (h : GoodR rs) (a : LAct) : GoodR (actL rs a) := by
  unfold actL; split
  · exact h.put _ _
  · split
    · exact h.drop _
    · exact h
theorem act_cells {w : World} {ao : Option Addr} {xs : List LAct} (h : RowRd ActR w ao xs) {i : Nat} (hi : i < xs.length) :
    ∃ b off, ao = some ⟨b, off, none⟩ ∧ b < w.heap.size ∧ w.cell? ⟨b, off + i * 3, none⟩ = some (.int .i64 xs[i].op) ∧ w.cell? ⟨b, off + i * 3 + 1, none⟩ = some (.int .i64 xs[i].n) ∧ w.cell? ⟨b, off + i * 3 + 2, none⟩ = some (.string xs[i].s) := by
  obtain ⟨b, off, h1, h2, h3⟩ := h.at' i hi
  exact ⟨b, off, h1, h2, h3 0 _ rfl, h3 1 _ rfl, h3 2 _ rfl⟩

def sA : ByteArray := ⟨#[52]⟩
def sB : ByteArray := ⟨#[52, 49, 49, 49]⟩
def rA : List Route := [⟨⟨#[52]⟩, 1⟩]
def rB : List Route := [⟨⟨#[52]⟩, 1⟩, ⟨⟨#[52, 49, 49, 49]⟩, 2⟩]
theorem e1 : putE [] ⟨#[52]⟩ 1 = 0 := by kernel_rfl
theorem e2 : putR [] ⟨#[52]⟩ 1 = rA := by kernel_rfl
theorem e3 : putE rA ⟨#[52, 49, 49, 49]⟩ 2 = 0 := by kernel_rfl
theorem e4 : putR rA ⟨#[52, 49, 49, 49]⟩ 2 = rB := by kernel_rfl
theorem e5 : findR rB ⟨#[52, 49, 49, 49, 49]⟩ = some 2 := by kernel_rfl
theorem e6 : findR rB ⟨#[52, 50]⟩ = some 1 := by kernel_rfl
theorem e7 : findR rB ⟨#[53]⟩ = none := by kernel_rfl

set_option maxRecDepth 100000 in
set_option maxHeartbeats 800000 in
theorem small_any (w : World) : Calls Try.prog 8 #[] w fun e w' => e = .returned (.bool true) ∧ Fr noBlock w w' := by
  have hk : ∀ n : Nat, n ≤ 10 → n ≤ maxLen := fun n h => by unfold maxLen; omega
  have Hk := Lib.hid hk
  clear hk
  go_enter Try.func8, Try.ntmps8
  go_wp2_with fail
  refine (new_any _).mono ?_
  rintro e w1 ⟨l, F1, rfl, h1, f1, n1⟩
  have M1 := Lib.hid (Mine.new (Below.refl _ _) f1 h1 n1)
  clear f1 n1 h1
  go_wp2_with fail
  refine (put_any M1.out.it ⟨#[52]⟩ 1 (Hk.out _ (by decide)) e1 e2).mono ?_
  rintro e w2 ⟨F2, rfl, h2, s2⟩
  have M2 := Lib.hid (M1.out.step h2 s2)
  clear h2 s2
  go_wp2_with fail
  refine (put_any M2.out.it ⟨#[52, 49, 49, 49]⟩ 2 (Hk.out _ (by decide)) e3 e4).mono ?_
  rintro e w3 ⟨F3, rfl, h3, s3⟩
  have M3 := Lib.hid (M2.out.step h3 s3)
  clear h3 s3
  go_wp2_with fail
  refine (find_any M3.out.it ⟨#[52, 49, 49, 49, 49]⟩ (Hk.out _ (by decide))).mono ?_
  rintro e w4 ⟨rfl, f4⟩
  have M4 := Lib.hid (M3.out.fr TableAt.ok f4)
  clear f4
  rw [e5]
  go_wp2_with fail
  refine (find_any M4.out.it ⟨#[52, 50]⟩ (Hk.out _ (by decide))).mono ?_
  rintro e w5 ⟨rfl, f5⟩
  have M5 := Lib.hid (M4.out.fr TableAt.ok f5)
  clear f5
  rw [e6]
  go_wp2_with fail
  refine (find_any M5.out.it ⟨#[53]⟩ (Hk.out _ (by decide))).mono ?_
  rintro e w6 ⟨rfl, f6⟩
  have M6 := Lib.hid (M5.out.fr TableAt.ok f6)
  clear f6
  rw [e7]
  go_wp2_with fail
  refine (list_any M6.out.it).mono ?_
  rintro e w7 ⟨v, rfl, r7, f7, _⟩
  obtain ⟨sa, sc, rfl, _, _, _, _⟩ := r7.shape
  have M7 := Lib.hid (M6.out.fr TableAt.ok f7)
  clear f7 r7
  rw [show rB.length = 2 from rfl]
  go_wp2_with fail
  go_ret
  exact ⟨rfl, Fr.of_below M7.out.below⟩

def begB (s p : ByteArray) : Bool := decide (p.size ≤ s.size) && decide (headS s p.size = p)
theorem begins_any (s p : ByteArray) (w : World) :
    Calls Try.prog 20 #[.string s, .string p] w fun e w' => e = .returned (.bool (begB s p)) ∧ Fr noBlock w w' := by
  by_cases h : p.size ≤ s.size
  · have h1 : (p.size : Int) ≤ (s.size : Int) := by omega
    have h0 : (0 : Int) ≤ (p.size : Int) := by omega
    go_enter Try.func20, Try.ntmps20
    go_wp2
    go_ret
    refine ⟨ret_bool ?_, Fr.refl _ _⟩
    unfold begB headS
    rw [Bool.eq_iff_iff]
    simp only [h, decide_true, Bool.true_and, decide_eq_true_eq, beq_iff_eq]
    exact ⟨fun q => toList_inj' q, fun q => by rw [q]⟩
  · have h1 : (s.size : Int) < (p.size : Int) := by omega
    go_enter Try.func20, Try.ntmps20
    go_wp2
    go_ret
    exact ⟨ret_bool (by unfold begB; simp [h]), Fr.refl _ _⟩

theorem take_act {xs : List LAct} {i : Nat} (h : i < xs.length) : (xs.take (i + 1)).foldl actL [] = actL ((xs.take i).foldl actL []) xs[i] := by
  rw [List.take_succ_eq_append_getElem h, List.foldl_append]; rfl

set_option maxRecDepth 100000 in
set_option maxHeartbeats 1000000 in
theorem made_any (ao : Option Addr) (cap : Nat) (xs : List LAct) (w : World) (hx : RowRd ActR w ao xs) (hs : ∀ y ∈ xs, y.s.size ≤ maxLen) :
    Calls Try.prog 18 #[.slice ao xs.length cap] w fun e w' => ∃ l F, e = .returned (.pointer (some ⟨l, 0, none⟩)) ∧ TableAt l (madeL xs) w' F ∧ Fr noBlock w w' ∧ ∀ k, F k → w.heap.size ≤ k := by
  have hl := hx.len
  unfold maxLen at hl
  have Hs := Lib.hid hs
  clear hs
  go_enter Try.func18, Try.ntmps18
  go_wp2_with fail
  refine (new_any _).mono ?_
  rintro e w1 ⟨l, F1, rfl, h1, f1, n1⟩
  have M1 := Lib.hid (Mine.new (Below.refl _ _) f1 h1 n1)
  clear f1 n1 h1
  go_wp2_with fail
  go_loopw [4] (fun s4 wr => ∃ (i : Nat) (F : Nat → Prop), i ≤ xs.length ∧ i ≤ 100 ∧ s4 = .int .i64 i ∧ Mine w (TableAt l ((xs.take i).foldl actL [])) wr F) (fun s4 _ => 200 - (intOf s4).toNat)
  case atStart => exact ⟨0, F1, Nat.zero_le _, Nat.zero_le _, rfl, M1.out⟩
  case round =>
    obtain ⟨i, F, hi, h100, rfl, hm⟩ := hrel
    have M := Lib.hid hm
    clear hm
    by_cases hlt : i < xs.length ∧ i < 100
    · obtain ⟨hlt, h2⟩ := hlt
      have k1 : (i : Int) < (xs.length : Int) := by omega
      have k2 : (i : Int) < 100 := by omega
      have Htk := Lib.hid (take_act hlt)
      obtain ⟨b, off, rfl, hb, c0, c1, c2⟩ := act_cells hx hlt
      have Hsz := Lib.hid (Hs.out _ (List.getElem_mem hlt))
      generalize xs[i] = a at *
      have y0 := (M.out.below.cell (p := ⟨b, off + i * 3, none⟩) hb).trans c0
      have y1 := (M.out.below.cell (p := ⟨b, off + i * 3 + 1, none⟩) hb).trans c1
      have y2 := (M.out.below.cell (p := ⟨b, off + i * 3 + 2, none⟩) hb).trans c2
      have C0 := Lib.hid c0
      obtain ⟨rs, hrs⟩ : ∃ rs, (xs.take i).foldl actL [] = rs := ⟨_, rfl⟩
      rw [hrs] at M Htk
      have hi' : i + 1 ≤ xs.length := by omega
      have hi2 : i + 1 ≤ 100 := by omega
      obtain ⟨op, n, s⟩ := a
      simp only at y0 y1 y2 C0
      clear c0 c1 c2 hrs
      by_cases ho : op = 0
      · subst ho
        have M' := Lib.hid (M.out.fr TableAt.ok ((Fr.refl noBlock wr).drew))
        have Hact := Lib.hid (show actL rs ⟨0, n, s⟩ = putR rs s n from rfl)
        go_wp2_with fail
        go_still_tail 11, (by kernel_rfl)
        change wpList _ _ _ _ _ wr.drew
        clear y1 y2
        go_wp2_with fail
        refine (put_any M'.out.it s n Hsz.out rfl rfl).mono ?_
        rintro e w3 ⟨F3, rfl, h3, s3⟩
        have M3 := Lib.hid (M'.out.step h3 s3)
        clear h3 s3 y0
        have z0 := (M3.out.below.cell (p := ⟨b, off + i * 3, none⟩) hb).trans C0.out
        go_wp2_with fail
        go_roundw
        case rel => exact ⟨i + 1, F3, hi', hi2, by go_num, by rw [Htk.out, Hact.out]; exact M3.out⟩
        case measure => simp [intOf]; omega
      · by_cases h1 : op = 1
        · subst h1
          have Hact := Lib.hid (show actL rs ⟨1, n, s⟩ = dropR rs s from rfl)
          clear ho
          go_wp2_with fail
          refine (drop_any M.out.it s Hsz.out rfl rfl).mono ?_
          rintro e w3 ⟨F3, rfl, h3, s3⟩
          have M3 := Lib.hid (M.out.step h3 s3)
          clear h3 s3 y0
          go_wp2_with fail
          go_roundw
          case rel => exact ⟨i + 1, F3, hi', hi2, by go_num, by rw [Htk.out, Hact.out]; exact M3.out⟩
          case measure => simp [intOf]; omega
        · have Hact := Lib.hid (show actL rs ⟨op, n, s⟩ = rs by simp [actL, ho, h1])
          go_wp2_with fail
          go_roundw
          case rel => exact ⟨i + 1, F, hi', hi2, by go_num, by rw [Htk.out, Hact.out]; exact M.out⟩
          case measure => simp [intOf]; omega
    · have hd : (xs.length : Int) ≤ (i : Int) ∨ ((i : Int) < (xs.length : Int) ∧ (100 : Int) ≤ (i : Int)) := by omega
      have hfin : xs.take i = xs.take 100 := by
        rcases hd with h | h
        · rw [List.take_of_length_le (by omega), List.take_of_length_le (by omega)]
        · have : i = 100 := by omega
          rw [this]
      have Hfin := Lib.hid hfin
      clear hfin hlt
      rcases hd with h | ⟨h, h'⟩
      all_goals
        go_wp2_with fail
        go_ret
        have hT : TableAt l (madeL xs) wr F := by
          unfold madeL
          rw [← Hfin.out]
          exact M.out.it
        first
          | exact ⟨l, F, rfl, hT, Fr.of_below M.out.below, M.out.base⟩
          | exact ⟨l, rfl, F, hT, Fr.of_below M.out.below, M.out.base⟩
end Go.Proofs.Ytpdkilfncflngaa
