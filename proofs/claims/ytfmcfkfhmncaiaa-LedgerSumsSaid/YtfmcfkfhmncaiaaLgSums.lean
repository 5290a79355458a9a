/-
  THE WALK of the law LedgerSums.
-/
import Derived.Test.YtfmcfkfhmncaiaaLgActs
import Derived.Test.YtfmcfkfhmncaiaaLgSumsPlain
namespace Go.Proofs.Ytfmcfkfhmncaiaa
open Go.RowKit

theorem str_ne {a b : ByteArray} (h : ¬ a = b) : (a.toList == b.toList) = false := by
  rw [beq_eq_false_iff_ne]
  intro e
  exact h (toList_inj' e)

set_option maxRecDepth 100000 in
set_option maxHeartbeats 1000000 in
theorem sums_walk (ao : Option Addr) (cap : Nat) (xs : List Act) (key : ByteArray) (w : World) (ha : ActsAt w ao xs) (hk : key.size ≤ maxLen) :
    Calls Try.prog 3 #[.slice ao xs.length cap, .string key] w fun e w' => e = .returned (.bool true) ∧ Below w.heap.size w w' := by
  have hlen := ha.len
  unfold maxLen at hlen
  go_enter Try.func3, Try.ntmps3
  go_wp2_with fail
  refine (small_any _).mono ?_
  rintro e w1 ⟨rfl, b1⟩
  go_wp2_with fail
  refine (Mine.new (w0 := w) b1).mono ?_
  rintro e w2 ⟨l, F2, rfl, h2, _, _⟩
  clear b1
  go_wp2_with fail
  go_loopw [7, 8, 9, 10, 11] (fun s7 s8 s9 s10 s11 wr => ∃ (k : Nat) (ps : List Post) (sum : Int) (app rev : Bool) (ans : ByteArray), k ≤ xs.length ∧ s11 = .int .i64 k ∧ (∃ F, Mine w wr l ps F) ∧ SumsInv key ps sum app rev ans ∧ s7 = .int .i64 sum ∧ s8 = .bool app ∧ s9 = .bool rev ∧ s10 = .string ans)
    (fun _ _ _ _ s11 _ => xs.length - (intOf s11).toNat)
  case atStart => exact ⟨0, [], 0, false, false, ⟨#[]⟩, Nat.zero_le _, rfl, ⟨F2, h2⟩, ⟨rfl, rfl, rfl, fun p hp => by cases hp⟩, rfl, rfl, rfl, rfl⟩
  case round =>
    obtain ⟨k, ps, sum, app, rev, ans, hk1, rfl, ⟨F, hm⟩, hi, rfl, rfl, rfl, rfl⟩ := hrel
    by_cases hlt : k < xs.length ∧ k < 200
    · obtain ⟨h1, h200⟩ := hlt
      obtain ⟨b, off, rfl, hb, ⟨c0, c1, c2, c3⟩, hks⟩ := (ha.below hm.below).at' k h1
      generalize xs[k] = a at *
      obtain ⟨op, akey, aans, amt⟩ := a
      simp only at c0 c1 c2 c3 hks
      have h1' : (k : Int) < (xs.length : Int) := by omega
      have h200' : (k : Int) < 200 := by omega
      have hgood := hm.good
      have hs0 : 0 ≤ sum := by rw [hi.sum]; exact sumA_nonneg hgood.may
      have hs1 : sum ≤ 5000000000000 := by rw [hi.sum]; exact hgood.total
      have hbox := hm.alloc (.cells #[.int .i64 op, .string akey, .string aans, .int .i64 amt] 27)
      have hbl : ¬ F wr.heap.size := fun hf => Nat.lt_irrefl _ (hm.led.lt _ hf)
      have hx0 : (wr.alloc (.cells #[.int .i64 op, .string akey, .string aans, .int .i64 amt] 27)).cell? ⟨wr.heap.size, 1, none⟩ = some (.string akey) := by simp
      have hx1 : (wr.alloc (.cells #[.int .i64 op, .string akey, .string aans, .int .i64 amt] 27)).cell? ⟨wr.heap.size, 2, none⟩ = some (.string aans) := by simp
      have hx2 : (wr.alloc (.cells #[.int .i64 op, .string akey, .string aans, .int .i64 amt] 27)).cell? ⟨wr.heap.size, 3, none⟩ = some (.int .i64 amt) := by simp
      have HX : Hid (_ ∧ _ ∧ _) := Lib.hid ⟨hx0, hx1, hx2⟩
      have Hi := Lib.hid hi
      clear hx0 hx1 hx2 hi
      go_upto_block 2 with fail
      go_cut [7, 8, 9, 10] (fun s7 s8 s9 s10 wx => ∃ (ps : List Post) (sum : Int) (app rev : Bool) (ans : ByteArray), (∃ F, Mine w wx l ps F) ∧ SumsInv key ps sum app rev ans ∧ s7 = .int .i64 sum ∧ s8 = .bool app ∧ s9 = .bool rev ∧ s10 = .string ans)
      case first =>
        by_cases o0 : (op == 0) = true
        · by_cases he : addE ps ⟨akey, amt, 1, aans⟩ = 0
          · obtain ⟨hmay, _, _, _⟩ := addE_zero he
            obtain ⟨ha0, ha1⟩ := counts_mk hmay
            have hadd := addL_zero he
            by_cases hq : akey = key
            · subst hq
              obtain ⟨rfl, rfl, hi'⟩ := sums_add_key Hi.out he
              go_wp2_with fail
              refine (hbox.approve _ _ _ hks he hadd).mono ?_
              rintro e w' ⟨F', rfl, hm', hst⟩
              obtain ⟨hk', hlt', hn'⟩ := hst.keep (b := wr.heap.size) (by simp) hbl
              have d1 := (hk' 1).trans HX.out.1
              have d2 := (hk' 2).trans HX.out.2.1
              have d3 := (hk' 3).trans HX.out.2.2
              clear hk' hmay hadd he
              go_wp2_with fail
              go_meet
              exact ⟨_, _, _, _, _, ⟨_, hm'⟩, hi', rfl, rfl, rfl, rfl⟩
            · have hi' := sums_add_other (amt := amt) (an := aans) Hi.out hq
              have hq' := str_ne hq
              go_wp2_with fail
              refine (hbox.approve _ _ _ hks he hadd).mono ?_
              rintro e w' ⟨F', rfl, hm', hst⟩
              obtain ⟨hk', hlt', hn'⟩ := hst.keep (b := wr.heap.size) (by simp) hbl
              have d1 := (hk' 1).trans HX.out.1
              have d2 := (hk' 2).trans HX.out.2.1
              have d3 := (hk' 3).trans HX.out.2.2
              clear hk' hmay hadd he
              go_wp2_with fail
              go_meet
              exact ⟨_, _, _, _, _, ⟨_, hm'⟩, hi', rfl, rfl, rfl, rfl⟩
          · have hadd := addL_no he
            have he' : (addE ps ⟨akey, amt, 1, aans⟩ == 0) = false := by simpa using he
            go_wp2_with fail
            refine (hbox.approve _ _ _ hks rfl hadd).mono ?_
            rintro e w' ⟨F', rfl, hm', hst⟩
            clear hst hadd he
            go_wp2_with fail
            go_meet
            exact ⟨_, _, _, _, _, ⟨_, hm'⟩, Hi.out, rfl, rfl, rfl, rfl⟩
        · have o0' : (op == 0) = false := by simpa using o0
          clear o0
          by_cases o1 : (op == 1) = true
          · by_cases he : revE ps akey = 0
            · obtain ⟨hb0, hb1⟩ := revN_bounds hgood he
              rw [← Hi.out.sum] at hb1
              by_cases hq : akey = key
              · subst hq
                obtain ⟨rfl, rfl, hi'⟩ := sums_rev_key hgood Hi.out he
                go_wp2_with fail
                refine (hbox.reverse _ hks rfl he rfl).mono ?_
                rintro e w' ⟨F', rfl, hm', hst⟩
                obtain ⟨hk', hlt', hn'⟩ := hst.keep (b := wr.heap.size) (by simp) hbl
                have d1 := (hk' 1).trans HX.out.1
                clear hk' he
                go_wp2_with fail
                go_meet
                exact ⟨_, _, _, _, _, ⟨_, hm'⟩, hi', rfl, rfl, rfl, rfl⟩
              · have hi' := sums_rev_other hgood Hi.out hq he
                have hq' := str_ne hq
                go_wp2_with fail
                refine (hbox.reverse _ hks rfl he rfl).mono ?_
                rintro e w' ⟨F', rfl, hm', hst⟩
                obtain ⟨hk', hlt', hn'⟩ := hst.keep (b := wr.heap.size) (by simp) hbl
                have d1 := (hk' 1).trans HX.out.1
                clear hk' he
                cases rev
                all_goals
                  go_wp2_with fail
                  go_meet
                  exact ⟨_, _, _, _, _, ⟨_, hm'⟩, hi', rfl, rfl, rfl, rfl⟩
            · have hl := revL_no he
              have he' : (revE ps akey == 0) = false := by simpa using he
              go_wp2_with fail
              refine (hbox.reverse _ hks rfl rfl hl).mono ?_
              rintro e w' ⟨F', rfl, hm', hst⟩
              clear hst hl he
              go_wp2_with fail
              go_meet
              exact ⟨_, _, _, _, _, ⟨_, hm'⟩, Hi.out, rfl, rfl, rfl, rfl⟩
          · have o1' : (op == 1) = false := by simpa using o1
            clear o1
            by_cases o3 : (op == 3) = true
            · have hsum := Hi.out.sum.symm
              go_wp2_with fail
              refine (hbox.close hsum).mono ?_
              rintro e w' ⟨F', rfl, hm', hst⟩
              clear hst hsum
              go_wp2_with fail
              go_meet
              exact ⟨_, _, _, _, _, ⟨_, hm'⟩, sums_close _ _, rfl, rfl, rfl, rfl⟩
            · have o3' : (op == 3) = false := by simpa using o3
              clear o3
              go_wp2_with fail
              go_meet
              exact ⟨_, _, _, _, _, ⟨_, hbox⟩, Hi.out, rfl, rfl, rfl, rfl⟩
      case rest =>
        clear hs0 hs1 hgood hbox hbl HX Hi hm
        obtain ⟨ps, sum, app, rev, ans, ⟨F, hm⟩, hi, rfl, rfl, rfl, rfl⟩ := hcut
        obtain ⟨hs, happ, hrev, hans⟩ := hi
        have hgood := hm.good
        have hs1 : sum ≤ 5000000000000 := by rw [hs]; exact hgood.total
        have Hs := Lib.hid hs
        have Hi : Hid (SumsInv key ps sum app rev ans) := Lib.hid ⟨hs, happ, hrev, hans⟩
        clear hs
        cases hask : askP ps key with
        | none =>
          obtain rfl : app = false := by rw [happ, hask]; rfl
          clear happ hrev hans
          have hask' : (askP ps key).getD zeroPost = zeroPost ∧ (askP ps key).isSome = false := by rw [hask]; exact ⟨rfl, rfl⟩
          have Ha := Lib.hid hask'
          clear hask hask'
          go_wp2_with fail
          refine (hm.ask key hk Ha.out.1 Ha.out.2).mono ?_
          rintro e w' ⟨rfl, hm', _⟩
          have hm'' := hm'.alloc (.cells #[.string ⟨#[]⟩, .int .i64 0, .int .i64 0, .string ⟨#[]⟩] 34)
          simp only [Post.val, zeroPost]
          go_wp2_with fail
          refine (hm''.total Hs.out.symm).mono ?_
          rintro e w'' ⟨rfl, rfl⟩
          go_wp2_with fail
          go_roundw
          case rel => exact ⟨k + 1, ps, sum, false, rev, ans, by omega, by go_num, ⟨F, hm''⟩, Hi.out, rfl, rfl, rfl, rfl⟩
          case measure => simp [intOf]; omega
        | some p =>
          obtain rfl : app = true := by rw [happ, hask]; rfl
          obtain rfl : ans = p.answer := hans p hask
          have hask' : (askP ps key).getD zeroPost = p ∧ (askP ps key).isSome = true := by rw [hask]; exact ⟨rfl, rfl⟩
          have Ha := Lib.hid hask'
          have hrev' : rev = (p.state == 2) := by rw [hrev, hask]; simp; rfl
          clear happ hrev hans hask'
          obtain ⟨pk, pa, pst, pan⟩ := p
          simp only at hrev'
          clear hask
          cases hst : (pst == 2)
          · rw [hst] at hrev'
            subst hrev'
            go_wp2_with fail
            refine (hm.ask key hk Ha.out.1 Ha.out.2).mono ?_
            rintro e w' ⟨rfl, hm', _⟩
            have hm'' := hm'.alloc (.cells #[.string pk, .int .i64 pa, .int .i64 pst, .string pan] 34)
            simp only [Post.val]
            go_wp2_with fail
            refine (hm''.total Hs.out.symm).mono ?_
            rintro e w'' ⟨rfl, rfl⟩
            go_wp2_with fail
            go_roundw
            case rel => exact ⟨k + 1, ps, sum, true, _, pan, by omega, by go_num, ⟨F, hm''⟩, Hi.out, rfl, rfl, rfl, rfl⟩
            case measure => simp [intOf]; omega
          · rw [hst] at hrev'
            subst hrev'
            go_wp2_with fail
            refine (hm.ask key hk Ha.out.1 Ha.out.2).mono ?_
            rintro e w' ⟨rfl, hm', _⟩
            have hm'' := hm'.alloc (.cells #[.string pk, .int .i64 pa, .int .i64 pst, .string pan] 34)
            simp only [Post.val]
            go_wp2_with fail
            refine (hm''.total Hs.out.symm).mono ?_
            rintro e w'' ⟨rfl, rfl⟩
            go_wp2_with fail
            go_roundw
            case rel => exact ⟨k + 1, ps, sum, true, _, pan, by omega, by go_num, ⟨F, hm''⟩, Hi.out, rfl, rfl, rfl, rfl⟩
            case measure => simp [intOf]; omega
    · have Hs := Lib.hid hi.sum
      clear hi
      by_cases hlt' : k < xs.length
      · have h1 : (k : Int) < (xs.length : Int) := by omega
        have h2 : (200 : Int) ≤ (k : Int) := by omega
        clear hlt hlt'
        go_wp2_with fail
        refine (hm.total Hs.out.symm).mono ?_
        rintro e w'' ⟨rfl, rfl⟩
        go_wp2_with fail
        go_ret
        exact ⟨rfl, hm.below⟩
      · have h1 : (xs.length : Int) ≤ (k : Int) := by omega
        clear hlt hlt'
        go_wp2_with fail
        refine (hm.total Hs.out.symm).mono ?_
        rintro e w'' ⟨rfl, rfl⟩
        go_wp2_with fail
        go_ret
        exact ⟨rfl, hm.below⟩
end Go.Proofs.Ytfmcfkfhmncaiaa
