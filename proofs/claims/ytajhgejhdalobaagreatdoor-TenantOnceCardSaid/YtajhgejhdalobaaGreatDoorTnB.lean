/-
  THE WALKS of refuse and answer.
-/
import Derived.StillTailTactics
import Derived.Test.YtajhgejhdalobaaGreatDoorPnB
import Derived.Test.YtajhgejhdalobaaGreatDoorTnQ
namespace Go.Proofs.YtajhgejhdalobaaGreatDoor
open Go.RowKit

abbrev msgV (t : ByteArray) (ao : Option Addr) (n cap : Nat) : Value := .agg #[.string t, .slice ao n cap]
set_option maxRecDepth 100000 in
set_option maxHeartbeats 800000 in
theorem qvalue_any (t : ByteArray) {ao : Option Addr} {q : List Fld} {w : World} (h : RowRd FldR w ao q) (cap : Nat) (hl : q.length ≤ maxLen) (n : Int) : Calls Tryz.prog 104 #[msgV t ao q.length cap, .int .i64 n] w fun e w' => e = .returned (.string (valS n q)) ∧ Fr noBlock w w' := by
  have HV := Lib.hid (fun (W : World) (hW : Fr noBlock w W) => value_of t (h.fr0 hW) cap hl n)
  unfold ValueP at HV
  clear h hl
  go_enter Tryz.func104, Tryz.ntmps104
  go_wp2_with fail
  refine (HV.out _ ((Fr.refl noBlock w).alloc _)).mono ?_
  rintro e w1 ⟨rfl, f1⟩
  have H1 := Lib.hid (((Fr.refl noBlock w).alloc _).trans' f1)
  clear f1 HV
  go_wp2_with fail
  go_ret
  exact ⟨rfl, H1.out⟩
theorem lacks_take {q : List Fld} {ns : List Int} {k : Nat} (hk : k < ns.length) : lacksB q (ns.take (k + 1)) = (lacksB q (ns.take k) || !valB ns[k] q) := by
  unfold lacksB
  rw [List.take_succ_eq_append_getElem hk, List.any_append]
  simp
set_option maxRecDepth 100000 in
set_option maxHeartbeats 1600000 in
theorem lacks_any (t : ByteArray) {ao : Option Addr} {q : List Fld} {w : World} (h : RowRd FldR w ao q) (cap : Nat) (hl : q.length ≤ maxLen) {b off nc : Nat} {ns : List Int} (hn : RowRd IntR w (some ⟨b, off, none⟩) ns) (hb : b < w.heap.size) (hnl : ns.length ≤ 1000) :
    Calls Tryz.prog 45 #[msgV t ao q.length cap, .slice (some ⟨b, off, none⟩) ns.length nc] w fun e w' => e = .returned (.bool (lacksB q ns)) ∧ Fr noBlock w w' := by
  have HV := Lib.hid (fun (W : World) (hW : Fr noBlock w W) (n : Int) => value_of t (h.fr0 hW) cap hl n)
  unfold ValueP at HV
  have HN := Lib.hid hn
  clear h hl hn
  go_enter Tryz.func45, Tryz.ntmps45
  go_upto_region 1 with fail
  refine wp_at (fun W => W.heap[w.heap.size]? = some (.cells #[.string t, .slice ao q.length cap] 85 (0, 0)) ∧ Fr noBlock w W) ⟨heap_new w _, (Fr.refl _ w).alloc _⟩ ?_
  obtain ⟨g, hg⟩ : ∃ g, w.heap.size = g := ⟨_, rfl⟩
  rw [hg]
  rintro w1 ⟨b1, f1⟩
  have H1 := Lib.hid (And.intro b1 f1)
  clear b1 f1 hg
  go_wp2_with fail
  go_loopw [6, 7, 8, 11] (fun s6 s7 s8 s11 W => ∃ k : Nat, k ≤ ns.length ∧ s11 = .int .i64 k ∧ Hid (lacksB q (ns.take k) = false) ∧ Hid (W.heap[g]? = some (.cells #[.string t, .slice ao q.length cap] 85 (0, 0)) ∧ Fr noBlock w W)) (fun _ _ _ s11 _ => ns.length - (intOf s11).toNat)
  case atStart => exact ⟨0, by omega, rfl, Lib.hid rfl, H1⟩
  case round =>
    clear H1
    obtain ⟨k, hk, rfl, HL, HW⟩ := hrel
    by_cases hlt : k < ns.length
    · have q1 : (k : Int) < (ns.length : Int) := by omega
      have q0 : (0 : Int) ≤ (k : Int) := by omega
      have c0 := int_rd (HN.out.fr0 HW.out.2) hlt
      have d0 := cell_of HW.out.1 0
      have d1 := cell_of HW.out.1 1
      have HT := Lib.hid (lacks_take (q := q) hlt)
      generalize ns[k] = x at *
      have HVx := Lib.hid (HV.out wr HW.out.2 x)
      obtain ⟨bv, hbv⟩ : ∃ y, valB x q = y := ⟨_, rfl⟩
      rw [hbv] at HVx HT
      rw [HL.out] at HT
      clear hbv
      cases bv with
      | true =>
        go_wp2_with fail
        refine HVx.out.mono ?_
        rintro e w2 ⟨rfl, f2⟩
        have H2 := Lib.hid (And.intro (f2.obj HW.out.1 (fun z => z)) (HW.out.2.trans' f2))
        clear f2 HVx c0 d0 d1
        go_wp2_with fail
        go_roundw
        case rel => exact ⟨k + 1, hlt, by go_num, HT, H2⟩
        case measure => simp [intOf]; omega
      | false =>
        have HB := Lib.hid (show lacksB q ns = true by
          unfold lacksB
          rw [List.any_eq_true]
          have h := HT.out
          unfold lacksB at h
          obtain ⟨y, hy, hv⟩ := List.any_eq_true.1 h
          exact ⟨y, List.mem_of_mem_take hy, hv⟩)
        go_wp2_with fail
        refine HVx.out.mono ?_
        rintro e w2 ⟨rfl, f2⟩
        have H2 := Lib.hid (HW.out.2.trans' f2)
        clear f2 HVx c0 d0 d1
        go_wp2_with fail
        go_ret
        exact ⟨by rw [HB.out]; rfl, H2.out⟩
    · have q1 : (ns.length : Int) ≤ (k : Int) := by omega
      obtain rfl : k = ns.length := by omega
      rw [List.take_length] at HL
      go_wp2_with fail
      go_ret
      exact ⟨by rw [HL.out]; rfl, HW.out.2⟩
end Go.Proofs.YtajhgejhdalobaaGreatDoor
namespace Go.Proofs.YtajhgejhdalobaaGreatDoor
open Go.RowKit

def AnsP (T : ByteArray) (l : List Fld) (w : World) (e : Ending) (w' : World) : Prop := ∃ sv : SV, e = .returned (.agg #[.string T, sv.val]) ∧ sv.n = l.length ∧ RowAt 31 FldR w' sv.val l ∧ Fr noBlock w w' ∧ ∀ k, sv.val.ownBlock = some k → w.heap.size ≤ k
theorem info_msg : (Tryz.prog.info? 25).map (·.size) = some 2 := by kernel_rfl
theorem msg_set {w1 : World} {g : Nat} {x y : Value} {T : TypeId} (hb : w1.heap[g]? = some (.cells #[x, y] T (0, 0))) (a b : Value) : ((w1.setCell ⟨g, 0, none⟩ a).setCell ⟨g, 1, none⟩ b).heap[g]? = some (.cells #[a, b] T (0, 0)) := by
  have h1 := heap_set_eq (i := 0) (u := a) hb
  have h2 := heap_set_eq (i := 1) (u := b) h1
  rw [h2]
  rfl
set_option maxRecDepth 100000 in
set_option maxHeartbeats 800000 in
theorem refuse_any (c : ByteArray) (w : World) : Calls Tryz.prog 42 #[.string c] w (AnsP (t4 48 48 48 48) [⟨39, c⟩] w) := by
  unfold AnsP
  go_enter Tryz.func42, Tryz.ntmps42
  go_wp2_with fail
  have b1 := heap_old (.cells #[.int .i64 39, .string c] 31) (heap_new w (.cells #[.string ⟨#[48, 48, 48, 48]⟩, .slice (some ⟨w.heap.size + 1, 0, none⟩) 1 1] 25))
  have hs : (w.alloc (.cells #[.string ⟨#[48, 48, 48, 48]⟩, .slice (some ⟨w.heap.size + 1, 0, none⟩) 1 1] 25)).heap.size = w.heap.size + 1 := by simp
  have b2 := heap_new (w.alloc (.cells #[.string ⟨#[48, 48, 48, 48]⟩, .slice (some ⟨w.heap.size + 1, 0, none⟩) 1 1] 25)) (.cells #[.int .i64 39, .string c] 31)
  rw [hs] at b2
  refine bodyPost_ret (v := .agg #[.string ⟨#[48, 48, 48, 48]⟩, .slice (some ⟨w.heap.size + 1, 0, none⟩) 1 1]) (results_cell_row Tryz.results42 _ _ w.heap.size _ _ _ _ rfl b1 Tryz.underlying25 rfl info_msg) rfl ⟨⟨some ⟨w.heap.size + 1, 0, none⟩, 1, 1⟩, rfl, rfl, ?_, ?_, ?_⟩
  · exact RowAt.of_block (xs := [(⟨39, c⟩ : Fld)]) b2 (Nat.le_refl _) (by unfold maxLen; simp) rfl rfl
  · exact ((Fr.refl noBlock w).alloc _).alloc _
  · intro k hk
    cases hk
    show w.heap.size ≤ w.heap.size + 1
    omega
theorem conv_own (W : World) (s : ByteArray) : ∃ cap w', (convert 9 34 (.string s)).run Tryz.prog W = .ok (.slice (some ⟨W.heap.size, 0, none⟩) s.size cap) w' ∧ (∀ (i : Nat) (hi : i < (bl s).length), w'.cell? ⟨W.heap.size, i, none⟩ = some (byteV (bl s)[i]) ∧ w'.frozen? ⟨W.heap.size, i, none⟩ = false) ∧ Fr noBlock W w' ∧ W.heap.size < w'.heap.size := by
  refine ⟨_, _, run_bytes_of_string W 9 34 5 s Tryz.underlying9 Tryz.underlying34 Tryz.underlying5, fun i hi => ?_, (Fr.refl noBlock W).drew.alloc _, heap_lt (heap_new W.drew _)⟩
  have hb := heap_new W.drew (.cells (bytesRow s (grownCap W s.size 0 5)) 5 ((bytesRow s (grownCap W s.size 0 5)).size, (bytesRow s (grownCap W s.size 0 5)).size + 1))
  have hsz : i < s.data.size := by simpa [bl] using hi
  have hrow := bytesRow_at s (grownCap W s.size 0 5) i hsz
  have hlt : i < (bytesRow s (grownCap W s.size 0 5)).size := by
    rcases Nat.lt_or_ge i (bytesRow s (grownCap W s.size 0 5)).size with h | h
    · exact h
    · rw [Array.getElem?_eq_none h] at hrow; cases hrow
  have hb' : (W.drew.alloc (.cells (bytesRow s (grownCap W s.size 0 5)) 5 ((bytesRow s (grownCap W s.size 0 5)).size, (bytesRow s (grownCap W s.size 0 5)).size + 1))).heap[W.heap.size]? = some (.cells (bytesRow s (grownCap W s.size 0 5)) 5 ((bytesRow s (grownCap W s.size 0 5)).size, (bytesRow s (grownCap W s.size 0 5)).size + 1)) := hb
  refine ⟨?_, ?_⟩
  · rw [cell_of hb', hrow]
    rfl
  · unfold World.frozen?
    rw [hb']
    simp
    omega
structure AnsS (w0 W : World) (b3 b6 m8 : Nat) (t : ByteArray) (ao : Option Addr) (n cap : Nat) (T : ByteArray) (sv : SV) (l : List Fld) : Prop where
  q : W.heap[b3]? = some (.cells #[.string t, .slice ao n cap] 85 (0, 0))
  r : W.heap[b6]? = some (.cells #[.string ⟨#[]⟩, .slice none 0 0] 25 (0, 0))
  m : W.heap[m8]? = some (.cells #[.string T, sv.val] 25 (0, 0))
  row : RowAt 31 FldR W sv.val l
  len : sv.n = l.length
  own : ∀ k, sv.val.ownBlock = some k → w0.heap.size ≤ k ∧ k ≠ m8 ∧ k ≠ b6
  fr : Fr noBlock w0 W
  d1 : b3 ≠ m8
  d2 : b6 ≠ m8
  d3 : w0.heap.size ≤ m8
  d4 : w0.heap.size ≤ b6
namespace AnsS
variable {w0 W W' : World} {b3 b6 m8 : Nat} {t : ByteArray} {ao : Option Addr} {n cap : Nat} {T : ByteArray} {sv : SV} {l : List Fld}
theorem on' (h : AnsS w0 W b3 b6 m8 t ao n cap T sv l) (f : Fr noBlock W W') : AnsS w0 W' b3 b6 m8 t ao n cap T sv l :=
  ⟨f.obj h.q (fun z => z), f.obj h.r (fun z => z), f.obj h.m (fun z => z), h.row.fr0 f, h.len, h.own, h.fr.trans' f, h.d1, h.d2, h.d3, h.d4⟩
theorem put (h : AnsS w0 W b3 b6 m8 t ao n cap T sv l) {sv2 : SV} {l2 : List Fld} (hr : RowAt 31 FldR W sv2.val l2) (hl : sv2.n = l2.length) (ho : ∀ k, sv2.val.ownBlock = some k → w0.heap.size ≤ k ∧ k ≠ m8 ∧ k ≠ b6) : AnsS w0 ((W.setCell ⟨m8, 0, none⟩ (.string T)).setCell ⟨m8, 1, none⟩ sv2.val) b3 b6 m8 t ao n cap T sv2 l2 := by
  have f : Fr (fun k => k = m8) W ((W.setCell ⟨m8, 0, none⟩ (.string T)).setCell ⟨m8, 1, none⟩ sv2.val) := fr_set_at (fr_set_at (Fr.refl _ W) 0 _) 1 _
  exact ⟨f.obj h.q h.d1, f.obj h.r h.d2, msg_set h.m _ _, hr.fr f (fun k hk e => (ho k hk).2.1 e), hl, ho, h.fr.trans f (fun k hk => .inr (by rw [hk]; exact h.d3)), h.d1, h.d2, h.d3, h.d4⟩
theorem cells (h : AnsS w0 W b3 b6 m8 t ao n cap T sv l) : W.cell? ⟨b3, 0, none⟩ = some (.string t) ∧ W.cell? ⟨b3, 1, none⟩ = some (.slice ao n cap) ∧ W.cell? ⟨m8, 0, none⟩ = some (.string T) ∧ W.cell? ⟨m8, 1, none⟩ = some sv.val ∧ W.frozen? ⟨m8, 0, none⟩ = false ∧ W.frozen? ⟨m8, 1, none⟩ = false ∧ W.frozen? ⟨b6, 0, none⟩ = false ∧ W.frozen? ⟨b6, 1, none⟩ = false ∧ W.cell? ⟨b6, 0, none⟩ = some (.string ⟨#[]⟩) ∧ W.cell? ⟨b6, 1, none⟩ = some (.slice none 0 0) := ⟨cell_of h.q 0, cell_of h.q 1, cell_of h.m 0, cell_of h.m 1, free_of h.m 0, free_of h.m 1, free_of h.r 0, free_of h.r 1, cell_of h.r 0, cell_of h.r 1⟩
theorem putP (h : AnsS w0 W b3 b6 m8 t ao n cap T sv l) (hl : l.length ≤ 1000) (k : Int) (s : ByteArray) : Calls Tryz.prog 119 #[.agg #[.string T, sv.val], .int .i64 k, .string s] W (PutP T l k s W) := by
  obtain ⟨a, c, e, h1, _, _, h4⟩ := h.row.shape
  rw [e]
  have hr := h.row
  rw [e] at hr
  exact put_any T k s (RowAt.rd hr) (fun z => (h4 z).2) (by omega)
end AnsS
set_option maxRecDepth 100000 in
set_option maxHeartbeats 3200000 in
theorem answer_any (t : ByteArray) (h4 : t.size = 4) {ao : Option Addr} {q : List Fld} {w : World} (h : RowRd FldR w ao q) (cap : Nat) (hl : q.length ≤ maxLen) (code : ByteArray) {mo : Option Addr} {more : List Fld} (hm : RowRd FldR w mo more) (mc : Nat) (hml : more.length ≤ 10) :
    Calls Tryz.prog 46 #[msgV t ao q.length cap, .string code, .slice mo more.length mc] w (AnsP (upT t) (ansL q code more) w) := by
  have HQ := Lib.hid h
  have HM := Lib.hid hm
  have HLk := Lib.hid (show ∀ (W : World) (hW : Fr noBlock w W) (g : Nat) (x : Int) (hg : W.heap[g]? = some (.cells #[.int .i64 x] 3 (0, 0))), Calls Tryz.prog 45 #[msgV t ao q.length cap, .slice (some ⟨g, 0, none⟩) 1 1] W fun e w' => e = .returned (.bool (lacksB q [x])) ∧ Fr noBlock W w' from fun (W : World) (hW : Fr noBlock w W) (g : Nat) (x : Int) (hg : W.heap[g]? = some (.cells #[.int .i64 x] 3 (0, 0))) => lacks_any t (h.fr0 hW) cap hl (b := g) (off := 0) (ns := [x]) (RowRd.of_flat hg rfl (by unfold maxLen; simp)) (heap_lt hg) (by simp) (nc := 1))
  have HVl := Lib.hid (fun (W : World) (hW : Fr noBlock w W) (x : Int) => qvalue_any t (h.fr0 hW) cap hl x)
  clear h hm
  obtain ⟨qn, hqn⟩ : ∃ x, q.length = x := ⟨_, rfl⟩
  rw [hqn] at HLk HVl ⊢
  unfold AnsP
  go_enter Tryz.func46, Tryz.ntmps46
  go_upto_region 1 with fail
  refine wp_at (fun W => W.heap[w.heap.size]? = some (.cells #[.string t, .slice ao qn cap] 85 (0, 0)) ∧ W.heap[w.heap.size + 1]? = some (.cells #[.string ⟨#[]⟩, .slice none 0 0] 25 (0, 0)) ∧ Fr noBlock w W ∧ W.heap.size = w.heap.size + 1 + 1) ?_ ?_
  · have b2 := heap_new (w.alloc (.cells #[.string t, .slice ao qn cap] 85)) (.cells #[.string ⟨#[]⟩, .slice none 0 0] 25)
    have hs : (w.alloc (.cells #[.string t, .slice ao qn cap] 85)).heap.size = w.heap.size + 1 := by simp
    rw [hs] at b2
    exact ⟨heap_old _ (heap_new w _), b2, ((Fr.refl noBlock w).alloc _).alloc _, by simp⟩
  · obtain ⟨b3, hb3⟩ : ∃ b, w.heap.size = b := ⟨_, rfl⟩
    have HB3 := Lib.hid hb3
    rw [hb3]
    rintro w1 ⟨r1, r2, f1, hs1⟩
    have c0 := cell_of r1 0
    have H1 := Lib.hid (And.intro r1 (And.intro r2 f1))
    obtain ⟨kc, w2, hcv, hcell, f2, hlt2⟩ := conv_own w1 t
    rw [h4, hs1] at hcv
    rw [hs1] at hcell hlt2
    obtain ⟨kb, hkb⟩ : ∃ k, b3 + 1 + 1 = k := ⟨_, rfl⟩
    rw [hkb] at hcv hcell hlt2
    have hbl : (bl t).length = 4 := by rw [bl_len, h4]
    obtain ⟨k0, z0⟩ := hcell 2 (by omega)
    have HK := Lib.hid (And.intro hcell (And.intro f2 hlt2))
    clear r1 r2 f1 f2 hcell hs1
    obtain ⟨x, hx⟩ : ∃ x, (bl t)[2]'(by omega) = x := ⟨_, rfl⟩
    rw [hx] at k0
    unfold byteV at k0
    have q1 : ((x.toNat : Int) + 1) % 256 = ((x + 1).toNat : Int) := by
      rw [UInt8.toNat_add]
      show _ = (((x.toNat + 1) % 256 : Nat) : Int)
      omega
    have q2 : IntKind.u8.wrap ((x.toNat : Int) + 1) = ((x + 1).toNat : Int) := by rw [IntKind.wrap_u8]; exact q1
    have HUp := Lib.hid (show upT t = strB ((bl t).set 2 (x + 1)) by
      unfold upT
      rw [List.getD_eq_getElem?_getD, List.getElem?_eq_getElem (by omega), hx]
      rfl)
    obtain ⟨y, hy⟩ : ∃ y, x + 1 = y := ⟨_, rfl⟩
    rw [hy] at q1 q2 HUp
    have HX := Lib.hid (And.intro hbl hkb)
    clear hx hy hbl hkb
    go_upto_region 3 with fail
    refine wp_at (fun W => W.heap[b3]? = some (.cells #[.string t, .slice ao qn cap] 85 (0, 0)) ∧ W.heap[b3 + 1]? = some (.cells #[.string ⟨#[]⟩, .slice none 0 0] 25 (0, 0)) ∧ RowRd ByteR W (some ⟨kb, 0, none⟩) ((bl t).set 2 y) ∧ Fr noBlock w W) ?_ ?_
    · obtain ⟨hc, f2, hlt⟩ := HK.out
      obtain ⟨r1, r2, f1⟩ := H1.out
      obtain ⟨hbl, hkb⟩ := HX.out
      have hf : Fr (fun k => k = kb) w2 (w2.setCell ⟨kb, 2, none⟩ (.int .u8 (y.toNat : Int))) := fr_set_at (Fr.refl _ w2) 2 _
      refine ⟨hf.obj (f2.obj r1 (fun z => z)) (by omega), hf.obj (f2.obj r2 (fun z => z)) (by omega), ⟨by rw [List.length_set, hbl]; unfold maxLen; omega, fun i hi => ⟨kb, 0, rfl, Nat.lt_of_lt_of_le hlt hf.size, fun j u hu => ?_⟩⟩, (f1.trans' f2).trans hf (fun k hk => .inr (by omega))⟩
      have hj := (List.getElem?_eq_some_iff.1 hu).1
      have hj0 : j = 0 := by
        have e : (ByteR.cells ((bl t).set 2 y)[i]).length = 1 := rfl
        omega
      subst hj0
      rw [byteK, Nat.mul_one, Nat.zero_add, Nat.add_zero]
      have hu2 : u = byteV ((bl t).set 2 y)[i] := (Option.some.inj hu).symm
      rw [List.length_set] at hi
      rw [hu2]
      by_cases h2 : i = 2
      · subst h2
        rw [List.getElem_set_self]
        exact World.cell?_setCell_same w2 ⟨kb, 2, none⟩ _ (hc 2 hi).1
      · rw [List.getElem_set_ne (fun e => h2 e.symm)]
        refine (World.cell?_setCell_other w2 ⟨kb, 2, none⟩ ⟨kb, i, none⟩ _ (by simp <;> omega)).trans (hc i hi).1
    · rintro w3 ⟨r1, r2, hrow, f3⟩
      have hcv2 := conv_rd hrow kc
      rw [List.length_set, HX.out.1, ← HUp.out] at hcv2
      obtain ⟨T, hT⟩ : ∃ T, upT t = T := ⟨_, rfl⟩
      rw [hT] at hcv2
      have HT := Lib.hid hT
      have H3 := Lib.hid (And.intro r1 (And.intro r2 f3))
      clear r1 r2 hrow f3 k0 z0 q1 q2 hcv H1 HK hT c0
      go_upto_region 4 with fail
      refine wp_at (fun W => AnsS w W b3 (b3 + 1) w3.heap.size t ao qn cap T ⟨none, 0, 0⟩ []) ?_ ?_
      · obtain ⟨r1, r2, f3⟩ := H3.out
        have hlt := heap_lt r2
        exact ⟨heap_old _ r1, heap_old _ r2, heap_new w3 _, RowAt.nil, rfl, fun k hk => (by cases hk), f3.alloc _, by omega, by omega, f3.size, by have := HB3.out; omega⟩
      · obtain ⟨m8, hm8⟩ : ∃ m, w3.heap.size = m := ⟨_, rfl⟩
        rw [hm8]
        rintro w4 h4'
        have H4 := Lib.hid h4'
        clear h4' hcv2 H3
        go_wp2_with (first | (at_builtin; apply stop_here))
        refine ⟨?_, trivial⟩
        have ha := (Fr.refl noBlock w4).alloc (.cells #[.int .i64 39, .string code] 31)
        have ho : (w4.alloc (.cells #[.int .i64 39, .string code] 31)).ownsRow 0 31 FldR.k (.slice (some ⟨w4.heap.size, 0, none⟩) 1 1) 1 (FldR.flat [(⟨39, code⟩ : Fld)]) := RowAt.of_block (xs := [(⟨39, code⟩ : Fld)]) (heap_new w4 _) (Nat.le_refl _) (by unfold maxLen; simp) rfl rfl
        refine wpList_app rfl _ _ rfl el_fld (v := .slice (some ⟨w4.heap.size, 0, none⟩) 1 1) [(⟨39, code⟩ : Fld)] more (⟨39, code⟩ :: more) rfl 0 1 (1 + more.length) (by rw [List.length_cons]; omega) rfl ho rfl (HM.out.fr0 ((H4.out.fr).trans' ha)) rfl (by unfold maxLen; omega) (by omega) (Nat.zero_le _) ?_
        intro ao2 cap2 w5 o5 g5 a5
        go_frame
        have hf5 : Fr noBlock w4 w5 := ha.grown g5 (fun k hk => by cases hk; exact .inr (Nat.le_refl _))
        have hr5 : RowAt 31 FldR w5 (.slice ao2 (1 + more.length) cap2) (⟨39, code⟩ :: more) := RowAt.of_own o5 (by rw [List.length_cons]; omega)
        obtain ⟨fs, hfs⟩ : ∃ fs, (⟨39, code⟩ : Fld) :: more = fs := ⟨_, rfl⟩
        have hfl : fs.length = 1 + more.length := by rw [← hfs, List.length_cons]; omega
        rw [hfs] at hr5
        rw [← hfl] at hr5 ⊢
        obtain ⟨fg, hfg, -⟩ := hr5.elem (i := 0) (by omega)
        subst hfg
        have H5 := Lib.hid (And.intro hr5 (And.intro (H4.out.on' hf5) hfs))
        have hfl2 : fs.length ≤ 11 := by omega
        have hfg8 : fg ≠ m8 := by
          have hm := heap_lt H4.out.m
          rcases a5 with a5 | a5
          · have e : fg = w4.heap.size := by simpa [Value.ownBlock] using a5
            omega
          · have e : fg = w4.heap.size + 1 := by simpa [Value.ownBlock] using a5
            omega
        clear o5 g5 a5 hf5 ho ha hr5 hfs H4 hfl
        go_wp2_with fail
        go_loopw [10, 31] (fun s10 s31 W => ∃ (k : Nat) (sv : SV) (l : List Fld), k ≤ fs.length ∧ s31 = .int .i64 k ∧ Hid (l = (fs.take k).foldl (fun m f => putL m f.n f.v) [] ∧ l.length ≤ k) ∧ Hid (AnsS w W b3 (b3 + 1) m8 t ao qn cap T sv l ∧ Fr (fun k => k = m8) w5 W)) (fun _ s31 _ => fs.length - (intOf s31).toNat)
        case atStart => exact ⟨0, ⟨none, 0, 0⟩, [], by omega, rfl, Lib.hid ⟨rfl, by simp⟩, Lib.hid ⟨H5.out.2.1, Fr.refl _ _⟩⟩
        case round =>
          obtain ⟨k, sv, l, hk, rfl, HL, HA⟩ := hrel
          by_cases hlt : k < fs.length
          · have q1 : (k : Int) < (fs.length : Int) := by omega
            have q0 : (0 : Int) ≤ (k : Int) := by omega
            have hrd := H5.out.1.fr HA.out.2 (fun b hb e => by
              have h : fg = b := by simpa [Value.ownBlock] using hb
              exact hfg8 (h.trans e))
            obtain ⟨g', e', -, -, -, hcell, -⟩ := hrd.elem hlt
            cases e'
            have y0 : wr.cell? ⟨fg, k * 2, none⟩ = some (.int .i64 fs[k].n) := hcell 0 _ rfl
            have y1 : wr.cell? ⟨fg, k * 2 + 1, none⟩ = some (.string fs[k].v) := hcell 1 _ rfl
            have HS := Lib.hid (show (fs.take (k + 1)).foldl (fun m f => putL m f.n f.v) [] = putL l fs[k].n fs[k].v by
              rw [List.take_succ_eq_append_getElem hlt, List.foldl_append, ← HL.out.1]
              rfl)
            obtain ⟨c0, c1, d0, d1, z0, z1, -⟩ := HA.out.1.cells
            have ha := (Fr.refl noBlock wr).alloc (.cells #[.int .i64 fs[k].n, .string fs[k].v] 31)
            have HP := Lib.hid ((HA.out.1.on' ha).putP (by have := HL.out.2; omega) fs[k].n fs[k].v)
            unfold PutP at HP
            have hm8 := heap_lt HA.out.1.m
            have hww := HA.out.1.fr.size
            generalize fs[k] = f at *
            obtain ⟨fn, fv⟩ := f
            dsimp only at y0 y1 HS ha HP
            obtain ⟨sa, sn, sc⟩ := sv
            unfold SV.val at d1 HP
            dsimp only at d1 HP
            clear hrd hcell
            go_wp2_with fail
            refine HP.out.mono ?_
            rintro e w6 ⟨⟨xa, xn, xc⟩, rfl, k1, k2, k3, k4⟩
            have HN := Lib.hid (show Fr noBlock wr w6 ∧ AnsS w w6 b3 (b3 + 1) m8 t ao qn cap T ⟨sa, sn, sc⟩ l ∧ xn = (putL l fn fv).length ∧ RowAt 31 FldR w6 (.slice xa xn xc) (putL l fn fv) ∧ ∀ k, (Value.slice xa xn xc).ownBlock = some k → w.heap.size ≤ k ∧ k ≠ m8 ∧ k ≠ b3 + 1 from
              ⟨ha.trans' k3, (HA.out.1.on' ha).on' k3, k1, k2, fun k hk => by
                have := k4 k hk
                have h2 := ha.size
                have h3 := heap_lt HA.out.1.r
                exact ⟨by omega, by omega, by omega⟩⟩)
            dsimp only
            obtain ⟨-, -, d0, d1, z0, z1, -⟩ := HN.out.2.1.cells
            unfold SV.val at d1
            dsimp only at d1
            clear k1 k2 k3 k4 HP y0 y1 c0 c1 ha hm8 hww
            go_wp2_with fail
            refine ⟨⟨k + 1, ⟨xa, xn, xc⟩, putL l fn fv, hlt, by go_num, Lib.hid ⟨HS.out.symm, by have := putL_len l fn fv; have := HL.out.2; omega⟩, Lib.hid ⟨AnsS.put (sv2 := ⟨xa, xn, xc⟩) HN.out.2.1 HN.out.2.2.2.1 HN.out.2.2.1 HN.out.2.2.2.2, ?_⟩⟩, ?_⟩
            · exact fr_set_at (fr_set_at (HA.out.2.trans' (HN.out.1.mono (fun _ z => z.elim))) 0 _) 1 _
            · simp [intOf]; omega
          · obtain rfl : k = fs.length := by omega
            rw [List.take_length] at HL
            have HL0 := Lib.hid (show [3, 4, 11, 41, 70].foldl (putIf q) l = ansL q code more by
              unfold ansL
              rw [H5.out.2.2, ← HL.out.1])
            have HA0 := Lib.hid HA.out.1
            have hll : l.length ≤ 11 := by have := HL.out.2; omega
            clear H5 HL HA hlt hk
            go_upto_region 9 with fail
            go_wp2_with fail
            obtain ⟨ns, hns⟩ : ∃ ns : List Int, [3, 4, 11, 41, 70] = ns := ⟨_, rfl⟩
            obtain ⟨ig, hig⟩ : ∃ g, wr.heap.size = g := ⟨_, rfl⟩
            have hb7 := heap_new wr (.cells #[.int .i64 3, .int .i64 4, .int .i64 11, .int .i64 41, .int .i64 70] 3)
            have ha7 := (Fr.refl noBlock wr).alloc (.cells #[.int .i64 3, .int .i64 4, .int .i64 11, .int .i64 41, .int .i64 70] 3)
            refine wp_at (fun W => RowRd IntR W (some ⟨ig, 0, none⟩) ns ∧ AnsS w W b3 (b3 + 1) m8 t ao qn cap T sv l ∧ ig < W.heap.size) ⟨by rw [← hns, ← hig]; exact RowRd.of_flat hb7 rfl (by unfold maxLen; simp), HA0.out.on' ha7, by rw [← hig]; exact heap_lt hb7⟩ ?_
            have hm8 : m8 < ig := by rw [← hig]; exact heap_lt HA0.out.m
            rw [hig]
            rintro w7 ⟨r7, a7, l7⟩
            have H7 := Lib.hid (And.intro r7 (And.intro a7 l7))
            have hnl : ns.length = 5 := by rw [← hns]; rfl
            rw [hns] at HL0
            clear hb7 ha7 HA0 r7 a7 l7 hig hns
            obtain ⟨l0, hl0⟩ : ∃ x, l = x := ⟨_, rfl⟩
            rw [hl0] at HL0
            have HL1 := Lib.hid (show l = (ns.take 0).foldl (putIf q) l0 ∧ l.length ≤ 11 + 0 from ⟨by rw [hl0]; rfl, by omega⟩)
            have HT7 := Lib.hid (And.intro H7.out.2.1 (Fr.refl (fun k => k = m8) w7))
            clear hl0 hll
            go_loopw [12, 44] (fun s12 s44 W => ∃ (k : Nat) (sv : SV) (l : List Fld), k ≤ 5 ∧ s44 = .int .i64 k ∧ Hid (l = (ns.take k).foldl (putIf q) l0 ∧ l.length ≤ 11 + k) ∧ Hid (AnsS w W b3 (b3 + 1) m8 t ao qn cap T sv l ∧ Fr (fun k => k = m8) w7 W)) (fun _ s44 _ => 5 - (intOf s44).toNat)
            case atStart => exact ⟨0, sv, l, by omega, rfl, HL1, HT7⟩
            case round =>
              clear HL1 HT7
              obtain ⟨k, sv, l, hk, rfl, HL, HA⟩ := hrel
              by_cases hlt : k < 5
              · have q1 : (k : Int) < 5 := by omega
                have q0 : (0 : Int) ≤ (k : Int) := by omega
                have y0 := int_rd (H7.out.1.fr HA.out.2 (fun b off e => by cases e; omega)) (i := k) (by omega)
                have HS := Lib.hid (show (ns.take (k + 1)).foldl (putIf q) l0 = putIf q l (ns[k]'(by omega)) by
                  rw [List.take_succ_eq_append_getElem (by omega), List.foldl_append, ← HL.out.1]
                  rfl)
                rw [Nat.zero_add] at y0
                generalize ns[k]'(by omega) = x at *
                obtain ⟨c0, c1, d0, d1, z0, z1, -⟩ := HA.out.1.cells
                obtain ⟨sa, sn, sc⟩ := sv
                unfold SV.val at d1
                dsimp only at d1
                have ha := (Fr.refl noBlock wr).alloc (.cells #[.int .i64 x] 3)
                have HLx := Lib.hid (HLk.out _ (HA.out.1.fr.trans' ha) wr.heap.size x (heap_new wr _))
                obtain ⟨bv, hbv⟩ : ∃ b, valB x q = b := ⟨_, rfl⟩
                have hlk : lacksB q [x] = !bv := by unfold lacksB; rw [← hbv]; simp
                rw [hlk] at HLx
                have HBv := Lib.hid hbv
                clear hlk hbv
                cases bv with
                | false =>
                  go_wp2_with fail
                  refine HLx.out.mono ?_
                  rintro e w8 ⟨rfl, f8⟩
                  have H8 := Lib.hid (show AnsS w w8 b3 (b3 + 1) m8 t ao qn cap T ⟨sa, sn, sc⟩ l ∧ Fr (fun k => k = m8) w7 w8 from ⟨(HA.out.1.on' ha).on' f8, HA.out.2.trans' ((ha.trans' f8).mono (fun _ z => z.elim))⟩)
                  clear f8 ha HLx y0 c0 c1 d0 d1 z0 z1
                  go_wp2_with fail
                  go_roundw
                  case rel => exact ⟨k + 1, ⟨sa, sn, sc⟩, l, hlt, by go_num, Lib.hid ⟨by rw [HS.out]; unfold putIf; rw [if_neg (by rw [HBv.out]; simp)], by have := HL.out.2; omega⟩, H8⟩
                  case measure => simp [intOf]; omega
                | true =>
                  have HS2 := Lib.hid (show (ns.take (k + 1)).foldl (putIf q) l0 = putL l x (valS x q) by rw [HS.out]; unfold putIf; rw [if_pos HBv.out])
                  go_wp2_with fail
                  refine HLx.out.mono ?_
                  rintro e w8 ⟨rfl, f8⟩
                  have H8 := Lib.hid (show AnsS w w8 b3 (b3 + 1) m8 t ao qn cap T ⟨sa, sn, sc⟩ l ∧ Fr (fun k => k = m8) w7 w8 from ⟨(HA.out.1.on' ha).on' f8, HA.out.2.trans' ((ha.trans' f8).mono (fun _ z => z.elim))⟩)
                  clear f8 ha HLx y0 c0 c1 d0 d1 z0 z1 HS
                  obtain ⟨sx, hsx⟩ : ∃ s, valS x q = s := ⟨_, rfl⟩
                  have HV8 := Lib.hid (fun (W : World) (hW : Fr noBlock w8 W) => HVl.out W (H8.out.1.fr.trans' hW) x)
                  rw [hsx] at HS2 HV8
                  have HP8 := Lib.hid (show ∀ W, Fr noBlock w8 W → Calls Tryz.prog 119 #[.agg #[.string T, .slice sa sn sc], .int .i64 x, .string sx] W (PutP T l x sx W) from fun W hW => (H8.out.1.on' hW).putP (by have := HL.out.2; omega) x sx)
                  unfold PutP at HP8
                  have HK8 := Lib.hid (show ∀ W, Fr noBlock w8 W → W.cell? ⟨b3, 0, none⟩ = some (.string t) ∧ W.cell? ⟨b3, 1, none⟩ = some (.slice ao qn cap) ∧ W.cell? ⟨m8, 0, none⟩ = some (.string T) ∧ W.cell? ⟨m8, 1, none⟩ = some (.slice sa sn sc) ∧ W.frozen? ⟨m8, 0, none⟩ = false ∧ W.frozen? ⟨m8, 1, none⟩ = false from fun W hW => by
                    obtain ⟨a0, a1, a2, a3, a4, a5, -⟩ := (H8.out.1.on' hW).cells
                    exact ⟨a0, a1, a2, a3, a4, a5⟩)
                  have HD8 := Lib.hid (And.intro H8.out.1.d1 (heap_lt H8.out.1.m))
                  obtain ⟨c0, c1, d0, d1, z0, z1⟩ := HK8.out w8 (Fr.refl _ _)
                  clear hsx
                  go_upto_region 13 with fail
                  go_region_with (first
                    | (go_at_call 104; (with_reducible refine (HV8.out _ ?_).mono ?_); (exact (by repeat (first | (with_reducible exact Fr.refl _ _) | (with_reducible refine Fr.drew ?_) | (with_reducible refine Fr.alloc ?_ _) | (with_reducible refine Fr.trans' ?_ f9)))); rintro e w9 ⟨rfl, f9⟩; obtain ⟨c0, c1, d0, d1, z0, z1⟩ := HK8.out w9 (by repeat (first | (with_reducible exact Fr.refl _ _) | (with_reducible refine Fr.drew ?_) | (with_reducible refine Fr.alloc ?_ _) | (with_reducible refine Fr.trans' ?_ f9))))
                    | (go_at_call 119; (with_reducible refine (HP8.out _ ?_).mono ?_); (exact (by repeat (first | (with_reducible exact Fr.refl _ _) | (with_reducible refine Fr.drew ?_) | (with_reducible refine Fr.alloc ?_ _) | (with_reducible refine Fr.trans' ?_ f9)))); rintro e w10 ⟨⟨xa, xn, xc⟩, rfl, k1, k2, f10, k4⟩; dsimp only [SV.val] at k1 k2 k4 ⊢; have F10 := Lib.hid (show Fr noBlock w8 w10 from Fr.trans' (by repeat (first | (with_reducible exact Fr.refl _ _) | (with_reducible refine Fr.drew ?_) | (with_reducible refine Fr.alloc ?_ _) | (with_reducible refine Fr.trans' ?_ f9))) f10); have K10 := Lib.hid (And.intro k1 (And.intro k2 (show ∀ k, (Value.slice xa xn xc).ownBlock = some k → w8.heap.size ≤ k from fun k hk => Nat.le_trans (Fr.size (S := noBlock) (by repeat (first | (with_reducible exact Fr.refl _ _) | (with_reducible refine Fr.drew ?_) | (with_reducible refine Fr.alloc ?_ _) | (with_reducible refine Fr.trans' ?_ f9)))) (k4 k hk)))); clear k1 k2 k4 f10; obtain ⟨c0, c1, d0, d1, z0, z1⟩ := HK8.out w10 F10.out)
                    | fail "noarm")
                  all_goals
                    have hown : ∀ k, (Value.slice xa xn xc).ownBlock = some k → w.heap.size ≤ k ∧ k ≠ m8 ∧ k ≠ b3 + 1 := fun k hk => by
                      have h1 := K10.out.2.2 k hk
                      have h2 := HD8.out.2
                      have h3 := heap_lt H8.out.1.r
                      have h5 := H8.out.1.fr.size
                      exact ⟨by omega, by omega, by omega⟩
                    have HN := Lib.hid (And.intro K10.out.1 (And.intro K10.out.2.1 (And.intro F10.out hown)))
                    clear hown
                    go_wp2_with fail
                    go_roundw
                    case rel =>
                      obtain ⟨k1, k2, f810, hown⟩ := HN.out
                      exact ⟨k + 1, ⟨xa, xn, xc⟩, putL l x sx, hlt, by go_num, Lib.hid ⟨HS2.out.symm, by have := putL_len l x sx; have := HL.out.2; omega⟩, Lib.hid ⟨AnsS.put (sv2 := ⟨xa, xn, xc⟩) (H8.out.1.on' f810) k2 k1 hown, fr_set_at (fr_set_at (H8.out.2.trans' (f810.mono (fun _ z => z.elim))) 0 _) 1 _⟩⟩
                    case measure => simp [intOf]; omega
              · obtain rfl : k = 5 := by omega
                rw [show ns.take 5 = ns by rw [← hnl, List.take_length]] at HL
                have HF := Lib.hid (show l = ansL q code more by rw [HL.out.1]; exact HL0.out)
                obtain ⟨-, -, d0, d1, -, -, z0, z1, e0, e1⟩ := HA.out.1.cells
                obtain ⟨sa, sn, sc⟩ := sv
                unfold SV.val at d1
                dsimp only at d1
                go_wp2_with fail
                refine bodyPost_ret (v := .agg #[.string T, .slice sa sn sc]) (results_cell_row Tryz.results46 _ _ (b3 + 1) _ _ _ _ rfl (msg_set HA.out.1.r _ _) Tryz.underlying25 rfl info_msg) rfl ⟨⟨sa, sn, sc⟩, by rw [HT.out]; rfl, ?_, ?_, ?_, ?_⟩
                · rw [← HF.out]; exact HA.out.1.len
                · rw [← HF.out]
                  exact HA.out.1.row.fr (fr_set_at (fr_set_at (Fr.refl _ wr) 0 _) 1 _) (fun k hk e => (HA.out.1.own k hk).2.2 e)
                · exact ((HA.out.1.fr.setCell (.inr HA.out.1.d4) _).setCell (.inr HA.out.1.d4) _)
                · exact fun k hk => (HA.out.1.own k hk).1
end Go.Proofs.YtajhgejhdalobaaGreatDoor
