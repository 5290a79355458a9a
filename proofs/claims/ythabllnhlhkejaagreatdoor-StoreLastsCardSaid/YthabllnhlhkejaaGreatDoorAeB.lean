/-
  THE WALK of turn: each byte is mapped, the rows are turned.
-/
import Derived.Laws.CopyRow
import Derived.Laws.CopyOwn
import Derived.Test.YthabllnhlhkejaaGreatDoorShE
namespace Go.Proofs.YthabllnhlhkejaaGreatDoor
open Go.RowKit

theorem RowRd.lt' {α : Type} {R : Rec α} {w : World} {ao : Option Addr} {xs : List α} (h : RowRd R w ao xs) (h0 : 0 < xs.length) : ∀ a, ao = some a → a.block < w.heap.size := by
  intro a e
  obtain ⟨b, off, e2, h1, _⟩ := h.at' 0 h0
  rw [e] at e2
  cases e2
  exact h1
/-- parts that were there, beside what is new -/
theorem PBes.arg {w w' : World} {F : Nat → Prop} {pa : Option Addr} {ss : List SV} {ps : List Bs} (hr : RowRd SliceR w pa ss) (hp : PartsRd w ss ps) (hf : Fr noBlock w w') (hF : ∀ k, F k → w.heap.size ≤ k) : PBes w' F pa ss ps := by
  refine ⟨⟨hr.fr0 hf, fun h0 a e => ?_⟩, hp.1, fun i s p h1 h2 => ⟨(hp.2 i s p h1 h2).1, (hp.2 i s p h1 h2).2.fr0 hf, fun h0 a e => ?_⟩⟩
  · have h1 := hr.lt' h0 a e
    exact ⟨fun hk => by have := hF _ hk; omega, Nat.lt_of_lt_of_le h1 hf.size⟩
  · have h3 := (hp.2 i s p h1 h2).2.lt' h0 a e
    exact ⟨fun hk => by have := hF _ hk; omega, Nat.lt_of_lt_of_le h3 hf.size⟩
theorem hashF_new {h : Nat} : ∀ k, hashF h none 0 0 k → k = h := by
  rintro k (rfl | hk)
  · rfl
  · simp [Value.ownBlock] at hk
theorem sha_eq (l : List UInt8) : shaEnd (eat sha0 ([] ++ l)).1 (eat sha0 ([] ++ l)).2 l.length = sha l := rfl
set_option maxHeartbeats 800000 in
theorem shasum_any {w : World} {pa : Option Addr} {ss : List SV} {ps : List Bs} (hr : RowRd SliceR w pa ss) (hp : PartsRd w ss ps) (pc : Nat) (hb : ps.flatten.length ≤ 1099511627776) (hss : ps.length ≤ 1000000) : Calls Tryz.prog 117 #[.slice pa ps.length pc] w (ShaP (sha ps.flatten) w) := by
  have HR := Lib.hid (And.intro hr hp)
  have HN := Lib.hid (newhash_any w)
  unfold NewHashP at HN
  clear hr hp
  unfold ShaP
  go_enter Tryz.func117, Tryz.ntmps117
  go_wp2_with fail
  refine HN.out.mono ?_
  rintro e w1 ⟨h, rfl, h1, h2, h3⟩
  have HW := Lib.hid (hwrite_any h1 (by simp) (PBes.arg HR.out.1 HR.out.2 h2 (fun k hk => by rw [hashF_new k hk]; exact h3)) pc hb hss (by omega) (by omega))
  unfold HWriteP at HW
  have H1 := Lib.hid (And.intro h2 h3)
  clear h1 h2 h3
  go_wp2_with fail
  refine HW.out.mono ?_
  rintro e w2 ⟨ao, m, cap, rfl, h1, h2⟩
  have HF := Lib.hid (show Fr noBlock w w2 from H1.out.1.trans h2.fr (fun k hk => .inr (by rw [hashF_new k hk]; exact H1.out.2)))
  rw [Int.zero_add] at h1
  have HS := Lib.hid (hsum_any h1 (eat_rest _ _) hb)
  rw [sha_eq] at HS
  unfold ShaP at HS
  clear h1 h2 HW
  go_wp2_with fail
  refine HS.out.mono ?_
  rintro e w3 ⟨sv, rfl, k1, k2, k3, k4⟩
  have HE := Lib.hid (And.intro k1 (And.intro k2 (And.intro k3 k4)))
  clear k1 k2 k3 k4
  go_wp2_with fail
  go_ret
  exact ⟨sv, rfl, HE.out.1, HE.out.2.1, HF.out.trans' HE.out.2.2.1, fun k hk => Nat.le_trans HF.out.size (HE.out.2.2.2 k hk)⟩
end Go.Proofs.YthabllnhlhkejaaGreatDoor
namespace Go.Proofs.YthabllnhlhkejaaGreatDoor
open Go.RowKit

/-- copy of bytes into a place of a block, at the list of operations -/
theorem wpList_copyB {ops : Array Oper} {rest : List Oper} {o : Oper} {a : Act} {w : World} {Q : Exit → Act → World → Prop} (hgd : o.guard = none) (d s : Operand) (ho : o.op = .call { callee := .builtin .copy, args := #[d, s], argTypes := #[28, 28] })
    {g off n cap : Nat} {cur : Array Value} {t : TypeId} (hg : w.heap[g]? = some (.cells cur t (0, 0))) {sp : Option Addr} {ys : List UInt8} {m c : Nat} (ed : a.eval d = .slice (some ⟨g, off, none⟩) n cap) (es : a.eval s = .slice sp m c) (hs : RowRd ByteR w sp ys) (hm : m = ys.length) (hle : m ≤ n) (hfit : off + n ≤ cur.size)
    (h : ∀ w', w'.heap[g]? = some (.cells (cur.toList.take off ++ ys.map byteV ++ cur.toList.drop (off + m)).toArray t (0, 0)) → Fr (fun k => k = g) w w' → wpList Tryz.prog ops Q rest (a.put o.dst (.int .i64 (m : Int))) w') : wpList Tryz.prog ops Q (o :: rest) a w := by
  refine wpList_plain hgd fun _ hK => ?_
  have hsz : (Tryz.prog.info? 5).map (·.size) = some 1 := by kernel_rfl
  have hrun : ∃ w', (Builtin.copy_ #[28, 28] o.type #[.slice (some ⟨g, off, none⟩) n cap, .slice sp m c]).run Tryz.prog w = .ok (.int .i64 (m : Int)) w' ∧ w'.heap[g]? = some (.cells (cur.toList.take off ++ ys.map byteV ++ cur.toList.drop (off + m)).toArray t (0, 0)) ∧ Fr (fun k => k = g) w w' := by
    cases sp with
    | none =>
      have hy : ys = [] := by
        cases ys with
        | nil => rfl
        | cons y ys => obtain ⟨b, o, e, _⟩ := hs.at' 0 (by simp); cases e
      subst hy
      have h0 : m = 0 := hm
      subst h0
      refine ⟨w, run_copy_none w 28 28 o.type 5 _ _ n cap 0 c Tryz.underlying28 hsz (by simp), ?_, Fr.refl _ _⟩
      rw [hg]
      simp
    | some b =>
      have hcl : (ys.map byteV).length = m := by rw [List.length_map, hm]
      have hr := run_copy_row (P := Tryz.prog) w 28 28 o.type 5 g off n cap b m c cur t (ys.map byteV) Tryz.underlying28 hsz hg (by rw [hcl]; exact (Nat.min_eq_left hle).symm)
        (fun j u hu => hs.cells j u (by rw [flat_bytes]; exact hu)) (by rw [hcl]; omega) (by intro v hv; obtain ⟨q, _, rfl⟩ := List.mem_map.1 hv; rfl)
      rw [hcl] at hr
      exact ⟨_, hr, setRow_heap w g cur _ t _ hg, fr_setRow g _⟩
  obtain ⟨w', hr, h1, h2⟩ := hrun
  unfold Oper.wp execOp
  simp only [ho, resolve, invoke, builtin, Sem.run_bind, Sem.run_pure, Result.andThen_ok, List.map_toArray, List.map_cons, List.map_nil, ed, es, hr]
  exact hK _ _ (h w' h1 h2)

/-- a maker's block: its key, its Once (done, the lock), its halves -/
def makerL (v : Value) (d s q : Int) (X Y : List UInt8) : List Value := [v, .int .u32 d, .int .i32 s, .int .u32 q] ++ X.map byteV ++ Y.map byteV
def makerO (v : Value) (d s q : Int) (X Y : List UInt8) : Obj := .cells (makerL v d s q X Y).toArray 181 (0, 0)
def xorP (x : UInt8) (l : List UInt8) (i : Nat) : List UInt8 := (l.take i).map (· ^^^ x) ++ l.drop i
theorem xorP_len (x : UInt8) (l : List UInt8) {i : Nat} (h : i ≤ l.length) : (xorP x l i).length = l.length := by simp [xorP]; omega
theorem xorP_zero (x : UInt8) (l : List UInt8) : xorP x l 0 = l := by simp [xorP]
theorem xorP_all (x : UInt8) {l : List UInt8} {i : Nat} (h : l.length ≤ i) : xorP x l i = l.map (· ^^^ x) := by simp [xorP, List.take_of_length_le h, List.drop_of_length_le h]
theorem xorP_get (x : UInt8) (l : List UInt8) {i : Nat} (h : i < l.length) : (xorP x l i)[i]? = some l[i] := by
  unfold xorP
  rw [List.getElem?_append_right (by simp <;> omega)]
  simp [Nat.min_eq_left (Nat.le_of_lt h)]
theorem xorP_set (x : UInt8) (l : List UInt8) {i : Nat} (h : i < l.length) : (xorP x l i).set i (l[i] ^^^ x) = xorP x l (i + 1) := by
  unfold xorP
  have e : ((l.take i).map (· ^^^ x)).length = i := by simp; omega
  rw [List.set_append_right _ _ (by omega), e, Nat.sub_self, List.take_succ_eq_append_getElem h, List.map_append, List.append_assoc]
  rw [List.drop_eq_getElem_cons h, List.set_cons_zero]
  rfl
section
variable {w : World} {b : Nat} {v : Value} {d s q : Int} {X Y : List UInt8}
theorem makerL_len (hX : X.length = 64) (hY : Y.length = 64) : (makerL v d s q X Y).length = 132 := by simp [makerL, hX, hY]
theorem makerX (h : w.heap[b]? = some (makerO v d s q X Y)) (_hX : X.length = 64) {i : Nat} {c : UInt8} (hc : X[i]? = some c) : w.cell? ⟨b, 4 + i, none⟩ = some (byteV c) ∧ w.frozen? ⟨b, 4 + i, none⟩ = false := by
  refine ⟨?_, free_of h _⟩
  have hi := (List.getElem?_eq_some_iff.1 hc).1
  rw [cell_of h, List.getElem?_toArray]
  unfold makerL
  rw [List.append_assoc, List.getElem?_append_right (by simp), List.getElem?_append_left (by simp <;> omega)]
  simp [hc]
theorem makerY (h : w.heap[b]? = some (makerO v d s q X Y)) (hX : X.length = 64) {i : Nat} {c : UInt8} (hc : Y[i]? = some c) : w.cell? ⟨b, 68 + i, none⟩ = some (byteV c) ∧ w.frozen? ⟨b, 68 + i, none⟩ = false := by
  refine ⟨?_, free_of h _⟩
  rw [cell_of h, List.getElem?_toArray]
  unfold makerL
  rw [List.getElem?_append_right (by simp [hX] <;> omega)]
  have e : 68 + i - ([v, .int .u32 d, .int .i32 s, .int .u32 q] ++ X.map byteV).length = i := by simp [hX]
  rw [e]
  simp [hc]
theorem maker_setX (h : w.heap[b]? = some (makerO v d s q X Y)) (hX : X.length = 64) {i : Nat} (hi : i < 64) (c : UInt8) : (w.setCell ⟨b, 4 + i, none⟩ (byteV c)).heap[b]? = some (makerO v d s q (X.set i c) Y) := by
  rw [heap_set_eq h]
  unfold makerO makerL
  congr 2
  rw [List.setIfInBounds_toArray, List.append_assoc, List.set_append_right _ _ (by simp), List.set_append_left _ _ (by simp <;> omega), List.map_set, List.append_assoc]
  congr 3
  simp
theorem maker_setY (h : w.heap[b]? = some (makerO v d s q X Y)) (hX : X.length = 64) {i : Nat} (_hi : i < 64) (c : UInt8) : (w.setCell ⟨b, 68 + i, none⟩ (byteV c)).heap[b]? = some (makerO v d s q X (Y.set i c)) := by
  rw [heap_set_eq h]
  unfold makerO makerL
  congr 2
  rw [List.setIfInBounds_toArray, List.set_append_right _ _ (by simp [hX] <;> omega), List.map_set]
  congr 2
  simp [hX]
theorem maker_head (h : w.heap[b]? = some (makerO v d s q X Y)) : w.cell? ⟨b, 0, none⟩ = some v ∧ w.cell? ⟨b, 1, none⟩ = some (.int .u32 d) ∧ w.cell? ⟨b, 2, none⟩ = some (.int .i32 s) ∧ w.frozen? ⟨b, 1, none⟩ = false ∧ w.frozen? ⟨b, 2, none⟩ = false :=
  ⟨cell_of h 0, cell_of h 1, cell_of h 2, free_of h 1, free_of h 2⟩
end
theorem xor36_u8 (c : UInt8) : bits .xor .u8 (c.toNat : Int) 54 = ((c ^^^ 0x36).toNat : Int) := by
  rw [show (54 : Int) = ((0x36 : UInt8).toNat : Int) from rfl, u8x]
theorem xor5c_u8 (c : UInt8) : bits .xor .u8 (c.toNat : Int) 92 = ((c ^^^ 0x5c).toNat : Int) := by
  rw [show (92 : Int) = ((0x5c : UInt8).toNat : Int) from rfl, u8x]
theorem maker_over {v : Value} {d s q : Int} {X Y k : List UInt8} (hX : X.length = 64) (hk : k.length ≤ 64) :
    ((makerL v d s q X Y).toArray.toList.take 4 ++ k.map byteV ++ (makerL v d s q X Y).toArray.toList.drop (4 + k.length)) = makerL v d s q (k ++ X.drop k.length) Y := by
  unfold makerL
  simp only [List.append_assoc]
  rw [List.take_append_of_le_length (by simp), List.drop_append]
  have e1 : List.take 4 [v, Value.int .u32 d, Value.int .i32 s, Value.int .u32 q] = [v, .int .u32 d, .int .i32 s, .int .u32 q] := rfl
  have e2 : List.drop (4 + k.length) [v, Value.int .u32 d, Value.int .i32 s, Value.int .u32 q] = [] := List.drop_of_length_le (by simp)
  rw [e1, e2, List.nil_append]
  have e3 : 4 + k.length - [v, Value.int .u32 d, Value.int .i32 s, Value.int .u32 q].length = k.length := by simp
  rw [e3, List.drop_append_of_le_length (by simp [hX]; exact hk), List.map_append, List.map_drop, List.append_assoc]
theorem maker_over2 {v : Value} {d s q : Int} {X Y k : List UInt8} (hX : X.length = 64) (_hY : Y.length = 64) (hk : k.length ≤ 64) :
    ((makerL v d s q X Y).toArray.toList.take 68 ++ k.map byteV ++ (makerL v d s q X Y).toArray.toList.drop (68 + k.length)) = makerL v d s q X (k ++ Y.drop k.length) := by
  unfold makerL
  have e0 : ([v, Value.int .u32 d, Value.int .i32 s, Value.int .u32 q] ++ X.map byteV).length = 68 := by simp [hX]
  show List.take 68 (([v, Value.int .u32 d, Value.int .i32 s, Value.int .u32 q] ++ X.map byteV) ++ Y.map byteV) ++ k.map byteV ++ List.drop (68 + k.length) (([v, Value.int .u32 d, Value.int .i32 s, Value.int .u32 q] ++ X.map byteV) ++ Y.map byteV) = _
  rw [List.take_append_of_le_length (by rw [e0]; exact Nat.le_refl _), List.take_of_length_le (by rw [e0]; exact Nat.le_refl _), List.drop_append, List.drop_of_length_le (by rw [e0]; omega), List.nil_append, e0, show 68 + k.length - 68 = k.length by omega, List.map_append, List.map_drop, List.append_assoc]
theorem RowRd.keep {α : Type} {R : Rec α} {w w' : World} {ao : Option Addr} {xs : List α} {b : Nat} (h : RowRd R w ao xs) (hf : Fr (fun k => k = b) w w') (hn : 0 < xs.length → ∀ a, ao = some a → a.block ≠ b) : RowRd R w' ao xs := by
  cases xs with
  | nil => exact RowRd.nil
  | cons x xs => exact h.fr hf (fun b' off e => hn (by simp) _ e)
def KIn (w : World) (b : Nat) (key : List UInt8) (ko : Option Addr) (kn : Nat) (X : World) : Prop :=
  RowRd ByteR X ko (macK key) ∧ kn = (macK key).length ∧ (0 < (macK key).length → ∀ a, ko = some a → a.block ≠ b) ∧ Fr noBlock w X
set_option maxRecDepth 100000 in
set_option maxHeartbeats 3200000 in
theorem halves_any {w : World} {b : Nat} {ko : Option Addr} {kn kc : Nat} {d s q : Int} {key : List UInt8} (hb : w.heap[b]? = some (makerO (.slice ko kn kc) d s q (List.replicate 64 0) (List.replicate 64 0))) (hk : RowRd ByteR w ko key) (hn : kn = key.length) (hne : 0 < key.length → ∀ a, ko = some a → a.block ≠ b) (hl : key.length ≤ 1099511627776) :
    Calls Tryz.prog 114 #[.pointer (some ⟨b, 0, none⟩)] w fun e w' => e = .returned (.tuple #[]) ∧ w'.heap[b]? = some (makerO (.slice ko kn kc) d s q (macX 0x36 key) (macX 0x5c key)) ∧ Fr (fun k => k = b) w w' := by
  have h0 := (maker_head hb).1
  have hblt := heap_lt hb
  subst hn
  have HB := Lib.hid hb
  have HK := Lib.hid hk
  have HNe := Lib.hid hne
  clear hb hk hne
  go_enter Tryz.func114, Tryz.ntmps114
  go_upto_if 10 with fail
  go_cut [2] from 11 to 13 (fun s2 wx => ∃ (xo : Option Addr) (xn xc : Nat), s2 = .slice xo xn xc ∧ Hid (KIn w b key xo xn wx))
  case first =>
    by_cases hg : 64 < key.length
    · have q1 : (64 : Int) < (key.length : Int) := by omega
      have hmk : macK key = sha key := by unfold macK; rw [if_pos hg]
      have HKs := Lib.hid (show Calls Tryz.prog 117 #[.slice (some ⟨w.heap.size, 0, none⟩) 1 1] (w.alloc (.cells #[.slice ko key.length kc] 28)) (ShaP (sha key) (w.alloc (.cells #[.slice ko key.length kc] 28))) by
        have ha := (Fr.refl noBlock w).alloc (.cells #[.slice ko key.length kc] 28)
        have h := shasum_any (ss := [⟨ko, key.length, kc⟩]) (ps := [key]) (RowRd.one (heap_new w (.cells #[.slice ko key.length kc] 28)) (⟨ko, key.length, kc⟩ : SV) rfl) ⟨rfl, fun i sv p h1 h2 => by
          obtain rfl : i = 0 := by
            have := (List.getElem?_eq_some_iff.1 h1).1
            simpa using this
          simp at h1 h2
          subst h1 h2
          exact ⟨rfl, HK.out.fr0 ha⟩⟩ 1 (by simpa using hl) (by simp)
        simpa using h)
      unfold ShaP at HKs
      go_wp2_with fail
      refine HKs.out.mono ?_
      rintro e w2 ⟨⟨xa, xn, xc⟩, rfl, h1, h2, h3, h4⟩
      unfold SV.val at h2 h4 ⊢
      dsimp only at h1 h2 h4 ⊢
      have HI := Lib.hid (show KIn w b key xa xn w2 from ⟨by rw [hmk]; exact RowAt.rd h2, by rw [hmk]; exact h1, fun _ a e eb => by
        subst e
        have h5 := h4 a.block rfl
        simp at h5
        omega, (((Fr.refl noBlock w).alloc _).trans' h3)⟩)
      clear h1 h2 h3 h4 HKs
      go_wp2_with fail
      go_meet
      exact ⟨xa, xn, xc, rfl, HI⟩
    · have q1 : (key.length : Int) ≤ 64 := by omega
      have hmk : macK key = key := by unfold macK; rw [if_neg hg]
      have HI := Lib.hid (show KIn w b key ko key.length w from ⟨by rw [hmk]; exact HK.out, by rw [hmk], by rw [hmk]; exact HNe.out, Fr.refl _ _⟩)
      go_wp2_with fail
      go_meet
      exact ⟨ko, _, kc, rfl, HI⟩
  obtain ⟨xo, xn, xc, rfl, HI⟩ := hcut
  generalize wc = w2 at *
  have hkl := macK_len key
  obtain ⟨kk, hkk⟩ : ∃ kk, macK key = kk := ⟨_, rfl⟩
  have HKK := Lib.hid hkk
  have HI2 := Lib.hid (show RowRd ByteR w2 xo kk ∧ xn = kk.length ∧ (0 < kk.length → ∀ a, xo = some a → a.block ≠ b) ∧ Fr noBlock w w2 by rw [← hkk]; exact HI.out)
  rw [hkk] at hkl
  obtain rfl := HI2.out.2.1
  have HB2 := Lib.hid (HI2.out.2.2.2.obj HB.out (fun z => z))
  clear hkk HI h0
  go_upto_region 4 with (refine wpList_copyB rfl _ _ rfl HB2.out rfl rfl HI2.out.1 rfl (by omega) (by simp [makerL]) ?_; intro w3 h3 f3; go_frame)
  obtain ⟨P0, hP0⟩ : ∃ P0, kk ++ List.replicate (64 - kk.length) (0 : UInt8) = P0 := ⟨_, rfl⟩
  have hPl : P0.length = 64 := by rw [← hP0]; simp; omega
  have hov : kk ++ (List.replicate 64 (0 : UInt8)).drop kk.length = P0 := by rw [← hP0, List.drop_replicate]
  rw [maker_over (by simp) hkl, hov] at h3
  have HB3 := Lib.hid (show w3.heap[b]? = some (makerO (.slice ko key.length kc) d s q P0 (List.replicate 64 0)) from h3)
  have HK3 := Lib.hid (HI2.out.1.keep f3 HI2.out.2.2.1)
  have HF3 := Lib.hid ((HI2.out.2.2.2.mono (fun _ z => z.elim)).trans' f3)
  clear h3 f3 HB2
  go_upto_region 5 with (refine wpList_copyB rfl _ _ rfl HB3.out rfl rfl HK3.out rfl (by omega) (by simp [makerL, hPl]) ?_; intro w4 h4 f4; go_frame)
  rw [maker_over2 hPl (by simp) hkl, hov] at h4
  have HB4 := Lib.hid (show w4.heap[b]? = some (makerO (.slice ko key.length kc) d s q (xorP 0x36 P0 0) (xorP 0x5c P0 0)) by rw [xorP_zero, xorP_zero]; exact h4)
  have HF4 := Lib.hid (HF3.out.trans' f4)
  have HMx := Lib.hid (show macX 0x36 key = P0.map (· ^^^ 0x36) ∧ macX 0x5c key = P0.map (· ^^^ 0x5c) by
    unfold macX
    rw [HKK.out, hP0]
    exact ⟨rfl, rfl⟩)
  clear h4 f4 HB3 HF3 HK3 HI2 HKK hP0 hov hkl
  go_wp2_with fail
  go_loopw [26] (fun s26 wr => ∃ i : Nat, i ≤ 64 ∧ s26 = .int .i64 i ∧ Hid (wr.heap[b]? = some (makerO (.slice ko key.length kc) d s q (xorP 0x36 P0 i) (xorP 0x5c P0 i))) ∧ Hid (Fr (fun k => k = b) w wr)) (fun s26 _ => 64 - (intOf s26).toNat)
  case atStart => exact ⟨0, by omega, rfl, HB4, HF4⟩
  case round =>
    clear HB4 HF4
    obtain ⟨i, hi, rfl, HBi, HFi⟩ := hrel
    by_cases hlt : i < 64
    · have q1 : (i : Int) < 64 := by omega
      have q0 : (0 : Int) ≤ (i : Int) := by omega
      have hiP : i < P0.length := by omega
      have hlX : (xorP 0x36 P0 i).length = 64 := by rw [xorP_len _ _ (by omega), hPl]
      obtain ⟨x0, x1⟩ := makerX HBi.out hlX (xorP_get 0x36 P0 hiP)
      have HB5 := Lib.hid (maker_setX ((Fr.refl noBlock wr).drew.obj HBi.out (fun z => z)) hlX (i := i) hlt (P0[i] ^^^ 0x36))
      rw [xorP_set 0x36 P0 hiP] at HB5
      have hlX2 : (xorP 0x36 P0 (i + 1)).length = 64 := by rw [xorP_len _ _ (by omega), hPl]
      have HF5 := Lib.hid (HFi.out.drew.setCell (p := ⟨b, 4 + i, none⟩) (.inl rfl) (byteV (P0[i] ^^^ 0x36)))
      unfold byteV at x0 HB5 HF5
      obtain ⟨c, hc⟩ : ∃ c, P0[i] = c := ⟨_, rfl⟩
      have HX36 := Lib.hid (xor36_u8 c)
      rw [hc] at x0 HB5 HF5
      rw [← HX36.out] at HB5 HF5
      go_wp2_with fail
      go_still_tail 10, (by kernel_rfl)
      change wpList _ _ _ _ _ wr.drew
      go_upto_region 9 with fail
      refine wp_at (fun W => W.heap[b]? = some (makerO (.slice ko key.length kc) d s q (xorP 0x36 P0 (i + 1)) (xorP 0x5c P0 i)) ∧ Fr (fun k => k = b) w W) ⟨HB5.out, HF5.out⟩ ?_
      clear HB5 HF5 HX36 x0 x1 HBi HFi
      rintro w6 ⟨h6, f6⟩
      obtain ⟨y0, y1⟩ := makerY h6 hlX2 (xorP_get 0x5c P0 hiP)
      have HB7 := Lib.hid (maker_setY ((Fr.refl noBlock w6).drew.obj h6 (fun z => z)) hlX2 (i := i) hlt (P0[i] ^^^ 0x5c))
      rw [xorP_set 0x5c P0 hiP] at HB7
      have HF7 := Lib.hid (f6.drew.setCell (p := ⟨b, 68 + i, none⟩) (.inl rfl) (byteV (P0[i] ^^^ 0x5c)))
      unfold byteV at y0 HB7 HF7
      have HX5 := Lib.hid (xor5c_u8 c)
      rw [hc] at y0 HB7 HF7
      rw [← HX5.out] at HB7 HF7
      clear h6 f6
      go_wp2_with fail
      go_still_tail 10, (by kernel_rfl)
      change wpList _ _ _ _ _ w6.drew
      go_wp2_with fail
      go_roundw
      case rel => exact ⟨i + 1, hlt, by go_num, HB7, HF7⟩
      case measure => simp [intOf]; omega
    · have q1 : (64 : Int) ≤ (i : Int) := by omega
      obtain rfl : i = 64 := by omega
      go_wp2_with fail
      go_end0
      refine ⟨rfl, ?_, HFi.out⟩
      rw [HBi.out, xorP_all _ (by omega), xorP_all _ (by omega), HMx.out.1, HMx.out.2]
end Go.Proofs.YthabllnhlhkejaaGreatDoor
namespace Go.Proofs.YthabllnhlhkejaaGreatDoor
open Go.RowKit

def bytesO (l : List UInt8) (t : TypeId) : Obj := .cells (l.map byteV).toArray t (0, 0)
theorem bytesO_cell {w : World} {b : Nat} {l : List UInt8} {t : TypeId} (h : w.heap[b]? = some (bytesO l t)) {i : Nat} {c : UInt8} (hc : l[i]? = some c) : w.cell? ⟨b, i, none⟩ = some (.int .u8 (c.toNat : Int)) ∧ w.frozen? ⟨b, i, none⟩ = false := by
  refine ⟨?_, free_of h i⟩
  rw [cell_of h]
  simp [hc, byteV]
theorem bytesO_set {w : World} {b : Nat} {l : List UInt8} {t : TypeId} (h : w.heap[b]? = some (bytesO l t)) (i : Nat) (c : UInt8) : (w.setCell ⟨b, i, none⟩ (.int .u8 (c.toNat : Int))).heap[b]? = some (bytesO (l.set i c) t) := by
  rw [heap_set_eq h]
  unfold bytesO
  congr 2
  simp [byteV, List.map_set]
def layF (l k : List UInt8) : List UInt8 := List.zipWith (· ^^^ ·) l k
def layL (l k : List UInt8) (i : Nat) : List UInt8 := (layF l k).take i ++ l.drop i
theorem layF_len {l k : List UInt8} (h : l.length = k.length) : (layF l k).length = l.length := by simp [layF]; omega
theorem layL_len {l k : List UInt8} (h : l.length = k.length) {i : Nat} (hi : i ≤ l.length) : (layL l k i).length = l.length := by
  unfold layL
  rw [List.length_append, List.length_take, layF_len h, List.length_drop]
  omega
theorem layL_zero (l k : List UInt8) : layL l k 0 = l := by simp [layL]
theorem layL_all {l k : List UInt8} (h : l.length = k.length) : layL l k l.length = layF l k := by
  unfold layL
  rw [List.drop_length, List.append_nil, List.take_of_length_le (by rw [layF_len h]; exact Nat.le_refl _)]
theorem layL_get {l k : List UInt8} (h : l.length = k.length) {i : Nat} (hi : i < l.length) : (layL l k i)[i]? = some l[i] := by
  unfold layL
  have e : ((layF l k).take i).length = i := by rw [List.length_take, layF_len h]; omega
  rw [List.getElem?_append_right (by omega), e, Nat.sub_self, List.getElem?_drop, Nat.add_zero, List.getElem?_eq_getElem hi]
theorem layL_set {l k : List UInt8} (h : l.length = k.length) {i : Nat} (hi : i < l.length) : (layL l k i).set i (l[i] ^^^ k[i]) = layL l k (i + 1) := by
  unfold layL
  have e : ((layF l k).take i).length = i := by rw [List.length_take, layF_len h]; omega
  have hf : i < (layF l k).length := by rw [layF_len h]; exact hi
  rw [List.set_append_right _ _ (by omega), e, Nat.sub_self, List.take_succ_eq_append_getElem hf, List.append_assoc, List.drop_eq_getElem_cons hi, List.set_cons_zero]
  simp [layF]
set_option maxRecDepth 100000 in
set_option maxHeartbeats 1600000 in
theorem lay_any {w : World} {b : Nat} {l k : List UInt8} (hb : w.heap[b]? = some (bytesO l 175)) (hl : l.length = 16) (hk : k.length = 16) : Calls Tryz.prog 111 #[.pointer (some ⟨b, 0, none⟩), .agg (k.map byteV).toArray] w fun e w' => e = .returned (.tuple #[]) ∧ w'.heap[b]? = some (bytesO (layF l k) 175) ∧ Fr (fun q => q = b) w w' := by
  have hblt := heap_lt hb
  have hlk : l.length = k.length := by omega
  have HB := Lib.hid hb
  have HKb := Lib.hid (show (w.alloc (bytesO k 175)).heap[w.heap.size]? = some (bytesO k 175) from heap_new w _)
  clear hb
  have HA := Lib.hid (show (w.alloc (bytesO k 175)).heap[b]? = some (bytesO (layL l k 0) 175) by rw [layL_zero]; exact heap_old _ HB.out)
  have HFa := Lib.hid ((Fr.refl (fun q => q = b) w).alloc (bytesO k 175))
  go_enter Tryz.func111, Tryz.ntmps111
  go_upto_region 1 with fail
  refine wp_at (fun W => W.heap[b]? = some (bytesO (layL l k 0) 175) ∧ W.heap[w.heap.size]? = some (bytesO k 175) ∧ Fr (fun q => q = b) w W) ⟨HA.out, HKb.out, HFa.out⟩ ?_
  clear HA HKb HFa HB
  rintro w1 ⟨h1, h2, f1⟩
  have H1 := Lib.hid (And.intro h1 (And.intro h2 f1))
  clear h1 h2 f1
  go_wp2_with fail
  go_loopw [5] (fun s5 W => ∃ i : Nat, i ≤ 16 ∧ s5 = .int .i64 i ∧ Hid (W.heap[b]? = some (bytesO (layL l k i) 175) ∧ W.heap[w.heap.size]? = some (bytesO k 175) ∧ Fr (fun q => q = b) w W)) (fun s5 _ => 16 - (intOf s5).toNat)
  case atStart => exact ⟨0, by omega, rfl, H1⟩
  case round =>
    clear H1
    obtain ⟨i, hi, rfl, HI⟩ := hrel
    by_cases hlt : i < 16
    · have q1 : (i : Int) < 16 := by omega
      have q0 : (0 : Int) ≤ (i : Int) := by omega
      have hil : i < l.length := by omega
      have hik : i < k.length := by omega
      obtain ⟨x0, x1⟩ := bytesO_cell HI.out.1 (layL_get hlk hil)
      obtain ⟨y0, -⟩ := bytesO_cell HI.out.2.1 (List.getElem?_eq_getElem hik)
      have HB2 := Lib.hid (bytesO_set ((Fr.refl noBlock wr).drew.obj HI.out.1 (fun z => z)) i (l[i] ^^^ k[i]))
      rw [layL_set hlk hil] at HB2
      have hne : b ≠ w.heap.size := by omega
      have HK2 := Lib.hid (heap_set_ne (b := b) (i := i) (u := .int .u8 ((l[i] ^^^ k[i]).toNat : Int)) ((Fr.refl noBlock wr).drew.obj HI.out.2.1 (fun z => z)) (fun e => hne e.symm))
      have HF2 := Lib.hid (fr_set_at HI.out.2.2.drew i (.int .u8 ((l[i] ^^^ k[i]).toNat : Int)))
      generalize l[i] = x at *
      generalize k[i] = y at *
      have HV := Lib.hid (u8x x y)
      rw [← HV.out] at HB2 HK2 HF2
      go_wp2_with fail
      go_still_tail 11, (by kernel_rfl)
      change wpList _ _ _ _ _ wr.drew
      go_wp2_with fail
      go_roundw
      case rel => exact ⟨i + 1, hlt, by go_num, Lib.hid ⟨HB2.out, HK2.out, HF2.out⟩⟩
      case measure => simp [intOf]; omega
    · have q1 : (16 : Int) ≤ (i : Int) := by omega
      obtain rfl : i = 16 := by omega
      go_wp2_with fail
      go_end0
      refine ⟨rfl, ?_, HI.out.2.2⟩
      have h := HI.out.1
      rw [show (16 : Nat) = l.length by omega, layL_all hlk] at h
      exact h
end Go.Proofs.YthabllnhlhkejaaGreatDoor
namespace Go.Proofs.YthabllnhlhkejaaGreatDoor
open Go.RowKit

/-- i things of the new row, the others of the old one -/
def overL (n o : List UInt8) (i : Nat) : List UInt8 := n.take i ++ o.drop i
theorem overL_len {n o : List UInt8} (h : n.length = o.length) {i : Nat} (hi : i ≤ o.length) : (overL n o i).length = o.length := by
  unfold overL
  rw [List.length_append, List.length_take, h, List.length_drop]
  omega
theorem overL_zero (n o : List UInt8) : overL n o 0 = o := by simp [overL]
theorem overL_all {n o : List UInt8} {i : Nat} (h : n.length = o.length) (hi : i = o.length) : overL n o i = n := by
  subst hi
  unfold overL
  rw [List.drop_length, List.append_nil, List.take_of_length_le (by omega)]
theorem overL_get {n o : List UInt8} (h : n.length = o.length) {i : Nat} (hi : i < o.length) : (overL n o i)[i]? = some o[i] := by
  unfold overL
  have e : (n.take i).length = i := by rw [List.length_take]; omega
  rw [List.getElem?_append_right (by omega), e, Nat.sub_self, List.getElem?_drop, Nat.add_zero, List.getElem?_eq_getElem hi]
theorem overL_set {n o : List UInt8} (h : n.length = o.length) {i : Nat} (hi : i < o.length) (c : UInt8) (hc : n[i]? = some c) : (overL n o i).set i c = overL n o (i + 1) := by
  unfold overL
  have e : (n.take i).length = i := by rw [List.length_take]; omega
  rw [List.set_append_right _ _ (by omega), e, Nat.sub_self, List.take_add_one, hc, List.append_assoc, List.drop_eq_getElem_cons hi, List.set_cons_zero]
  rfl
def turnF (l : List UInt8) : List UInt8 := (List.range 16).map (fun i => fBox (l.getD ((i + 4 * (i % 4)) % 16) 0))
theorem turnF_len (l : List UInt8) : (turnF l).length = 16 := by simp [turnF]
/-- the byte map lies there -/
def BoxAt (W : World) (a o : Nat) : Prop := ∀ c : UInt8, W.cell? ⟨a, o + c.toNat, none⟩ = some (.int .u8 ((fBox c).toNat : Int))
theorem BoxAt.fr {S : Nat → Prop} {w w' : World} {a o : Nat} (h : BoxAt w a o) (ha : a < w.heap.size) (hf : Fr S w w') (hn : ¬ S a) : BoxAt w' a o := fun c => (hf.cell (p := ⟨a, o + c.toNat, none⟩) ha hn).trans (h c)
set_option maxRecDepth 100000 in
set_option maxHeartbeats 3200000 in
theorem turn_any {w : World} {b a o : Nat} {l : List UInt8} (hb : w.heap[b]? = some (bytesO l 175)) (hl : l.length = 16) (hx : BoxAt w a o) (ha : a < w.heap.size) (hab : a ≠ b) : Calls Tryz.prog 112 #[.pointer (some ⟨b, 0, none⟩), .pointer (some ⟨a, o, none⟩)] w fun e w' => e = .returned (.tuple #[]) ∧ w'.heap[b]? = some (bytesO (turnF l) 175) ∧ Fr (fun q => q = b) w w' := by
  have hblt := heap_lt hb
  have HB := Lib.hid hb
  have HX := Lib.hid hx
  clear hb hx
  have hlen : (turnF l).length = l.length := by rw [turnF_len, hl]
  have hinfo : (Tryz.prog.info? 175).map (·.size) = some (l.map byteV).toArray.size := by simp only [List.size_toArray, List.length_map, hl]; kernel_rfl
  have h1 : ((l.map byteV).toArray).all (·.oneCell') = true := all_oneCell_toArray (by intro v hv; obtain ⟨c, _, rfl⟩ := List.mem_map.1 hv; rfl)
  have HNew := Lib.hid (fun (cs : Array Value) (hc : cs.size = 16) => show (w.alloc (.cells cs 175)).there w.heap.size 0 (l.map byteV).toArray.size by simp only [List.size_toArray, List.length_map, hl]; exact there_new w cs 175 hc)
  have HOver := Lib.hid (fun (cs : Array Value) (hc : cs.size = 16) => show ((w.alloc (.cells cs 175)).setCells w.heap.size 0 (l.map byteV).toArray.toList).heap[w.heap.size]? = some (bytesO l 175) by
    have h := heap_over (l.map byteV).toArray.toList (heap_new w (.cells cs 175)) (by rw [hc]; simp [hl])
    rw [h]
    rfl)
  have HFr := Lib.hid (fun (cs : Array Value) => fr_setCells ((Fr.refl noBlock w).alloc (.cells cs 175)) (g := w.heap.size) (o := 0) (.inr (Nat.le_refl _)) (l.map byteV).toArray.toList)
  go_enter Tryz.func112, Tryz.ntmps112
  go_upto_region 1 with (first
    | (refine wpList_load_row rfl _ _ rfl b rfl _ _ _ _ HB.out Tryz.underlying175 rfl hinfo ?_)
    | (refine wpList_store_mid (by rfl) 175 _ _ (by rfl) w.heap.size 0 _ (by rfl) (by rfl) (HNew.out _ (by rfl)) hinfo h1 ?_))
  go_frame
  refine wp_at (fun W => W.heap[w.heap.size]? = some (bytesO l 175) ∧ Fr noBlock w W) ⟨HOver.out _ (by rfl), HFr.out _⟩ ?_
  clear HNew HOver HFr hinfo h1
  rintro w1 ⟨k1, k2⟩
  have H1 := Lib.hid (And.intro k1 (And.intro (show w1.heap[b]? = some (bytesO (overL (turnF l) l 0) 175) by rw [overL_zero]; exact k2.obj HB.out (fun z => z)) (k2.mono (T := fun q => q = b) (fun _ z => z.elim))))
  obtain ⟨ob, hob⟩ : ∃ ob, w.heap.size = ob := ⟨_, rfl⟩
  rw [hob] at H1 ⊢
  clear k1 k2
  go_wp2_with fail
  go_loopw [9] (fun s9 W => ∃ i : Nat, i ≤ 16 ∧ s9 = .int .i64 i ∧ Hid (W.heap[ob]? = some (bytesO l 175) ∧ W.heap[b]? = some (bytesO (overL (turnF l) l i) 175) ∧ Fr (fun q => q = b) w W)) (fun s9 _ => 16 - (intOf s9).toNat)
  case atStart => exact ⟨0, by omega, rfl, H1⟩
  case round =>
    clear H1
    obtain ⟨i, hi, rfl, HI⟩ := hrel
    by_cases hlt : i < 16
    · have q1 : (i : Int) < 16 := by omega
      have q0 : (0 : Int) ≤ (i : Int) := by omega
      have hil : i < l.length := by omega
      obtain ⟨r, hr⟩ : ∃ r, i % 4 = r := ⟨_, rfl⟩
      obtain ⟨j, hj⟩ : ∃ j, (i + 4 * r) % 16 = j := ⟨_, rfl⟩
      have hr4 : r < 4 := by omega
      have hj16 : j < 16 := by omega
      have q3 : Int.tmod (i : Int) 4 = (r : Int) := by rw [Int.tmod_eq_emod_of_nonneg (by omega)]; omega
      have q6 : Int.tmod ((i : Int) + 4 * (r : Int)) 16 = (j : Int) := by rw [Int.tmod_eq_emod_of_nonneg (by omega)]; omega
      have q4 : wrap64 (4 * (r : Int)) = 4 * (r : Int) := by unfold wrap64; omega
      have q5 : wrap64 ((i : Int) + 4 * (r : Int)) = (i : Int) + 4 * (r : Int) := by unfold wrap64; omega
      have q4i : IntKind.i64.wrap (4 * (r : Int)) = 4 * (r : Int) := by rw [IntKind.wrap_i64]; omega
      have q5i : IntKind.i64.wrap ((i : Int) + 4 * (r : Int)) = (i : Int) + 4 * (r : Int) := by rw [IntKind.wrap_i64]; omega
      have q7 : (j : Int) < 16 := by omega
      have q8 : (r : Int) < 4 := by omega
      have hjl : j < l.length := by omega
      obtain ⟨y0, -⟩ := bytesO_cell HI.out.1 (List.getElem?_eq_getElem hjl)
      obtain ⟨x0, x1⟩ := bytesO_cell HI.out.2.1 (overL_get hlen hil)
      have hc : (turnF l)[i]? = some (fBox l[j]) := by
        unfold turnF
        rw [List.getElem?_map, List.getElem?_range hlt]
        simp only [Option.map_some, hr, hj, List.getD_eq_getElem?_getD, List.getElem?_eq_getElem hjl, Option.getD_some]
      have HB2 := Lib.hid (bytesO_set ((Fr.refl noBlock wr).drew.obj HI.out.2.1 (fun z => z)) i (fBox l[j]))
      rw [overL_set hlen hil _ hc] at HB2
      have hne : b ≠ ob := by omega
      have HO2 := Lib.hid (heap_set_ne (b := b) (i := i) (u := .int .u8 ((fBox l[j]).toNat : Int)) ((Fr.refl noBlock wr).drew.obj HI.out.1 (fun z => z)) (fun e => hne e.symm))
      have HF2 := Lib.hid (fr_set_at HI.out.2.2.drew i (.int .u8 ((fBox l[j]).toNat : Int)))
      have z0 := (HX.out.fr ha HI.out.2.2 hab) l[j]
      have z1 : ((l[j].toNat : Nat) : Int) < 256 := by have := l[j].toNat_lt; omega
      clear hc
      generalize l[j] = c at *
      go_wp2_with fail
      go_still_tail 16, (by kernel_rfl)
      change wpList _ _ _ _ _ wr.drew
      go_wp2_with fail
      go_roundw
      case rel => exact ⟨i + 1, hlt, by go_num, Lib.hid ⟨HO2.out, HB2.out, HF2.out⟩⟩
      case measure => simp [intOf]; omega
    · have q1 : (16 : Int) ≤ (i : Int) := by omega
      obtain rfl : i = 16 := by omega
      go_wp2_with fail
      go_end0
      refine ⟨rfl, ?_, HI.out.2.2⟩
      have h := HI.out.2.1
      rw [overL_all hlen (by omega)] at h
      exact h
end Go.Proofs.YthabllnhlhkejaaGreatDoor
