/-
  A TENANT's STATE: THE WALK.
-/
import Derived.Lib.AppendStr
import Derived.OwnWalk
import Derived.StillTailTactics
import Derived.Sort.OwnSorted
import Derived.Sort.KeysCollected
import Derived.Maps.AppendAt
import Derived.Deep.AppendLies
import Derived.Test.YtajhgejhdalobaaGreatDoorTnD
import Derived.Test.YtajhgejhdalobaaGreatDoorLgPosts
namespace Go.Proofs.YtajhgejhdalobaaGreatDoor

def nB (n : Int) : Bs := be8 n.toNat
def txB (s : ByteArray) : Bs := be8 s.size ++ bl s
def routeB (r : Rt.Route) : Bs := txB r.pre ++ nB r.target
def useB (u : Lm.Use) : Bs := txB u.card ++ (nB u.window ++ (nB u.times ++ nB u.sum))
def postB (p : Lg.Post) : Bs := txB p.key ++ (nB p.amount ++ (nB p.state ++ txB p.answer))
def rowB {α : Type} (f : α → Bs) (l : List α) : Bs := be8 l.length ++ l.flatMap f
def stateR (S : TenS) (r : Bs) : Bs := be8 S.v ++ (nB S.rule.ticks ++ (nB S.rule.times ++ (nB S.rule.sum ++ (nB S.rule.once ++ (rowB routeB S.rs ++ (rowB useB S.us ++ (rowB postB S.ps ++ r)))))))
def stateB (S : TenS) : Bs := stateR S []
theorem nB_nat (n : Nat) : nB (n : Int) = be8 n := rfl
theorem may_post {p : Lg.Post} (h : p.may = true) : p.key.size ≤ 40 ∧ 0 ≤ p.amount ∧ p.amount ≤ 999999999999 ∧ p.answer.size ≤ 256 ∧ (p.state = 1 ∨ p.state = 2) := by
  unfold Lg.Post.may at h
  simp only [Bool.and_eq_true, decide_eq_true_eq, Bool.or_eq_true, beq_iff_eq, Bool.not_eq_true'] at h
  obtain ⟨⟨⟨⟨⟨_, h2⟩, h3⟩, h4⟩, h5⟩, h6⟩ := h
  exact ⟨h2, h3, h4, h5, h6⟩
theorem card_size {s : ByteArray} (h : Lm.cardB s = true) : s.size ≤ 32 := by
  unfold Lm.cardB at h
  simp only [Bool.and_eq_true, decide_eq_true_eq] at h
  exact h.2
end Go.Proofs.YtajhgejhdalobaaGreatDoor
namespace Go.Proofs.YtajhgejhdalobaaGreatDoor
open Go.RowKit Go.Lib

theorem strCells_flat (s : ByteArray) : strCells s = ByteR.flat s.data.toList := by
  rw [flat_bytes]
  rfl
end Go.Proofs.YtajhgejhdalobaaGreatDoor
namespace Go.Proofs.YtajhgejhdalobaaGreatDoor
open Go.RowKit

section
open Go.Lib

theorem appS_at (w : World) (base : Nat) (ty : TypeId) {v : Value} {n : Nat} {xs : Bs} (hv : w.ownsRow base 5 ByteR.k v n (ByteR.flat xs)) (s : ByteArray) (hsz : n + s.size ≤ 140737488355328) (hbase : base ≤ w.heap.size) :
    ∃ ao cap w', (Builtin.append_ #[34, 9] ty #[v, .string s]).run Tryz.prog w = .ok (.slice ao (n + s.size) cap) w' ∧ w'.ownsRow base 5 ByteR.k (.slice ao (n + s.size) cap) (n + s.size) (ByteR.flat (xs ++ s.data.toList)) ∧ w.grownBy w' v.ownBlock ∧ ((Value.slice ao (n + s.size) cap).ownBlock = v.ownBlock ∨ (Value.slice ao (n + s.size) cap).ownBlock = some w.heap.size) := by
  obtain ⟨i, hi, hz, h1, h2⟩ := info_parts infoB
  have h63 : n + s.size ≤ maxLen := by unfold maxLen; omega
  obtain ⟨v', w', hrun, r1, r2, r3⟩ := run_append_own_string (P := Tryz.prog) w base 34 9 ty 5 i Tryz.underlying34 Tryz.underlying9 hi hz h1 h2 v n (ByteR.flat xs) hv s h63 hsz hbase
  rw [strCells_flat, ← ByteR.flat_append] at r1
  obtain ⟨ao, cap, rfl⟩ := shape_own r1
  refine ⟨ao, cap, w', hrun, r1, r2, ?_⟩
  have hv1 : w.ownsRow base 5 1 v n (ByteR.flat xs) := hv
  clear hv
  rcases hv1.2 with ⟨rfl, rfl⟩ | ⟨g, cap', cur, rfl, hbg, hg, hnc, hcm, hcs, htake⟩
  · by_cases hm : s.size = 0
    · left
      rw [r3.2 ⟨rfl, hm⟩]
    · right
      have hr := run_append_nil_string (P := Tryz.prog) w 34 9 ty 5 i (.int .u8 0) Tryz.underlying34 Tryz.underlying9 hi hz s (by omega) (by omega) (by rw [h2]; omega)
      rw [hr, Result.ok.injEq] at hrun
      rw [← hrun.1]
      rfl
  · by_cases hroom : n + s.size ≤ cap'
    · left
      have hr := run_append_room_string (P := Tryz.prog) w 34 9 ty 5 i Tryz.underlying34 Tryz.underlying9 hi h1 g n cap' cur hg s hroom (by unfold maxLen at hcm; omega)
      rw [hr, Result.ok.injEq] at hrun
      rw [← hrun.1]
      rfl
    · right
      have holds : ∀ j u, (ByteR.flat xs)[j]? = some u → w.cell? ((⟨g, 0, none⟩ : Addr).add j) = some u := hv1.cells (g := g) rfl
      have hr := run_append_grow_string (P := Tryz.prog) w 34 9 ty 5 i (.int .u8 0) Tryz.underlying34 Tryz.underlying9 hi hz ⟨g, 0, none⟩ n cap' (ByteR.flat xs) (by rw [h1]; simpa using hv1.1) holds s (by omega) (by omega) (by rw [h2]; exact growslice_fits (by omega) (by omega))
      rw [hr, Result.ok.injEq] at hrun
      rw [← hrun.1]
      rfl
theorem wpList_appS2 {ops : Array Oper} {rest : List Oper} {o : Oper} {a : Act} {w : World} {Q : Exit → Act → World → Prop} (hgd : o.guard = none) (sl x : Operand) (ho : o.op = .call { callee := .builtin .append, args := #[sl, x], argTypes := #[34, 9] })
    {v : Value} (xs : List UInt8) (base n : Nat) (hs : a.eval sl = v) (hv : w.ownsRow base 5 ByteR.k v n (ByteR.flat xs)) (s : ByteArray) (hx : a.eval x = .string s) (hsz : n + s.size ≤ 140737488355328) (hbase : base ≤ w.heap.size)
    (h : ∀ ao cap w', w'.ownsRow base 5 ByteR.k (.slice ao (n + s.size) cap) (n + s.size) (ByteR.flat (xs ++ s.data.toList)) → w.grownBy w' v.ownBlock → ((Value.slice ao (n + s.size) cap).ownBlock = v.ownBlock ∨ (Value.slice ao (n + s.size) cap).ownBlock = some w.heap.size) → wpList Tryz.prog ops Q rest (a.put o.dst (.slice ao (n + s.size) cap)) w') :
    wpList Tryz.prog ops Q (o :: rest) a w := by
  obtain ⟨ao, cap, w', hrun, r1, r2, r3⟩ := appS_at w base o.type hv s hsz hbase
  refine wpList_plain hgd fun K hK => ?_
  unfold Oper.wp execOp
  simp only [ho, resolve, invoke, builtin, Sem.run_bind, Sem.run_pure, Result.andThen_ok, List.map_toArray, List.map_cons, List.map_nil, hs, hx, hrun]
  exact hK _ _ (h ao cap w' r1 r2 r3)
end
theorem Hold.grow {α : Type} {T E : TypeId} {R : Rec α} {l : Nat} {xs ys : List α} {w w1 w2 : World} {F : Nat → Prop} (h : Hold T E R l xs w F) {vo : Option Addr} {cap : Nat} (hc : w.cell? ⟨l, 0, none⟩ = some (.slice vo xs.length cap)) (hf : Fr noBlock w w1) {v' : Value} {n2 : Nat} (hn2 : n2 = ys.length)
    (hg2 : w1.grownBy w2 (Value.slice vo xs.length cap).ownBlock) (hown : w2.ownsRow 0 E R.k v' n2 (R.flat ys)) (hat : v'.ownBlock = (Value.slice vo xs.length cap).ownBlock ∨ v'.ownBlock = some w1.heap.size) :
    ∃ F', Hold T E R l ys (w2.setCell ⟨l, 0, none⟩ v') F' ∧ Step F F' w (w2.setCell ⟨l, 0, none⟩ v') := by
  subst hn2
  have h' := h
  obtain ⟨v, h1, h2, h3, h4⟩ := h
  obtain rfl : v = .slice vo xs.length cap := by
    have := cell_of h1 0
    rw [hc] at this
    simpa using this.symm
  have hs := hf.size
  have hlt := heap_lt h1
  have hF2 : Fr F w w2 := (hf.mono (T := F) (fun _ x => x.elim)).grown hg2 (fun k hk => .inl ((h4 k).2 (.inr hk)))
  have hl2 : w2.heap[l]? = w.heap[l]? := (hg2.block l (by omega) (fun e => h3 e.symm)).trans (hf.block l hlt (fun x => x))
  refine ⟨_, h'.replace hF2 hl2 hown ?_⟩
  intro g hg
  rcases hat with e | e
  · rw [hg] at e
    exact ⟨fun z => h3 (by rw [← e, z]), .inl ((h4 g).2 (.inr e.symm))⟩
  · rw [hg] at e
    obtain rfl : g = w1.heap.size := Option.some.inj e
    exact ⟨by omega, .inr (by omega)⟩
theorem be8_i (n i : Nat) (hi : i < 8) : (be8 n).take (i + 1) = (be8 n).take i ++ [(be8 n).getD i 0] := by
  rw [List.take_succ_eq_append_getElem (by rw [be8_len]; exact hi)]
  congr 2
  rw [List.getD_eq_getElem?_getD, List.getElem?_eq_getElem (by rw [be8_len]; exact hi)]
  rfl
theorem nums_take {ns : List Int} {j : Nat} (hj : j < ns.length) : (ns.take (j + 1)).flatMap nB = (ns.take j).flatMap nB ++ nB ns[j] := by
  rw [List.take_succ_eq_append_getElem hj, List.flatMap_append]
  simp
theorem nums_len (ns : List Int) : (ns.flatMap nB).length = 8 * ns.length := by
  induction ns with
  | nil => rfl
  | cons n ns ih =>
    rw [List.flatMap_cons, List.length_append, ih, List.length_cons]
    have : (nB n).length = 8 := be8_len _
    omega
structure PgSt (pb : Nat) (xs : Bs) (w : World) (F : Nat → Prop) (ao : Option Addr) (ns : List Int) (W : World) : Prop where
  it : ∃ F', Hold 118 5 ByteR pb xs W F' ∧ Step F F' w W ∧ Bes IntR ao ns W F'
namespace PgSt
variable {pb : Nat} {xs ys : Bs} {w W W' : World} {F : Nat → Prop} {ao : Option Addr} {ns : List Int}
theorem on (h : PgSt pb xs w F ao ns W) (f : Fr noBlock W W') : PgSt pb xs w F ao ns W' := by
  obtain ⟨F', a, b, c⟩ := h.it
  exact ⟨F', Hold.ok.fr0 a f, b.trans (Step.same f), c.fr f⟩
theorem rd (h : PgSt pb xs w F ao ns W) : RowRd IntR W ao ns := h.it.choose_spec.2.2.rd
theorem cells (h : PgSt pb xs w F ao ns W) : ∃ vo cap, W.cell? ⟨pb, 0, none⟩ = some (.slice vo xs.length cap) ∧ W.frozen? ⟨pb, 0, none⟩ = false ∧ RowAt 5 ByteR W (.slice vo xs.length cap) xs ∧ xs.length ≤ cap ∧ cap ≤ maxLen ∧ (Value.slice vo xs.length cap).ownBlock ≠ some pb ∧ W.heap[pb]? = some (.cells #[.slice vo xs.length cap] 118 (0, 0)) := by
  obtain ⟨F', a, _, _⟩ := h.it
  obtain ⟨vo, cap, a1, a2, a3, a4, a5, a6, a7, a8, _⟩ := a.opened
  obtain ⟨v, b1, b2, b3, b4⟩ := a
  refine ⟨vo, cap, a1, a2, a6, a4, a5, a8, ?_⟩
  have := cell_of b1 0
  rw [a1] at this
  simp at this
  rw [b1, ← this]
theorem app (h : PgSt pb xs w F ao ns W) {vo : Option Addr} {cap : Nat} (hc : W.cell? ⟨pb, 0, none⟩ = some (.slice vo xs.length cap)) {w1 w2 : World} (hf : Fr noBlock W w1) {v' : Value} {n2 : Nat} (hn2 : n2 = ys.length) (hg2 : w1.grownBy w2 (Value.slice vo xs.length cap).ownBlock) (hown : w2.ownsRow 0 5 ByteR.k v' n2 (ByteR.flat ys)) (hat : v'.ownBlock = (Value.slice vo xs.length cap).ownBlock ∨ v'.ownBlock = some w1.heap.size) : PgSt pb ys w F ao ns (w2.setCell ⟨pb, 0, none⟩ v') := by
  obtain ⟨F', a, b, c⟩ := h.it
  obtain ⟨F2, a2, b2⟩ := a.grow hc hf hn2 hg2 hown hat
  exact ⟨F2, a2, b.trans b2, c.step b2⟩
end PgSt
set_option maxRecDepth 100000 in
set_option maxHeartbeats 3200000 in
theorem pnums_any {pb : Nat} {xs : Bs} {w : World} {F : Nat → Prop} {ao : Option Addr} {ns : List Int} (h : PgSt pb xs w F ao ns w) (nc : Nat) (hpos : ∀ x ∈ ns, 0 ≤ x ∧ x ≤ 9223372036854775807) (hl : xs.length + 8 * ns.length ≤ 1000000000) :
    Calls Tryz.prog 66 #[.pointer (some ⟨pb, 0, none⟩), .slice ao ns.length nc] w fun e w' => e = .returned (.tuple #[]) ∧ PgSt pb (xs ++ ns.flatMap nB) w F ao ns w' := by
  have H0 := Lib.hid (And.intro h hpos)
  have hnl : ns.length ≤ 125000000 := by omega
  clear h hpos
  go_enter Tryz.func66, Tryz.ntmps66
  go_wp2_with fail
  go_loopw [9] (fun s9 W => ∃ k : Nat, k ≤ ns.length ∧ s9 = .int .i64 k ∧ Hid (PgSt pb (xs ++ (ns.take k).flatMap nB) w F ao ns W)) (fun s9 _ => ns.length - (intOf s9).toNat)
  case atStart => exact ⟨0, Nat.zero_le _, rfl, Lib.hid (by simpa using H0.out.1)⟩
  case round =>
    obtain ⟨k, hk, rfl, HI⟩ := hrel
    by_cases hlt : k < ns.length
    · have q1 : (k : Int) < (ns.length : Int) := by omega
      have q0 : (0 : Int) ≤ (k : Int) := by omega
      obtain ⟨ab, aoff, rfl, -, -⟩ := HI.out.rd.at' k hlt
      have y0 := int_rd HI.out.rd hlt
      have HT := Lib.hid (nums_take hlt)
      have hp := H0.out.2 _ (List.getElem_mem hlt)
      generalize ns[k] = x at *
      obtain ⟨n, rfl⟩ : ∃ n : Nat, x = (n : Int) := ⟨x.toNat, by omega⟩
      rw [nB_nat] at HT
      have hn : n < 9223372036854775808 := by omega
      obtain ⟨pre, hpre⟩ : ∃ p, xs ++ (ns.take k).flatMap nB = p := ⟨_, rfl⟩
      have hpl : pre.length ≤ 1000000000 - 8 := by
        rw [← hpre, List.length_append, nums_len, List.length_take]
        omega
      have HT2 := Lib.hid (show xs ++ (ns.take (k + 1)).flatMap nB = pre ++ be8 n from by rw [HT.out, ← List.append_assoc, hpre])
      rw [hpre] at HI
      obtain ⟨wo, rfl⟩ : ∃ wo : World, wo = wr := ⟨_, rfl⟩
      clear HT hp hpre
      go_wp2_with fail
      go_loopw [6] (fun s6 W => ∃ i : Nat, i ≤ 8 ∧ s6 = .int .i64 (56 - 8 * (i : Int)) ∧ Hid (PgSt pb (pre ++ (be8 n).take i) w F (some ⟨ab, aoff, none⟩) ns W)) (fun s6 _ => (intOf s6 + 8).toNat)
      case atStart => exact ⟨0, by omega, rfl, Lib.hid (by simpa using HI.out)⟩
      case round =>
        clear HI
        obtain ⟨i, hi, rfl, HJ⟩ := hrel
        by_cases hi8 : i < 8
        · have p1 : (0 : Int) ≤ 56 - 8 * (i : Int) := by omega
          have p3 : 56 - 8 * (i : Int) = ((56 - 8 * i : Nat) : Int) := by omega
          have p4 : wrap64 (56 - 8 * (i : Int) - 8) = 56 - 8 * ((i + 1 : Nat) : Int) := by unfold wrap64; omega
          obtain ⟨vo, vc, c0, c1, r0, r1, r2, r3, r4⟩ := HJ.out.cells
          have HC := Lib.hid (And.intro c0 (And.intro r0 (And.intro r3 r4)))
          obtain ⟨b, hb⟩ : ∃ b, (be8 n).getD i 0 = b := ⟨_, rfl⟩
          have HV := Lib.hid (be8_cell1 n i hi8)
          have HTk := Lib.hid (be8_i n i hi8)
          rw [hb] at HV HTk
          have hln : (pre ++ (be8 n).take i).length = pre.length + i := by rw [List.length_append, List.length_take, be8_len]; omega
          have HLn := Lib.hid hln
          have HTn := Lib.hid (show (pre ++ (be8 n).take i) ++ [b] = pre ++ (be8 n).take (i + 1) from by rw [HTk.out, List.append_assoc])
          obtain ⟨cur, hcur⟩ : ∃ c, pre ++ (be8 n).take i = c := ⟨_, rfl⟩
          rw [hcur] at HJ HC HLn HTn c0 r1
          obtain ⟨cn, hcn⟩ : ∃ c, cur.length = c := ⟨_, rfl⟩
          have HCn := Lib.hid hcn
          rw [hcn] at HC HLn c0 r1
          clear hb hln r0 r2 r3 r4 hcur hcn HTk
          have HFx := Lib.hid (show ∀ cs : Array Value, Fr noBlock wr ((wr.alloc (.cells cs 5)).drew) from fun cs => (((Fr.refl noBlock wr).alloc _).drew))
          have HOn := Lib.hid (show RowRd ByteR ((wr.alloc (.cells #[.int .u8 ((n : Int) / 2 ^ (56 - 8 * i) % 256)] 5)).drew) (some ⟨wr.heap.size, 0, none⟩) [b] from (RowRd.one (heap_new wr _) b (by rw [HV.out]; rfl)).fr0 (Fr.refl noBlock _).drew)
          have c2 : ∀ o : Obj, (wr.alloc o).cell? ⟨pb, 0, none⟩ = some (.slice vo cn vc) := fun o => (((Fr.refl noBlock wr).alloc o).cell (p := ⟨pb, 0, none⟩) (heap_lt HC.out.2.2.2) (fun z => z)).trans HC.out.1
          have HPl := Lib.hid (show pb < ((wr.alloc (.cells #[.int .u8 ((n : Int) / 2 ^ (56 - 8 * i) % 256)] 5)).drew).heap.size from Nat.lt_of_lt_of_le (heap_lt HC.out.2.2.2) (HFx.out _).size)
          have HPb := Lib.hid (((HFx.out #[.int .u8 ((n : Int) / 2 ^ (56 - 8 * i) % 256)]).block pb (heap_lt HC.out.2.2.2) (fun z => z)).trans HC.out.2.2.2)
          have HPn := Lib.hid (show ¬ (Value.slice vo cn vc).ownBlock = some pb from HC.out.2.2.1)
          have HRw := Lib.hid (show RowAt 5 ByteR wr (.slice vo cn vc) cur from HC.out.2.1)
          have hcl : cn + 1 ≤ 1000000000 := by have := HLn.out; omega
          clear HV
          go_wp2_with fail
          go_region_law
            ((refine step_app (by rfl) _ _ (by rfl) el_bytes (v := .slice vo cn vc) cur [b] (pre ++ (be8 n).take (i + 1)) HTn.out 0 cn (cn + 1) (by rw [← HTn.out, List.length_append, HCn.out]; rfl) (by rfl) (by have h := (HRw.out.fr0 (HFx.out #[.int .u8 ((n : Int) / 2 ^ (56 - 8 * i) % 256)])); unfold RowAt at h; rw [HCn.out] at h; exact h) (by rfl) HOn.out rfl (by unfold maxLen; omega) (by omega) (Nat.zero_le _) ?_; intro ao2 cap2 w6 o6 g6 a6; have b6 := (g6.block pb HPl.out (fun e => HPn.out e.symm)).trans HPb.out; have m0 := cell_of b6 0; have m1 := free_of b6 0; have HW := Lib.hid (And.intro o6 (And.intro g6 a6)); clear b6 o6 g6 a6))
          all_goals
            clear m0 m1
            go_wp2_with fail
            go_roundw
            case rel => exact ⟨i + 1, hi8, by go_num, Lib.hid (HJ.out.app (by rw [HCn.out]; exact HC.out.1) (HFx.out _) (by rw [List.length_append, List.length_take, be8_len]; have := HLn.out; omega) (by rw [HCn.out]; exact HW.out.2.1) HW.out.1 (by rw [HCn.out]; exact HW.out.2.2))⟩
            case measure => simp [intOf]; omega
        · obtain rfl : i = 8 := by omega
          rw [List.take_of_length_le (by rw [be8_len]; omega)] at HJ
          have HE := Lib.hid (show PgSt pb (xs ++ (ns.take (k + 1)).flatMap nB) w F (some ⟨ab, aoff, none⟩) ns wr from HT2.out ▸ HJ.out)
          have p1 : (56 : Int) - 8 * ((8 : Nat) : Int) < 0 := by omega
          clear HJ HT2
          go_wp2_with fail
          go_roundw
          case rel => exact ⟨k + 1, hlt, by go_num, HE⟩
          case measure => simp [intOf]; omega
    · obtain rfl : k = ns.length := by omega
      rw [List.take_length] at HI
      go_wp2_with fail
      go_end0
      exact ⟨rfl, HI.out⟩
theorem pnums_h {pb : Nat} {xs : Bs} {w : World} {F : Nat → Prop} (h : Hold 118 5 ByteR pb xs w F) {ao : Option Addr} {ns : List Int} (hb : Bes IntR ao ns w F) (nc : Nat) (hpos : ∀ x ∈ ns, 0 ≤ x ∧ x ≤ 9223372036854775807) (hl : xs.length + 8 * ns.length ≤ 1000000000) :
    Calls Tryz.prog 66 #[.pointer (some ⟨pb, 0, none⟩), .slice ao ns.length nc] w fun e w' => e = .returned (.tuple #[]) ∧ ∃ F', Hold 118 5 ByteR pb (xs ++ ns.flatMap nB) w' F' ∧ Step F F' w w' := by
  refine (pnums_any (F := F) ⟨F, h, Step.refl F w, hb⟩ nc hpos hl).mono ?_
  rintro e w' ⟨he, F', a, b, _⟩
  exact ⟨he, F', a, b⟩
set_option maxRecDepth 100000 in
set_option maxHeartbeats 3200000 in
theorem ptext_any {pb : Nat} {xs : Bs} {w : World} {F : Nat → Prop} (h : Hold 118 5 ByteR pb xs w F) (s : ByteArray) (hl : xs.length + 8 + s.size ≤ 1000000000) :
    Calls Tryz.prog 70 #[.pointer (some ⟨pb, 0, none⟩), .string s] w fun e w' => e = .returned (.tuple #[]) ∧ ∃ F', Hold 118 5 ByteR pb (xs ++ txB s) w' F' ∧ Step F F' w w' := by
  have f1 := (Fr.refl noBlock w).alloc (.cells #[.int .i64 (s.size : Int)] 3)
  have HN := Lib.hid (pnums_h (Hold.ok.fr0 h f1) (ao := some ⟨w.heap.size, 0, none⟩) (ns := [(s.size : Int)]) ⟨RowRd.of_flat (heap_new w _) rfl (by unfold maxLen; simp), fun _ a e => by
    cases e
    exact ⟨Hold.ok.new h, by simp⟩⟩ 1 (fun x hx => by
      rw [List.mem_singleton.1 hx]
      exact ⟨by omega, by omega⟩) (by simp; omega))
  rw [show ([(s.size : Int)] : List Int).flatMap nB = be8 s.size from by simp [nB]] at HN
  have H1 := Lib.hid f1
  have hs : s.size ≤ 1000000000 := by omega
  have hE := Lib.hid (show xs ++ txB s = (xs ++ be8 s.size) ++ s.data.toList from by unfold txB; rw [List.append_assoc])
  obtain ⟨ys, hys⟩ : ∃ y, xs ++ be8 s.size = y := ⟨_, rfl⟩
  have hyl : ys.length ≤ 1000000000 - s.size := by rw [← hys, List.length_append, be8_len]; omega
  rw [hys] at HN hE
  clear h f1 hys hl
  go_enter Tryz.func70, Tryz.ntmps70
  go_wp2_with fail
  refine HN.out.mono ?_
  rintro e w2 ⟨rfl, F2, k1, k2⟩
  obtain ⟨vo, vc, c0, c1, hpl, r1, r2, r0, -⟩ := k1.opened
  have HK := Lib.hid (And.intro k1 (And.intro k2 (And.intro r0 c0)))
  obtain ⟨yn, hyn⟩ : ∃ n, ys.length = n := ⟨_, rfl⟩
  have HYn := Lib.hid hyn
  rw [hyn] at c0 r1 hyl
  clear k1 k2 r0 HN hyn
  go_wp2_with (first | (at_builtin; apply stop_here))
  refine ⟨?_, trivial⟩
  refine wpList_appS2 rfl _ _ rfl ys 0 yn rfl (v := .slice vo yn vc) (by have h := HK.out.2.2.1; unfold RowAt at h; rw [HYn.out] at h; exact h) s rfl (by omega) (Nat.zero_le _) ?_
  intro ao2 cap2 w3 o3 g3 a3
  go_frame
  have HW := Lib.hid (And.intro o3 (And.intro g3 a3))
  obtain ⟨v, b1, b2, b3, b4⟩ := HK.out.1
  have e1 := cell_of b1 0
  rw [HK.out.2.2.2, HYn.out] at e1
  simp at e1
  subst e1
  have b6 := (HW.out.2.1.block pb (heap_lt b1) (fun e => b3 e.symm)).trans b1
  have m0 := cell_of b6 0
  have m1 := free_of b6 0
  clear o3 g3 a3 b1 b2 b3 b4 b6 c0 c1
  go_wp2_with fail
  go_end0
  obtain ⟨F3, t1, t2⟩ := HK.out.1.grow HK.out.2.2.2 (Fr.refl noBlock w2) (ys := ys ++ s.data.toList) (n2 := yn + s.size) (by rw [List.length_append, HYn.out]; simp) (by rw [HYn.out]; exact HW.out.2.1) HW.out.1 (by rw [HYn.out]; exact HW.out.2.2)
  rw [hE.out]
  exact ⟨rfl, F3, t1, (Step.same H1.out).trans (HK.out.2.1.trans t2)⟩
end Go.Proofs.YtajhgejhdalobaaGreatDoor
namespace Go.Proofs.YtajhgejhdalobaaGreatDoor.Rt
open Go.RowKit Go.Sort

def StrR : Rec ByteArray := ⟨1, fun s => [.string s], fun _ => rfl, fun s u hu => by simp at hu; subst hu; rfl⟩
abbrev byt (s : ByteArray) : List UInt8 := s.data.toList
theorem byt_eq (s : ByteArray) : byt s = s.toList := by rw [ByteArray.toList_eq]
theorem encStr_byt (s : ByteArray) : encStr (byt s) = .string s := by simp [encStr]
theorem flat_strs (ss : List ByteArray) : StrR.flat ss = (ss.map byt).map encStr := by
  induction ss with
  | nil => rfl
  | cons s ss ih =>
    show StrR.cells s ++ StrR.flat ss = _
    rw [ih, List.map_cons, List.map_cons, encStr_byt]; rfl

theorem sort_any {w : World} {v : Value} {ss : List (List UInt8)} {base : Nat} (h : w.ownsRow base 9 1 v ss.length (ss.map encStr)) (hm : ss.length < 4611686018427387904) :
    Calls Tryz.prog 141 #[v] w fun e w' => e = .returned (.tuple #[]) ∧ w'.ownsRow base 9 1 v ss.length ((ss.mergeSort leB).map encStr) ∧ w.grownBy w' v.ownBlock := by
  rcases h.2 with ⟨rfl, hn⟩ | ⟨g, cap, cur, rfl, hbase, hb, h1, h2, h3, h4⟩
  · refine (Tryz.slices_Sort_string_none none 0 w).mono ?_
    rintro e w' ⟨rfl, rfl⟩
    have : ss = [] := List.eq_nil_of_length_eq_zero hn
    subst this
    exact ⟨rfl, by simpa using h, ⟨rfl, rfl, rfl, Nat.le_refl _, fun _ _ _ => rfl⟩⟩
  · refine (Tryz.slices_Sort_string g 0 cap ss w (holds_of_block hb (by simpa using h4)) (heap_lt hb) hm).mono ?_
    rintro e w' ⟨rfl, nn, os, rfl⟩
    exact ⟨rfl, ownsRow_sorted (by simp) hbase hb h1 h2 h3, grownBy_sorted _⟩

theorem sorted_keys {D : DataW Unit} {rs : List Route} {N : Nat} (hD : MapD D (lookR rs) N) (hs : Sorted rs) {left : Lit → Bool} {ss : List (List UInt8)} (hC : Collected D left ss) (hl : ∀ kl, left kl = false) :
    ss.mergeSort leB = rs.map (fun r => byt r.pre) := by
  have hsort : (rs.map (fun r => byt r.pre)).Pairwise (fun a b => a < b) := by
    rw [List.pairwise_map]
    exact hs.imp (fun {a b} h => by rw [byt_eq, byt_eq]; exact h)
  have hp : ss.Perm (rs.map (fun r => byt r.pre)) := by
    refine (List.perm_ext_iff_of_nodup hC.1 (hsort.imp (fun {a b} h e => by subst e; exact List.lt_irrefl _ h))).2 fun x => ?_
    rw [hC.2 x, hl]
    have hx := (hD.says ⟨x.toArray⟩).1
    have e : keyLit ⟨x.toArray⟩ = .string x := by simp
    rw [e] at hx
    rw [hx, List.mem_map]
    constructor
    · rintro ⟨h1, _⟩
      cases hlk : lookR rs ⟨x.toArray⟩ with
      | none => rw [hlk] at h1; cases h1
      | some t =>
        obtain ⟨r, hr, hpre, _⟩ := lookR_mem hlk
        exact ⟨r, hr, by rw [hpre]⟩
    · rintro ⟨r, hr, rfl⟩
      refine ⟨?_, rfl⟩
      have := lookR_of_mem hs hr
      have e2 : (⟨(byt r.pre).toArray⟩ : ByteArray) = r.pre := by simp
      rw [e2, this]; rfl
  rw [mergeSort_of_perm hp]
  apply List.mergeSort_of_pairwise
  exact hsort.imp (fun {a b} h => by simp only [leB, decide_eq_true_eq]; exact List.le_of_lt h)
theorem strs_row {w : World} {v : Value} {base : Nat} {rs : List Route} {n : Nat} (hn : n = rs.length) (h : w.ownsRow base 9 1 v n ((rs.map (fun r => byt r.pre)).map encStr)) : RowAt 9 StrR w v (rs.map Route.pre) := by
  subst hn
  unfold RowAt
  have e : StrR.flat (rs.map Route.pre) = (rs.map (fun r => byt r.pre)).map encStr := by rw [flat_strs]; simp only [List.map_map]; rfl
  rw [e, List.length_map]
  obtain ⟨h1, h2⟩ := h
  refine ⟨h1, ?_⟩
  rcases h2 with h2 | ⟨g, cap, cur, rfl, hb, rest⟩
  · exact .inl h2
  · exact .inr ⟨g, cap, cur, rfl, Nat.zero_le _, rest⟩
end Go.Proofs.YtajhgejhdalobaaGreatDoor.Rt
namespace Go.Proofs.YtajhgejhdalobaaGreatDoor.Rt
open Go.RowKit Go.Sort

theorem info_str : (Tryz.prog.info? 9).map (fun i => (i.zero, i.size, i.bytes)) = some (some (.string ⟨#[]⟩), 1, 16) := by kernel_rfl
theorem info_route : (Tryz.prog.info? 125).map (fun i => (i.zero, i.size, i.bytes)) = some (some (.agg #[.string ⟨#[]⟩, .int .i64 0]), 2, 24) := by kernel_rfl
theorem law_str : Maps.Keyed Tryz.prog 9 := Maps.string_keyed Tryz.underlying9

theorem stopHere {X : Prop} (h : X ∧ True) : X := h.1
set_option maxRecDepth 100000 in
set_option maxHeartbeats 1000000 in
theorem list_any {l : Nat} {rs : List Route} {w : World} {F : Nat → Prop} (h : TableAt l rs w F) :
    Calls Tryz.prog 68 #[.pointer (some ⟨l, 0, none⟩)] w fun e w' => ∃ v, e = .returned v ∧ RowAt 125 RouteR w' v rs ∧ Fr noBlock w w' ∧ ∀ k, v.ownBlock = some k → w.heap.size ≤ k := by
  obtain ⟨bm, c0, hl, hne, hbm, hmap, _, _⟩ := h.opened
  have hgood := h.choose_spec.2.2.2.2
  have hmap' := hmap
  obtain ⟨D, hown, hD⟩ := hmap'
  have hlen := hgood.len
  have HD := Lib.hid hD
  have Hgood := Lib.hid hgood
  have Hmap := Lib.hid hmap
  have hDs := hD.size
  have C0 := Lib.hid c0
  obtain ⟨i1, hi1, hz1, hz2, hz3⟩ := info_parts info_str
  clear h hmap hgood hD
  go_enter Tryz.func68, Tryz.ntmps68
  go_wp2_with (first
    | (at_range; refine wpList_range_own _ rfl _ 209 rfl 9 3 law_str Tryz.underlying209 _ bm rs.length _ rfl hown ?_; intro w0 hrg0 hg0 hs0)
    | go_in)
  go_frame
  go_loopw [3] (fun v wr => ∃ (left : Lit → Bool) (cnt : Nat) (ss : List (List UInt8)), wr.ranges Tryz.prog 9 (plainElem Tryz.prog 3) bm w.heap.size rs.length D left cnt ∧ ss.length + cnt ≤ rs.length ∧
      wr.ownsRow w.heap.size 9 1 v ss.length (ss.map encStr) ∧ Hid (Collected D left ss) ∧ Fr noBlock w wr) (fun _ wr => wr.rangeLeft bm w.heap.size)
  case atStart =>
    exact ⟨_, _, [], hrg0, by simp [hDs], World.ownsRow_nil _ _ _ _, Lib.hid (Collected.start D), (Fr.refl noBlock w).grown hg0 (fun j hj => by cases hj)⟩
  case round =>
    obtain ⟨left, cnt, ss, hrg, hcs, hrow, hC, hf⟩ := hrel
    clear hs0 hg0 hrg0
    go_wp2_with (first
      | (at_next; refine wpList_next_ranges _ rfl _ rfl 9 law_str (plainElem Tryz.prog 3) encStr (Value.int .i64) (fun key kl hk => by obtain ⟨x, hx, _⟩ := Maps.keyOf_str Tryz.underlying9 hk; exact ⟨x, hx⟩) (fun v y hv => by obtain ⟨c, rfl, _⟩ := plainElem_int_inv Tryz.underlying3 hv; exact ⟨c, rfl⟩) bm w.heap.size rs.length _ _ _ rfl hrg ?_ ?_)
      | go_in)
    · intro hc0 hl0
      have hsorted := sorted_keys HD.out Hgood.out.sorted hC.out hl0
      have hln : ss.length = rs.length := by have := congrArg List.length hsorted; simpa using this
      have hc := sort_any hrow (by omega)
      rw [hsorted] at hc
      have Hf := Lib.hid hf
      clear hsorted hrg hf hC
      go_wp2_with fail
      refine hc.mono ?_
      rintro e w2 ⟨rfl, hrow2, hg2⟩
      have hf2 : Fr noBlock w w2 := Hf.out.grown hg2 (fun j hj => .inr (hrow.lt j hj).1)
      rw [hln] at hrow2
      have r2 := strs_row rfl hrow2
      obtain ⟨sa, scap, rfl, hsc1, hsc2, _, _⟩ := r2.shape
      rw [List.length_map] at r2 hsc1
      have R2 := Lib.hid r2
      have Hf2 := Lib.hid hf2
      obtain ⟨i0, hi0, hz0, hz1', hz2'⟩ := info_parts info_route
      clear hrow2 hg2 hc Hf hrow hf2 r2 hcs hc0 hl0 hln hbm hown HD hDs hi1 hz1 hz2 hz3
      rw [List.length_map]
      go_wp2_with fail
      go_loopw [5, 25] (fun s5 s25 wr => ∃ (i : Nat) (ao : Option Addr) (cap : Nat), i ≤ rs.length ∧ s25 = .int .i64 i ∧ s5 = .slice ao i cap ∧ wr.ownsRow w2.heap.size 125 2 s5 i (RouteR.flat (rs.take i)) ∧ Fr noBlock w2 wr) (fun _ s25 _ => rs.length - (intOf s25).toNat)
      case atStart => exact ⟨0, none, 0, Nat.zero_le _, rfl, rfl, World.ownsRow_nil _ _ _ _, Fr.refl _ _⟩
      case round =>
        obtain ⟨i, ao, cap, hi, rfl, rfl, hrow, hf⟩ := hrel
        have hfw := Hf2.out.trans' hf
        have c1 := (hfw.cell (p := ⟨l, 0, none⟩) hl (fun x => x)).trans C0.out
        by_cases hlt : i < rs.length
        · have hlt' : (i : Int) < (rs.length : Int) := by omega
          have hx := (R2.out.fr0 hf).elem (i := i) (by simpa using hlt)
          obtain ⟨g, rfl, hg, -, -, hcel, -⟩ := hx
          have y0 := hcel 0 (.string rs[i].pre) (by simp [StrR])
          have hlook := (Hmap.out.fr hfw (fun x => x)).look1 (mt := 209) Tryz.underlying9 Tryz.underlying209 Tryz.underlying3 (zero_int _) rs[i].pre (pre_len (Hgood.out.pre _ (List.getElem_mem hlt)))
          rw [lookR_of_mem Hgood.out.sorted (List.getElem_mem hlt), Option.getD_some] at hlook
          have y1 : wr.cell? ⟨g, i, none⟩ = some (.string rs[i].pre) := by
            rw [← y0]; congr 1; show _ = (⟨g, i * 1 + 0, none⟩ : Addr); simp
          have Hhp := Lib.hid (List.take_succ_eq_append_getElem hlt)
          have Hrow := Lib.hid hrow
          have Hf := Lib.hid hf
          clear hcel y0 hrow hf
          generalize rs[i] = r at *
          clear c0
          have Hsz := Lib.hid (Nat.le_trans Hf.out.size (Nat.le_refl _))
          go_wp2_with (at_builtin; apply stopHere)
          refine ⟨?_, trivial⟩
          refine wpList_append_own _ rfl _ _ 120 rfl w2.heap.size 125 i0 (.agg #[.string ⟨#[]⟩, .int .i64 0]) 2 24 Tryz.underlying120 hi0 hz0 hz1' hz2' rfl (by decide) _ _ _ rfl (Hrow.out.alloc _) ⟨wr.heap.size, 0, none⟩ 1 1 [.string r.pre, .int .i64 r.target] rfl rfl (World.news_of_block (heap_new wr _)) (by simp [Value.oneCell']) (by unfold maxLen at *; omega) (by omega) (by have := Hsz.out; simp; omega) ?_
          intro v' w5 hown5 hg5 hnil5; go_frame
          have hsh : ∃ ao' cap', v' = .slice ao' (i + 1) cap' := by
            rcases hown5.2 with ⟨q1, q2⟩ | ⟨g, cap', cur, q, _⟩
            · omega
            · exact ⟨_, _, q⟩
          obtain ⟨ao', cap', rfl⟩ := hsh
          clear hnil5
          go_wp2_with fail
          go_roundw
          case rel =>
            refine ⟨i + 1, ao', cap', by omega, by go_num, rfl, ?_, (Hf.out.alloc _).grown hg5 (fun j hj => .inr (Hrow.out.lt j hj).1)⟩
            rw [Hhp.out, RouteR.flat_append, RouteR.flat_one]
            exact hown5
          case measure => simp [intOf]; omega
        · have hlt' : (rs.length : Int) ≤ (i : Int) := by omega
          go_wp2_with fail
          go_ret
          have e : i = rs.length := by omega
          subst e
          rw [List.take_length] at hrow
          obtain ⟨q1, q2⟩ := hrow
          refine ⟨.slice ao rs.length cap, rfl, ⟨q1, ?_⟩, hfw, fun k hk => Nat.le_trans Hf2.out.size (World.ownsRow.lt ⟨q1, q2⟩ k hk).1⟩
          rcases q2 with q2 | ⟨g, cap', cur, q, hb, rest⟩
          · exact .inl q2
          · exact .inr ⟨g, cap', cur, q, Nat.zero_le _, rest⟩
    · intro x c kl yd yp w2 cnt2 hkey hlk hv hat hrg2 hlt hg2 hs2 hen
      obtain ⟨x', ex, rfl, _⟩ := Maps.keyOf_str Tryz.underlying9 hkey
      obtain rfl : x = x' := encStr_inj ex
      have hrow2 := hrow.kept hg2 (Or.inr (row_ne_iter hrow hrg).symm)
      clear hs2
      go_wp2_with (first
        | (at_builtin; refine wpList_append_own _ rfl _ _ 235 rfl w.heap.size 9 i1 (.string ⟨#[]⟩) 1 16 Tryz.underlying235 hi1 hz1 hz2 hz3 rfl (by decide) _ _ _ rfl (hrow2.alloc _) ⟨w2.heap.size, 0, none⟩ 1 1 [encStr x] rfl rfl (cell_one_new _ _ _) (by simp [Value.oneCell', encStr]) (by unfold maxLen at *; omega) (by omega) (by have := hf.size; have := hg2.size; simp; omega) ?_; intro v' w3 hown' hg3 hnil3; go_frame)
        | go_in)
      have hrg3 := (hrg2.alloc _).kept hg3 (row_ne_low hrow2 hbm) (row_ne_iter hrow2 hrg2)
      go_roundw
      case rel =>
        refine ⟨_, cnt2, ss ++ [x], hrg3, by simp; omega, by simpa using hown', Lib.hid (hC.out.step hlk hat), ?_⟩
        exact ((hf.grown hg2 (fun j hj => by cases hj; exact .inr (Nat.le_refl _))).alloc _).grown hg3 (fun j hj => .inr (hrow2.lt j hj).1)
      case measure => rw [hrg3.left_eq, hrg.left_eq]; exact hlt
end Go.Proofs.YtajhgejhdalobaaGreatDoor.Rt
namespace Go.Proofs.YtajhgejhdalobaaGreatDoor
open Go.RowKit

def PostR : Rec Lg.Post := ⟨4, Lg.Post.cells, fun _ => rfl, fun u v hv => by simp [Lg.Post.cells] at hv; rcases hv with rfl | rfl | rfl | rfl <;> rfl⟩
theorem posts_row {w : World} {v : Value} {ps : List Lg.Post} (h : Lg.PostsAt w v ps) : RowAt 53 PostR w v ps := h
theorem flat_le {α : Type} (f : α → Bs) (c : Nat) : ∀ l : List α, (∀ x ∈ l, (f x).length ≤ c) → (l.flatMap f).length ≤ c * l.length
  | [], _ => by simp
  | x :: l, h => by
    rw [List.flatMap_cons, List.length_append, List.length_cons]
    have h1 := h x List.mem_cons_self
    have h2 := flat_le f c l (fun y hy => h y (List.mem_cons_of_mem _ hy))
    rw [Nat.mul_succ]
    omega
theorem flat_take {α : Type} (f : α → Bs) {l : List α} {k : Nat} (hk : k < l.length) : (l.take (k + 1)).flatMap f = (l.take k).flatMap f ++ f l[k] := by
  rw [List.take_succ_eq_append_getElem hk, List.flatMap_append]
  simp
theorem nB_len (n : Int) : (nB n).length = 8 := be8_len _
theorem txB_len (s : ByteArray) : (txB s).length = 8 + s.size := by unfold txB; rw [List.length_append, be8_len, bl_len]
structure StP (w W : World) (pb : Nat) (F : Nat → Prop) (xs : Bs) (ra : Option Addr) (rs : List Rt.Route) (ua : Option Addr) (us : List Lm.Use) (pa : Option Addr) (ps : List Lg.Post) : Prop where
  it : Hold 118 5 ByteR pb xs W F
  fr : Fr noBlock w W
  new : ∀ k, F k → w.heap.size ≤ k
  rr : Bes Rt.RouteR ra rs W F
  ru : Bes Lm.UseR ua us W F
  rp : Bes PostR pa ps W F
namespace StP
variable {w W W' : World} {pb : Nat} {F F' : Nat → Prop} {xs ys : Bs} {ra : Option Addr} {rs : List Rt.Route} {ua : Option Addr} {us : List Lm.Use} {pa : Option Addr} {ps : List Lg.Post}
theorem on (h : StP w W pb F xs ra rs ua us pa ps) (f : Fr noBlock W W') : StP w W' pb F xs ra rs ua us pa ps := ⟨Hold.ok.fr0 h.it f, h.fr.trans' f, h.new, h.rr.fr f, h.ru.fr f, h.rp.fr f⟩
theorem step (h : StP w W pb F xs ra rs ua us pa ps) (h' : Hold 118 5 ByteR pb ys W' F') (s : Step F F' W W') : StP w W' pb F' ys ra rs ua us pa ps := ⟨h', h.fr.trans s.fr (fun k hk => .inr (h.new k hk)), fun k hk => (s.foot k hk).elim (h.new k) (fun hle => Nat.le_trans h.fr.size hle), h.rr.step s, h.ru.step s, h.rp.step s⟩
theorem nums (h : StP w W pb F xs ra rs ua us pa ps) {ms : List Int} {cs : Array Value} {g nc : Nat} (hg : W.heap.size ≤ g) (f : Fr noBlock W W') (hb : W'.heap[g]? = some (.cells cs 3 (0, 0))) (hc : cs.toList = IntR.flat ms) (hpos : ∀ x ∈ ms, 0 ≤ x ∧ x ≤ 9223372036854775807) (hm : ms.length ≤ 100) (hl : xs.length ≤ 1000000) :
    Calls Tryz.prog 66 #[.pointer (some ⟨pb, 0, none⟩), .slice (some ⟨g, 0, none⟩) ms.length nc] W' fun e w' => e = .returned (.tuple #[]) ∧ ∃ F', StP w w' pb F' (xs ++ ms.flatMap nB) ra rs ua us pa ps ∧ Step F F' W w' := by
  have h1 := h.on f
  refine (pnums_h h1.it (ao := some ⟨g, 0, none⟩) (ns := ms) ⟨RowRd.of_flat hb hc (by unfold maxLen; omega), fun _ a e => by
    cases e
    exact ⟨fun hf => by have := Hold.ok.lt h.it _ hf; dsimp only at this; omega, heap_lt hb⟩⟩ nc hpos (by omega)).mono ?_
  rintro e w' ⟨rfl, F', a, b⟩
  exact ⟨rfl, F', h1.step a b, (Step.same f).trans b⟩
theorem text (h : StP w W pb F xs ra rs ua us pa ps) (s : ByteArray) (hs : s.size ≤ 1000) (hl : xs.length ≤ 1000000) :
    Calls Tryz.prog 70 #[.pointer (some ⟨pb, 0, none⟩), .string s] W fun e w' => e = .returned (.tuple #[]) ∧ ∃ F', StP w w' pb F' (xs ++ txB s) ra rs ua us pa ps ∧ Step F F' W w' := by
  refine (ptext_any h.it s (by omega)).mono ?_
  rintro e w' ⟨rfl, F', a, b⟩
  exact ⟨rfl, F', h.step a b, b⟩
end StP
def StateP (b : Bs) (w : World) (e : Ending) (w' : World) : Prop := ∃ sv : SV, e = .returned sv.val ∧ sv.n = b.length ∧ RowAt 5 ByteR w' sv.val b ∧ Fr noBlock w w' ∧ ∀ k, sv.val.ownBlock = some k → w.heap.size ≤ k
theorem route_len {M : MaskF} {S : TenS} (ho : TenantOk M S) : ∀ r ∈ S.rs, (routeB r).length ≤ 24 := fun r hr => by
  have h1 := (preB_iff.1 (ho.rs.pre r hr)).2.2
  unfold routeB
  rw [List.length_append, txB_len, nB_len]
  omega
theorem use_len {M : MaskF} {S : TenS} (ho : TenantOk M S) : ∀ u ∈ S.us, (useB u).length ≤ 64 := fun u hu => by
  have h1 := card_size (ho.us.each u hu).card
  unfold useB
  rw [List.length_append, List.length_append, List.length_append, txB_len, nB_len, nB_len, nB_len]
  omega
theorem post_len {M : MaskF} {S : TenS} (ho : TenantOk M S) : ∀ p ∈ S.ps, (postB p).length ≤ 400 := fun p hp => by
  have h1 := may_post (ho.ps.may p hp)
  unfold postB
  rw [List.length_append, List.length_append, List.length_append, txB_len, txB_len, nB_len, nB_len]
  omega
set_option maxRecDepth 100000 in
set_option maxHeartbeats 6400000 in
theorem state_any {A : TenW} {K : Bs} {n : Nat} {S : TenS} {w : World} {H : Nat → Prop} (h : TenA A K n S w H) {M : MaskF} (ho : TenantOk M S) :
    Calls Tryz.prog 26 #[.pointer (some ⟨A.tb, 0, none⟩)] w (StateP (stateB S) w) := by
  have HT := Lib.hid h
  obtain ⟨z1, z2, z3, z4, z5, z6, z7, z8⟩ := Lm.right_iff.1 ho.rule
  have HL := Lib.hid (And.intro (route_len ho) (And.intro (use_len ho) (post_len ho)))
  have HO := Lib.hid ho
  have HVe := Lib.hid (show ∀ W, Fr noBlock w W → Calls Tryz.prog 67 #[.pointer (some ⟨A.va, 0, none⟩)] W (fun e w' => e = .returned (.int .i64 (S.v : Int)) ∧ W = w') from fun W hW => by
    obtain ⟨G, g1, _⟩ := (TenA.ok.fr0 h hW).vault
    exact version_any g1)
  have HRl := Lib.hid (show ∀ W, Fr noBlock w W → Calls Tryz.prog 68 #[.pointer (some ⟨A.rl, 0, none⟩)] W (fun e w' => ∃ v, e = .returned v ∧ RowAt 125 Rt.RouteR w' v S.rs ∧ Fr noBlock W w' ∧ ∀ k, v.ownBlock = some k → W.heap.size ≤ k) from fun W hW => by
    obtain ⟨G, g1, _⟩ := (TenA.ok.fr0 h hW).table
    exact Rt.list_any g1)
  have HMl := Lib.hid (show ∀ W, Fr noBlock w W → Calls Tryz.prog 69 #[.pointer (some ⟨A.bk, 0, none⟩)] W (fun e w' => ∃ v, e = .returned v ∧ RowAt 128 Lm.UseR w' v S.us ∧ Fr noBlock W w' ∧ ∀ k, v.ownBlock = some k → W.heap.size ≤ k) from fun W hW => by
    obtain ⟨G, g1, _⟩ := (TenA.ok.fr0 h hW).book
    exact Lm.list_any g1.1 g1.2.len)
  have HLl := Lib.hid (show ∀ W, Fr noBlock w W → Calls Tryz.prog 57 #[.pointer (some ⟨A.ll, 0, none⟩)] W (fun e w' => ∃ v, e = .returned v ∧ RowAt 53 PostR w' v S.ps ∧ Fr noBlock W w' ∧ ∀ k, v.ownBlock = some k → W.heap.size ≤ k) from fun W hW => by
    obtain ⟨G, g1, _⟩ := (TenA.ok.fr0 h hW).ledger
    refine (Lg.list_at g1).mono ?_
    rintro e w' ⟨v, _, rfl, a, b, c⟩
    exact ⟨v, rfl, posts_row a, b, c⟩)
  have HC := Lib.hid (show ∀ W, Fr noBlock w W → _ from fun W hW => (TenA.ok.fr0 h hW).cells)
  have hv2 := ho.v2
  clear h ho
  unfold StateP
  go_enter Tryz.func26, Tryz.ntmps26
  go_upto_region 2 with fail
  refine wp_at (fun W => Hold 118 5 ByteR w.heap.size [] W (fun k => k = w.heap.size) ∧ Fr noBlock w W) ⟨Hold.made w, (Fr.refl _ w).alloc _⟩ ?_
  obtain ⟨pb, hpb⟩ : ∃ p, w.heap.size = p := ⟨_, rfl⟩
  have HPb := Lib.hid hpb
  rw [hpb]
  clear hpb
  rintro w1 ⟨k1, k2⟩
  have H1 := Lib.hid (And.intro k1 k2)
  obtain ⟨x0, -, x2, x3, x4, x5, x6, x7, x8⟩ := HC.out _ k2
  have HN := Lib.hid (show ∀ (W : World) (g : Nat), Fr noBlock w1 W → w1.heap.size ≤ g → W.heap[g]? = some (.cells #[.int .i64 (S.v : Int), .int .i64 S.rule.ticks, .int .i64 S.rule.times, .int .i64 S.rule.sum, .int .i64 S.rule.once] 3 (0, 0)) → Calls Tryz.prog 66 #[.pointer (some ⟨pb, 0, none⟩), .slice (some ⟨g, 0, none⟩) 5 5] W (fun e w' => e = .returned (.tuple #[]) ∧ ∃ F', Hold 118 5 ByteR pb ([(S.v : Int), S.rule.ticks, S.rule.times, S.rule.sum, S.rule.once].flatMap nB) w' F' ∧ Step (fun k => k = pb) F' W w') from fun W g f hg hb => by
    have := pnums_h (Hold.ok.fr0 H1.out.1 f) (ao := some ⟨g, 0, none⟩) (ns := [(S.v : Int), S.rule.ticks, S.rule.times, S.rule.sum, S.rule.once]) ⟨RowRd.of_flat hb rfl (by unfold maxLen; simp), fun _ a e => by
      cases e
      exact ⟨fun hf => by have := Hold.ok.lt H1.out.1 _ hf; dsimp only at this; omega, heap_lt hb⟩⟩ 5 (fun x hx => by
        simp only [List.mem_cons, List.not_mem_nil, or_false] at hx
        rcases hx with rfl | rfl | rfl | rfl | rfl <;> omega) (by simp)
    rw [List.nil_append] at this
    exact this)
  have HCk := Lib.hid (show ∀ W, Fr noBlock w1 W → W.cell? ⟨A.tb, 0, none⟩ = some (.pointer (some ⟨A.va, 0, none⟩)) ∧ W.cell? ⟨A.tb, 3, none⟩ = some (.int .i64 S.rule.ticks) ∧ W.cell? ⟨A.tb, 4, none⟩ = some (.int .i64 S.rule.times) ∧ W.cell? ⟨A.tb, 5, none⟩ = some (.int .i64 S.rule.sum) ∧ W.cell? ⟨A.tb, 6, none⟩ = some (.int .i64 S.rule.once) from fun W f => by
    obtain ⟨a, _, _, b, c, d, e, _⟩ := HC.out W (H1.out.2.trans' f)
    exact ⟨a, b, c, d, e⟩)
  clear k1 k2 x2 x7 x8
  go_region_held3 (fun W => W.cell? ⟨A.tb, 0, none⟩ = some (.pointer (some ⟨A.va, 0, none⟩)) ∧ W.cell? ⟨A.tb, 3, none⟩ = some (.int .i64 S.rule.ticks) ∧ W.cell? ⟨A.tb, 4, none⟩ = some (.int .i64 S.rule.times) ∧ W.cell? ⟨A.tb, 5, none⟩ = some (.int .i64 S.rule.sum) ∧ W.cell? ⟨A.tb, 6, none⟩ = some (.int .i64 S.rule.once))
    (first | exact HK2.out | exact HCk.out _ (by repeat (first | (with_reducible exact Fr.refl _ _) | (with_reducible refine Fr.drew ?_) | (with_reducible refine Fr.alloc ?_ _))) | fail "nokeep")
    (first
      | (go_at_call 67; (with_reducible refine (HVe.out _ ?_).mono ?_); (exact H1.out.2.trans' (by repeat (first | (with_reducible exact Fr.refl _ _) | (with_reducible refine Fr.drew ?_)))); rintro e w' ⟨rfl, rfl⟩)
      | (go_at_call 66; (with_reducible refine (HN.out _ _ ?_ ?_ ?_).mono ?_); (exact (by repeat (first | (with_reducible exact Fr.refl _ _) | (with_reducible refine Fr.drew ?_) | (with_reducible refine Fr.alloc ?_ _)))); (exact Fr.size (S := noBlock) (by repeat (first | (with_reducible exact Fr.refl _ _) | (with_reducible refine Fr.drew ?_)))); (exact Fr.obj (S := noBlock) (by repeat (first | (with_reducible exact Fr.refl _ _) | (with_reducible refine Fr.drew ?_))) (heap_new _ _) (fun z => z)); rintro e w2 ⟨rfl, F2, k1, k2⟩; have H2 := Lib.hid (And.intro k1 (show Fr (fun k => k = pb) w1 w2 ∧ ∀ k, F2 k → k = pb ∨ w1.heap.size ≤ k from ⟨Fr.trans' (by repeat (first | (with_reducible exact Fr.refl _ _) | (with_reducible refine Fr.drew ?_) | (with_reducible refine Fr.alloc ?_ _))) k2.fr, fun k hk => (k2.foot k hk).imp id (fun hle => Nat.le_trans (Fr.size (S := noBlock) (by repeat (first | (with_reducible exact Fr.refl _ _) | (with_reducible refine Fr.drew ?_) | (with_reducible refine Fr.alloc ?_ _)))) hle)⟩)); clear k1 k2; have HK2 := Lib.hid (show w2.cell? ⟨A.tb, 0, none⟩ = some (.pointer (some ⟨A.va, 0, none⟩)) ∧ w2.cell? ⟨A.tb, 3, none⟩ = some (.int .i64 S.rule.ticks) ∧ w2.cell? ⟨A.tb, 4, none⟩ = some (.int .i64 S.rule.times) ∧ w2.cell? ⟨A.tb, 5, none⟩ = some (.int .i64 S.rule.sum) ∧ w2.cell? ⟨A.tb, 6, none⟩ = some (.int .i64 S.rule.once) from by
          have f : Fr noBlock w w2 := H1.out.2.trans H2.out.2.1 (fun k hk => .inr (by rw [hk, HPb.out]; exact Nat.le_refl _))
          obtain ⟨a, _, _, b, c, d, e, _⟩ := HC.out w2 f
          exact ⟨a, b, c, d, e⟩))
      | fail "noarm")
  all_goals
    obtain ⟨P0, hP0⟩ : ∃ P, ([(S.v : Int), S.rule.ticks, S.rule.times, S.rule.sum, S.rule.once].flatMap nB) = P := ⟨_, rfl⟩
    rw [hP0] at H2
    have HP0 := Lib.hid hP0
    have FW := Lib.hid (show Fr noBlock w w2 from H1.out.2.trans H2.out.2.1 (fun k hk => .inr (by rw [hk, HPb.out]; exact Nat.le_refl _)))
    have HF2 := Lib.hid (show ∀ k, F2 k → k < w2.heap.size from Hold.ok.lt H2.out.1)
    have HNw := Lib.hid (show ∀ k, F2 k → w.heap.size ≤ k from fun k hk => (H2.out.2.2 k hk).elim (fun e => by rw [e, HPb.out]; exact Nat.le_refl _) (fun hle => Nat.le_trans H1.out.2.size hle))
    have HCj := Lib.hid (show ∀ W, Fr noBlock w2 W → W.cell? ⟨A.tb, 2, none⟩ = some (.pointer (some ⟨A.rl, 0, none⟩)) ∧ W.cell? ⟨A.tb, 7, none⟩ = some (.pointer (some ⟨A.bk, 0, none⟩)) ∧ W.cell? ⟨A.tb, 8, none⟩ = some (.pointer (some ⟨A.ll, 0, none⟩)) from fun W f => by
      obtain ⟨_, _, a, _, _, _, _, b, c⟩ := HC.out W (FW.out.trans' f)
      exact ⟨a, b, c⟩)
    obtain ⟨rs, hrs⟩ : ∃ x, S.rs = x := ⟨_, rfl⟩
    obtain ⟨us, hus⟩ : ∃ x, S.us = x := ⟨_, rfl⟩
    obtain ⟨ps, hps⟩ : ∃ x, S.ps = x := ⟨_, rfl⟩
    have HE := Lib.hid (show stateB S = (((((P0 ++ ([(rs.length : Int)].flatMap nB)) ++ rs.flatMap routeB) ++ ([(us.length : Int)].flatMap nB)) ++ us.flatMap useB) ++ ([(ps.length : Int)].flatMap nB)) ++ ps.flatMap postB from by
      rw [← hP0, ← hrs, ← hus, ← hps]
      simp [stateB, stateR, rowB, nB_nat, List.append_assoc])
    have hl0 : P0.length = 40 := by rw [← hP0, nums_len]; rfl
    have hl1 : rs.length ≤ 24 := hrs ▸ HO.out.rs.len
    have hl2 : us.length ≤ 16 := hus ▸ HO.out.us.len
    have hl3 : ps.length ≤ 24 := hps ▸ HO.out.ps.len
    have HB := Lib.hid (show (∀ r ∈ rs, (routeB r).length ≤ 24 ∧ r.pre.size ≤ 8 ∧ 0 ≤ r.target ∧ r.target ≤ 99) ∧ (∀ u ∈ us, (useB u).length ≤ 64 ∧ u.card.size ≤ 32 ∧ (0 ≤ u.window ∧ u.window ≤ 9223372036854775807) ∧ (0 ≤ u.times ∧ u.times ≤ 9223372036854775807) ∧ 0 ≤ u.sum ∧ u.sum ≤ 9223372036854775807) ∧ ∀ p ∈ ps, (postB p).length ≤ 400 ∧ p.key.size ≤ 40 ∧ (0 ≤ p.amount ∧ p.amount ≤ 9223372036854775807) ∧ (0 ≤ p.state ∧ p.state ≤ 9223372036854775807) ∧ p.answer.size ≤ 256 from by
      subst hrs hus hps
      refine ⟨fun r hr => ?_, fun u hu => ?_, fun p hp => ?_⟩
      · have := HO.out.rs.tgt r hr
        exact ⟨HL.out.1 r hr, (preB_iff.1 (HO.out.rs.pre r hr)).2.2, by omega, by omega⟩
      · have h1 := HO.out.us.each u hu
        have h4 := h1.t1
        have h5 := h1.s1
        exact ⟨HL.out.2.1 u hu, card_size h1.card, ⟨h1.win, HO.out.win u hu⟩, ⟨h1.t0, by omega⟩, h1.s0, by omega⟩
      · obtain ⟨h1, h2, h3, h4, h5⟩ := may_post (HO.out.ps.may p hp)
        exact ⟨HL.out.2.2 p hp, h1, ⟨h2, by omega⟩, ⟨by omega, by omega⟩, h4⟩)
    rw [hrs] at HRl
    rw [hus] at HMl
    rw [hps] at HLl
    obtain ⟨y2, y7, y8⟩ := HCj.out _ (Fr.refl _ w2)
    clear H1 HN HCk HK2 HVe HC HT HO HL hP0 hrs hus hps hv2 z1 z2 z3 z4 z5 z6 z7 z8 x0 x3 x4 x5 x6
    go_upto_region 3 with fail
    go_region_held3 (fun W => W.cell? ⟨A.tb, 2, none⟩ = some (.pointer (some ⟨A.rl, 0, none⟩)) ∧ W.cell? ⟨A.tb, 7, none⟩ = some (.pointer (some ⟨A.bk, 0, none⟩)) ∧ W.cell? ⟨A.tb, 8, none⟩ = some (.pointer (some ⟨A.ll, 0, none⟩)))
      (first | exact HCj.out _ (by repeat (first | (with_reducible exact Fr.refl _ _) | (with_reducible refine Fr.drew ?_) | (with_reducible refine Fr.trans' ?_ f5) | (with_reducible refine Fr.trans' ?_ f4) | (with_reducible refine Fr.trans' ?_ f3))) | fail "nokeep")
      (first
        | (go_at_call 68; (with_reducible refine (HRl.out _ ?_).mono ?_); (exact FW.out.trans' (by repeat (first | (with_reducible exact Fr.refl _ _) | (with_reducible refine Fr.drew ?_) | (with_reducible refine Fr.trans' ?_ f5) | (with_reducible refine Fr.trans' ?_ f4) | (with_reducible refine Fr.trans' ?_ f3)))); rintro e w3 ⟨v3, rfl, r3, f3, n3⟩; obtain ⟨ra, rc, rfl, -⟩ := r3.shape; have B3 := Lib.hid (show Bes Rt.RouteR ra rs w3 F2 from Bes.new (w0 := w2) r3 (fun k hk => Nat.le_trans (Fr.size (S := noBlock) (by repeat (first | (with_reducible exact Fr.refl _ _) | (with_reducible refine Fr.drew ?_) | (with_reducible refine Fr.trans' ?_ f5) | (with_reducible refine Fr.trans' ?_ f4) | (with_reducible refine Fr.trans' ?_ f3)))) (n3 k hk)) HF2.out); clear r3 n3)
        | (go_at_call 69; (with_reducible refine (HMl.out _ ?_).mono ?_); (exact FW.out.trans' (by repeat (first | (with_reducible exact Fr.refl _ _) | (with_reducible refine Fr.drew ?_) | (with_reducible refine Fr.trans' ?_ f5) | (with_reducible refine Fr.trans' ?_ f4) | (with_reducible refine Fr.trans' ?_ f3)))); rintro e w4 ⟨v4, rfl, r4, f4, n4⟩; obtain ⟨ua, uc, rfl, -⟩ := r4.shape; have B4 := Lib.hid (show Bes Lm.UseR ua us w4 F2 from Bes.new (w0 := w2) r4 (fun k hk => Nat.le_trans (Fr.size (S := noBlock) (by repeat (first | (with_reducible exact Fr.refl _ _) | (with_reducible refine Fr.drew ?_) | (with_reducible refine Fr.trans' ?_ f5) | (with_reducible refine Fr.trans' ?_ f4) | (with_reducible refine Fr.trans' ?_ f3)))) (n4 k hk)) HF2.out); clear r4 n4)
        | (go_at_call 57; (with_reducible refine (HLl.out _ ?_).mono ?_); (exact FW.out.trans' (by repeat (first | (with_reducible exact Fr.refl _ _) | (with_reducible refine Fr.drew ?_) | (with_reducible refine Fr.trans' ?_ f5) | (with_reducible refine Fr.trans' ?_ f4) | (with_reducible refine Fr.trans' ?_ f3)))); rintro e w5 ⟨v5, rfl, r5, f5, n5⟩; obtain ⟨pa, pc, rfl, -⟩ := r5.shape; have B5 := Lib.hid (show Bes PostR pa ps w5 F2 from Bes.new (w0 := w2) r5 (fun k hk => Nat.le_trans (Fr.size (S := noBlock) (by repeat (first | (with_reducible exact Fr.refl _ _) | (with_reducible refine Fr.drew ?_) | (with_reducible refine Fr.trans' ?_ f5) | (with_reducible refine Fr.trans' ?_ f4) | (with_reducible refine Fr.trans' ?_ f3)))) (n5 k hk)) HF2.out); clear r5 n5)
        | fail "noarm")
    all_goals
      have H5 := Lib.hid (show StP w w5 pb F2 P0 ra rs ua us pa ps from ⟨Hold.ok.fr0 H2.out.1 (by repeat (first | (with_reducible exact Fr.refl _ _) | (with_reducible refine Fr.drew ?_) | (with_reducible refine Fr.trans' ?_ f5) | (with_reducible refine Fr.trans' ?_ f4) | (with_reducible refine Fr.trans' ?_ f3))), FW.out.trans' (by repeat (first | (with_reducible exact Fr.refl _ _) | (with_reducible refine Fr.drew ?_) | (with_reducible refine Fr.trans' ?_ f5) | (with_reducible refine Fr.trans' ?_ f4) | (with_reducible refine Fr.trans' ?_ f3))), HNw.out, B3.out.fr (by repeat (first | (with_reducible exact Fr.refl _ _) | (with_reducible refine Fr.drew ?_) | (with_reducible refine Fr.trans' ?_ f5) | (with_reducible refine Fr.trans' ?_ f4) | (with_reducible refine Fr.trans' ?_ f3))), B4.out.fr (by repeat (first | (with_reducible exact Fr.refl _ _) | (with_reducible refine Fr.drew ?_) | (with_reducible refine Fr.trans' ?_ f5) | (with_reducible refine Fr.trans' ?_ f4) | (with_reducible refine Fr.trans' ?_ f3))), B5.out⟩)
      clear H2 FW HF2 HNw HCj B3 B4 B5 f3 f4 f5 HRl HMl HLl y2 y7 y8
      obtain ⟨P1, hP1⟩ : ∃ P, P0 ++ ([(rs.length : Int)].flatMap nB) = P := ⟨_, rfl⟩
      have hl4 : P1.length = 48 := by rw [← hP1, List.length_append, nums_len, hl0]; rfl
      have HNa := Lib.hid (H5.out.nums (nc := 1) (ms := [(rs.length : Int)]) (Nat.le_refl _) ((Fr.refl _ w5).alloc _) (heap_new w5 (.cells #[.int .i64 (rs.length : Int)] 3)) rfl (fun x hx => by rw [List.mem_singleton.1 hx]; omega) (by simp) (by omega))
      rw [hP1] at HNa HE
      clear hP1 H5
      go_wp2_with fail
      refine HNa.out.mono ?_
      rintro e w6 ⟨rfl, F6, k6, -⟩
      have H6 := Lib.hid k6
      clear k6 HNa
      go_wp2_with fail
      go_loopw [8, 61] (fun s8 s61 W => ∃ (k : Nat) (F : Nat → Prop), k ≤ rs.length ∧ s61 = .int .i64 k ∧ Hid (StP w W pb F (P1 ++ (rs.take k).flatMap routeB) ra rs ua us pa ps)) (fun _ s61 _ => rs.length - (intOf s61).toNat)
      case atStart => exact ⟨0, F6, Nat.zero_le _, rfl, Lib.hid (by simpa using H6.out)⟩
      case round =>
        clear H6
        obtain ⟨k, F, hk, rfl, HI⟩ := hrel
        by_cases hlt : k < rs.length
        · have q1 : (k : Int) < (rs.length : Int) := by omega
          have q0 : (0 : Int) ≤ (k : Int) := by omega
          obtain ⟨gb, off, hra, -, hcell⟩ := HI.out.rr.rd.at' k hlt
          have y0 : wr.cell? ⟨gb, off + k * 2, none⟩ = some (.string rs[k].pre) := hcell 0 (.string rs[k].pre) rfl
          have y1 : wr.cell? ⟨gb, off + k * 2 + 1, none⟩ = some (.int .i64 rs[k].target) := hcell 1 (.int .i64 rs[k].target) rfl
          obtain ⟨hb1, hb2, hb3, hb4⟩ := HB.out.1 _ (List.getElem_mem hlt)
          have hfl : ((rs.take k).flatMap routeB).length ≤ 24 * 24 := by
            have := flat_le routeB 24 (rs.take k) (fun x hx => (HB.out.1 x (List.mem_of_mem_take hx)).1)
            rw [List.length_take] at this
            have : 24 * min k rs.length ≤ 24 * 24 := Nat.mul_le_mul_left _ (by omega)
            omega
          have HT := Lib.hid (show ((P1 ++ (rs.take k).flatMap routeB) ++ txB rs[k].pre) ++ ([rs[k].target].flatMap nB) = P1 ++ (rs.take (k + 1)).flatMap routeB from by
            rw [flat_take routeB hlt]
            simp [routeB, List.append_assoc])
          obtain ⟨P, hP⟩ : ∃ P, P1 ++ (rs.take k).flatMap routeB = P := ⟨_, rfl⟩
          have hPl : P.length ≤ 1000 := by rw [← hP, List.length_append]; omega
          rw [hP] at HT HI
          generalize rs[k] = r at *
          obtain ⟨pre, tg⟩ := r
          dsimp only at hb1 hb2 hb3 hb4 HT y0 y1
          subst hra
          clear hcell hfl hP hb1
          obtain ⟨g8, hg8⟩ : ∃ g, wr.heap.size = g := ⟨_, rfl⟩
          go_upto_region 8 with fail
          refine wp_at (fun W => StP w W pb F P (some ⟨gb, off, none⟩) rs ua us pa ps ∧ W.heap[g8]? = some (.cells #[.string pre, .int .i64 tg] 125 (0, 0)) ∧ ¬ F g8) ⟨HI.out.on ((Fr.refl _ wr).alloc _), hg8 ▸ heap_new wr _, fun hf => by have := Hold.ok.lt HI.out.it _ hf; omega⟩ ?_
          clear HI hg8 y0 y1
          rintro w7 ⟨k7, b7, n7⟩
          have H7 := Lib.hid (And.intro b7 n7)
          have HTx := Lib.hid (k7.text pre (by omega) (by omega))
          have c0 := cell_of b7 0
          clear k7 b7 n7
          go_wp2_with fail
          refine HTx.out.mono ?_
          rintro e w8 ⟨rfl, F8, k8, s8⟩
          have b8 := s8.fr.obj H7.out.1 H7.out.2
          have c1 := cell_of b8 1
          have HNm := Lib.hid (k8.nums (nc := 1) (ms := [tg]) (Nat.le_refl _) ((Fr.refl _ w8).alloc _) (heap_new w8 (.cells #[.int .i64 tg] 3)) rfl (fun x hx => by rw [List.mem_singleton.1 hx]; omega) (by simp) (by rw [List.length_append, txB_len]; omega))
          rw [HT.out] at HNm
          clear k8 s8 b8 H7 HTx c0 HT
          go_wp2_with fail
          refine HNm.out.mono ?_
          rintro e w9 ⟨rfl, F9, k9, -⟩
          have H9 := Lib.hid k9
          clear k9 HNm c1
          go_wp2_with fail
          go_roundw
          case rel => exact ⟨k + 1, F9, hlt, by go_num, H9⟩
          case measure => simp [intOf]; omega
        · obtain rfl : k = rs.length := by omega
          rw [List.take_length] at HI
          obtain ⟨P2, hP2⟩ : ∃ P, (P1 ++ rs.flatMap routeB) ++ ([(us.length : Int)].flatMap nB) = P := ⟨_, rfl⟩
          have hl5 : P2.length ≤ 700 := by
            have := flat_le routeB 24 rs (fun x hx => (HB.out.1 x hx).1)
            have : 24 * rs.length ≤ 24 * 24 := Nat.mul_le_mul_left _ (by omega)
            rw [← hP2, List.length_append, List.length_append, nums_len]
            simp only [List.length_singleton]
            omega
          have HNa := Lib.hid (HI.out.nums (nc := 1) (ms := [(us.length : Int)]) (Nat.le_refl _) ((Fr.refl _ wr).alloc _) (heap_new wr (.cells #[.int .i64 (us.length : Int)] 3)) rfl (fun x hx => by rw [List.mem_singleton.1 hx]; omega) (by simp) (by
            have h := congrArg List.length hP2
            rw [List.length_append] at h
            omega))
          rw [hP2] at HNa HE
          clear hP2 HI
          go_wp2_with fail
          refine HNa.out.mono ?_
          rintro e w6 ⟨rfl, F6, k6, -⟩
          have H6 := Lib.hid k6
          clear k6 HNa
          go_wp2_with fail
          go_loopw [10, 79] (fun s10 s79 W => ∃ (k : Nat) (F : Nat → Prop), k ≤ us.length ∧ s79 = .int .i64 k ∧ Hid (StP w W pb F (P2 ++ (us.take k).flatMap useB) ra rs ua us pa ps)) (fun _ s79 _ => us.length - (intOf s79).toNat)
          case atStart => exact ⟨0, F6, Nat.zero_le _, rfl, Lib.hid (by simpa using H6.out)⟩
          case round =>
            clear H6
            obtain ⟨k, F, hk, rfl, HI⟩ := hrel
            by_cases hlt : k < us.length
            · have q1 : (k : Int) < (us.length : Int) := by omega
              have q0 : (0 : Int) ≤ (k : Int) := by omega
              obtain ⟨gb, off, hra, -, hcell⟩ := HI.out.ru.rd.at' k hlt
              have y0 : wr.cell? ⟨gb, off + k * 4, none⟩ = some (.string us[k].card) := hcell 0 (.string us[k].card) rfl
              have y1 : wr.cell? ⟨gb, off + k * 4 + 1, none⟩ = some (.int .i64 us[k].window) := hcell 1 (.int .i64 us[k].window) rfl
              have y2 : wr.cell? ⟨gb, off + k * 4 + 2, none⟩ = some (.int .i64 us[k].times) := hcell 2 (.int .i64 us[k].times) rfl
              have y3 : wr.cell? ⟨gb, off + k * 4 + 3, none⟩ = some (.int .i64 us[k].sum) := hcell 3 (.int .i64 us[k].sum) rfl
              obtain ⟨-, hb2, hb3, hb4, hb5⟩ := HB.out.2.1 _ (List.getElem_mem hlt)
              have hfl : ((us.take k).flatMap useB).length ≤ 64 * 16 := by
                have := flat_le useB 64 (us.take k) (fun x hx => (HB.out.2.1 x (List.mem_of_mem_take hx)).1)
                rw [List.length_take] at this
                have : 64 * min k us.length ≤ 64 * 16 := Nat.mul_le_mul_left _ (by omega)
                omega
              have HT := Lib.hid (show ((P2 ++ (us.take k).flatMap useB) ++ txB us[k].card) ++ ([us[k].window, us[k].times, us[k].sum].flatMap nB) = P2 ++ (us.take (k + 1)).flatMap useB from by
                rw [flat_take useB hlt]
                simp [useB, List.append_assoc])
              obtain ⟨P, hP⟩ : ∃ P, P2 ++ (us.take k).flatMap useB = P := ⟨_, rfl⟩
              have hPl : P.length ≤ 10000 := by rw [← hP, List.length_append]; omega
              rw [hP] at HT HI
              generalize us[k] = r at *
              obtain ⟨pre, uw, ut, usm⟩ := r
              dsimp only at hb2 hb3 hb4 hb5 HT y0 y1 y2 y3
              subst hra
              clear hcell hfl hP
              obtain ⟨g8, hg8⟩ : ∃ g, wr.heap.size = g := ⟨_, rfl⟩
              go_upto_region 15 with fail
              refine wp_at (fun W => StP w W pb F P ra rs (some ⟨gb, off, none⟩) us pa ps ∧ W.heap[g8]? = some (.cells #[.string pre, .int .i64 uw, .int .i64 ut, .int .i64 usm] 128 (0, 0)) ∧ ¬ F g8) ⟨HI.out.on ((Fr.refl _ wr).alloc _), hg8 ▸ heap_new wr _, fun hf => by have := Hold.ok.lt HI.out.it _ hf; omega⟩ ?_
              clear HI hg8 y0 y1 y2 y3
              rintro w7 ⟨k7, b7, n7⟩
              have H7 := Lib.hid (And.intro b7 n7)
              have HTx := Lib.hid (k7.text pre (by omega) (by omega))
              have c0 := cell_of b7 0
              clear k7 b7 n7
              go_wp2_with fail
              refine HTx.out.mono ?_
              rintro e w8 ⟨rfl, F8, k8, s8⟩
              have b8 := s8.fr.obj H7.out.1 H7.out.2
              have c1 := cell_of b8 1
              have c2 := cell_of b8 2
              have c3 := cell_of b8 3
              have HNm := Lib.hid (k8.nums (nc := 3) (ms := [uw, ut, usm]) (Nat.le_refl _) ((Fr.refl _ w8).alloc _) (heap_new w8 (.cells #[.int .i64 uw, .int .i64 ut, .int .i64 usm] 3)) rfl (fun x hx => by
                simp only [List.mem_cons, List.not_mem_nil, or_false] at hx
                rcases hx with rfl | rfl | rfl
                · exact hb3
                · exact hb4
                · exact hb5) (by simp) (by rw [List.length_append, txB_len]; omega))
              rw [HT.out] at HNm
              clear k8 s8 b8 H7 HTx c0 HT
              go_wp2_with fail
              refine HNm.out.mono ?_
              rintro e w9 ⟨rfl, F9, k9, -⟩
              have H9 := Lib.hid k9
              clear k9 HNm c1 c2 c3
              go_wp2_with fail
              go_roundw
              case rel => exact ⟨k + 1, F9, hlt, by go_num, H9⟩
              case measure => simp [intOf]; omega
            · obtain rfl : k = us.length := by omega
              rw [List.take_length] at HI
              obtain ⟨P3, hP3⟩ : ∃ P, (P2 ++ us.flatMap useB) ++ ([(ps.length : Int)].flatMap nB) = P := ⟨_, rfl⟩
              have hl6 : P3.length ≤ 2000 := by
                have := flat_le useB 64 us (fun x hx => (HB.out.2.1 x hx).1)
                have : 64 * us.length ≤ 64 * 16 := Nat.mul_le_mul_left _ (by omega)
                rw [← hP3, List.length_append, List.length_append, nums_len]
                simp only [List.length_singleton]
                omega
              have HNa := Lib.hid (HI.out.nums (nc := 1) (ms := [(ps.length : Int)]) (Nat.le_refl _) ((Fr.refl _ wr).alloc _) (heap_new wr (.cells #[.int .i64 (ps.length : Int)] 3)) rfl (fun x hx => by rw [List.mem_singleton.1 hx]; omega) (by simp) (by
                have h := congrArg List.length hP3
                rw [List.length_append] at h
                omega))
              rw [hP3] at HNa HE
              clear hP3 HI
              go_wp2_with fail
              refine HNa.out.mono ?_
              rintro e w6 ⟨rfl, F6, k6, -⟩
              have H6 := Lib.hid k6
              clear k6 HNa
              go_wp2_with fail
              go_loopw [12, 101] (fun s12 s101 W => ∃ (k : Nat) (F : Nat → Prop), k ≤ ps.length ∧ s101 = .int .i64 k ∧ Hid (StP w W pb F (P3 ++ (ps.take k).flatMap postB) ra rs ua us pa ps)) (fun _ s101 _ => ps.length - (intOf s101).toNat)
              case atStart => exact ⟨0, F6, Nat.zero_le _, rfl, Lib.hid (by simpa using H6.out)⟩
              case round =>
                clear H6
                obtain ⟨k, F, hk, rfl, HI⟩ := hrel
                by_cases hlt : k < ps.length
                · have q1 : (k : Int) < (ps.length : Int) := by omega
                  have q0 : (0 : Int) ≤ (k : Int) := by omega
                  obtain ⟨gb, off, hra, -, hcell⟩ := HI.out.rp.rd.at' k hlt
                  have y0 : wr.cell? ⟨gb, off + k * 4, none⟩ = some (.string ps[k].key) := hcell 0 (.string ps[k].key) rfl
                  have y1 : wr.cell? ⟨gb, off + k * 4 + 1, none⟩ = some (.int .i64 ps[k].amount) := hcell 1 (.int .i64 ps[k].amount) rfl
                  have y2 : wr.cell? ⟨gb, off + k * 4 + 2, none⟩ = some (.int .i64 ps[k].state) := hcell 2 (.int .i64 ps[k].state) rfl
                  have y3 : wr.cell? ⟨gb, off + k * 4 + 3, none⟩ = some (.string ps[k].answer) := hcell 3 (.string ps[k].answer) rfl
                  obtain ⟨-, hb2, hb3, hb4, hb5⟩ := HB.out.2.2 _ (List.getElem_mem hlt)
                  have hfl : ((ps.take k).flatMap postB).length ≤ 400 * 24 := by
                    have := flat_le postB 400 (ps.take k) (fun x hx => (HB.out.2.2 x (List.mem_of_mem_take hx)).1)
                    rw [List.length_take] at this
                    have : 400 * min k ps.length ≤ 400 * 24 := Nat.mul_le_mul_left _ (by omega)
                    omega
                  have HT := Lib.hid (show (((P3 ++ (ps.take k).flatMap postB) ++ txB ps[k].key) ++ ([ps[k].amount, ps[k].state].flatMap nB)) ++ txB ps[k].answer = P3 ++ (ps.take (k + 1)).flatMap postB from by
                    rw [flat_take postB hlt]
                    simp [postB, List.append_assoc])
                  obtain ⟨P, hP⟩ : ∃ P, P3 ++ (ps.take k).flatMap postB = P := ⟨_, rfl⟩
                  have hPl : P.length ≤ 20000 := by rw [← hP, List.length_append]; omega
                  rw [hP] at HT HI
                  generalize ps[k] = r at *
                  obtain ⟨pre, pam, pst, pan⟩ := r
                  dsimp only at hb2 hb3 hb4 hb5 HT y0 y1 y2 y3
                  subst hra
                  clear hcell hfl hP
                  obtain ⟨g8, hg8⟩ : ∃ g, wr.heap.size = g := ⟨_, rfl⟩
                  go_upto_region 22 with fail
                  refine wp_at (fun W => StP w W pb F P ra rs ua us (some ⟨gb, off, none⟩) ps ∧ W.heap[g8]? = some (.cells #[.string pre, .int .i64 pam, .int .i64 pst, .string pan] 53 (0, 0)) ∧ ¬ F g8) ⟨HI.out.on ((Fr.refl _ wr).alloc _), hg8 ▸ heap_new wr _, fun hf => by have := Hold.ok.lt HI.out.it _ hf; omega⟩ ?_
                  clear HI hg8 y0 y1 y2 y3
                  rintro w7 ⟨k7, b7, n7⟩
                  have H7 := Lib.hid (And.intro b7 n7)
                  have HTx := Lib.hid (k7.text pre (by omega) (by omega))
                  have c0 := cell_of b7 0
                  have hgl := heap_lt b7
                  clear k7 b7 n7
                  go_wp2_with fail
                  refine HTx.out.mono ?_
                  rintro e w8 ⟨rfl, F8, k8, s8⟩
                  have b8 := s8.fr.obj H7.out.1 H7.out.2
                  have n8 : ¬ F8 g8 := fun hf => (s8.foot _ hf).elim H7.out.2 (fun hle => by omega)
                  have H8 := Lib.hid (And.intro b8 n8)
                  have c1 := cell_of b8 1
                  have c2 := cell_of b8 2
                  have HNm := Lib.hid (k8.nums (nc := 2) (ms := [pam, pst]) (Nat.le_refl _) ((Fr.refl _ w8).alloc _) (heap_new w8 (.cells #[.int .i64 pam, .int .i64 pst] 3)) rfl (fun x hx => by
                    simp only [List.mem_cons, List.not_mem_nil, or_false] at hx
                    rcases hx with rfl | rfl
                    · exact hb3
                    · exact hb4) (by simp) (by rw [List.length_append, txB_len]; omega))
                  clear k8 s8 b8 n8 H7 HTx c0 hgl
                  go_wp2_with fail
                  refine HNm.out.mono ?_
                  rintro e w9 ⟨rfl, F9, k9, s9⟩
                  have b9 := s9.fr.obj H8.out.1 H8.out.2
                  have c3 := cell_of b9 3
                  have HTy := Lib.hid (k9.text pan (by omega) (by rw [List.length_append, List.length_append, txB_len, nums_len]; simp only [List.length_cons, List.length_nil]; omega))
                  rw [HT.out] at HTy
                  clear k9 s9 b9 H8 HNm c1 c2 HT
                  go_wp2_with fail
                  refine HTy.out.mono ?_
                  rintro e wa ⟨rfl, Fa, ka, -⟩
                  have Ha := Lib.hid ka
                  clear ka HTy c3
                  go_wp2_with fail
                  go_roundw
                  case rel => exact ⟨k + 1, Fa, hlt, by go_num, Ha⟩
                  case measure => simp [intOf]; omega
                · obtain rfl : k = ps.length := by omega
                  rw [List.take_length, ← HE.out] at HI
                  obtain ⟨vo, vc, c0, -, -, -, -, r0, -, -, -, n0⟩ := HI.out.it.opened
                  have HR := Lib.hid (And.intro r0 n0)
                  obtain ⟨sn, hsn⟩ : ∃ x, (stateB S).length = x := ⟨_, rfl⟩
                  have HSn := Lib.hid hsn
                  rw [hsn] at c0
                  clear r0 n0 hsn
                  go_wp2_with fail
                  go_ret
                  refine ⟨⟨vo, sn, vc⟩, rfl, HSn.out.symm, ?_, HI.out.fr, fun k hk => HI.out.new k (HR.out.2 k ?_)⟩
                  · have := HR.out.1
                    rw [HSn.out] at this
                    exact this
                  · rw [HSn.out]
                    exact hk
end Go.Proofs.YtajhgejhdalobaaGreatDoor
