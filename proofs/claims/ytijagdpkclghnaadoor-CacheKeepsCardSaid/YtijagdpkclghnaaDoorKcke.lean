/- Several texts in one: UConcat MList CState CGet CShelf CStep CSec COpen. -/
import Derived.Test.YtijagdpkclghnaaDoorKckd
import Derived.Shelf.Spec.SlicesGrow
import Derived.Ground.Names8Prog
import Derived.Deep.OwnRows
import Derived.Laws.BytesArg
import Derived.Laws.Concat
/- slices.Grow off the shelf, slices.Concat of two rows, Order, Victim: contracts. -/
namespace Go
open Go.RowKit
/-- An append of one owned row to another. -/
theorem wpList_append_irow {P : Program} (w : World) {ops : Array Oper} {rest : List Oper} {o : Oper} {a : Act} {Q : Exit → Act → World → Prop} (hgd : o.guard = none) (s x : Operand) (t e : TypeId) (i : TypeInfo)
    (ho : o.op = .call { callee := .builtin .append, args := #[s, x], argTypes := #[t, t] }) (ht : P.underlying t = some (.slice e)) (hi : P.info? e = some i) (hz : i.zero = some (.int .i64 0)) (hsize : i.size = 1) (hby : i.bytes = 8)
    {B C : Nat} {v u : Value} {xs ys : List Int} (hs : a.eval s = v) (hx : a.eval x = u) (hown : w.irow B e v xs) (hu : w.irow C e u ys) (hb : xs.length + ys.length ≤ 100000) (hbase : B ≤ w.heap.size)
    (h : ∀ v' w', w'.irow B e v' (xs ++ ys) → w.grownBy w' v.ownBlock → wpList P ops Q rest (a.put o.dst v') w') : wpList P ops Q (o :: rest) a w := by
  rcases hu.form with ⟨rfl, rfl⟩ | ⟨g, cap, rfl, _, _, _, _, hc⟩
  · refine wpList_plain hgd fun K hK => ?_
    have hr := run_append_owned_none (P := P) (w := w) B t o.type e i 1 ht hi v _ _ hown
    unfold Oper.wp execOp
    simp only [ho, resolve, invoke, builtin, Sem.run_bind, Sem.run_pure, Result.andThen_ok, List.map_toArray, List.map_cons, List.map_nil, hs, hx, hr]
    exact hK _ _ (h v w (by rw [List.append_nil]; exact hown) (World.grownBy.refl _ _))
  · refine wpList_append_own w hgd s x t ho B e i (.int .i64 0) 1 8 ht hi hz hsize hby rfl (by decide) v xs.length (ints xs) hs hown ⟨g, 0, none⟩ ys.length cap (ints ys) hx (by rw [ints_len, Nat.mul_one]) (fun j y hj => ?_) (fun y hy => ?_) (by unfold maxLen; omega) (by omega) hbase ?_
    · unfold ints at hj
      rw [List.getElem?_map] at hj
      cases hy : ys[j]? with
      | none => rw [hy] at hj; cases hj
      | some z =>
        rw [hy] at hj
        simp only [Option.map_some, Option.some.injEq] at hj
        rw [addr_add', Nat.zero_add, ← hj]
        exact hc j z hy
    · unfold ints at hy
      obtain ⟨z, _, rfl⟩ := List.mem_map.1 hy
      rfl
    · intro v' w' h1 h2 _
      refine h v' w' ?_ h2
      unfold World.irow
      rw [List.length_append, ints_append]
      exact h1
end Go
namespace Go.Proofs.YtijagdpkclghnaaDoor
open Go Go.RowKit Go.Shelf
set_option maxRecDepth 100000
variable {B n : Nat} {w : World} {M : TM} {T : TS}
shelf_lay_g Lays8.n4 Nm8 4 at Tryd 94 as growL
theorem Grow_any (m : Nat) (w : World) (hm : m ≤ 1000) : Calls Tryd.prog 94 #[.slice none 0 0, .int .i64 (m : Int)] w fun e w' => (∃ v, e = .returned v ∧ w'.irow w.heap.size tI v []) ∧ Below w.heap.size w w' := by
  by_cases h0 : m = 0
  · subst h0
    refine (Any8.slices_Grow_room growL none 0 0 0 w (by decide) (by decide) (by decide) (by decide)).mono ?_
    rintro e w' ⟨h1, rfl⟩
    exact ⟨⟨_, h1, World.irow.nil _ _ _⟩, Below.refl _ _⟩
  · obtain ⟨i0, hi, hz0, hz1, hz2⟩ := info_parts infoInt
    refine (Any8.slices_Grow_grow growL i0 (.int .i64 0) hi hz0 (by omega) none 0 0 m [] w (by decide) (by omega) (by rw [hz2]; omega) (by omega) (by simp) (fun _ => rfl) (fun a h => by cases h)).mono ?_
    rintro e w' ⟨h1, rfl⟩
    refine ⟨⟨_, h1, ?_⟩, (Below.refl _ _).drew.alloc (Nat.le_refl _) _⟩
    have g1 := grownCap_ge w (0 + m) 0 tI
    have g2 := grownCap_le_maxLen w (0 + m) 0 tI (by unfold maxLen; omega)
    refine World.ownsRow_made w.drew _ _ (Nat.le_refl _) g2 ?_
    simp only [Builtin.zeroCells, Array.size_append, Array.size_map, Array.size_range, Value.cells]
    show 0 + (0 + m - 0) * 1 + (grownCap w (0 + m) 0 tI - (0 + m)) * 1 = grownCap w (0 + m) 0 tI * 1
    omega
theorem Concat_any {S : Nat} {v1 v2 : Value} {xs ys : List Int} {C : Nat} (w : World) (hr : w.row S [v1, v2] 99) (h1 : w.irow C tI v1 xs) (h2 : w.irow C tI v2 ys) (hl : xs.length + ys.length ≤ 1000) :
    Calls Tryd.prog 87 #[.slice (some ⟨S, 0, none⟩) 2 2] w fun e w' => (∃ v, e = .returned v ∧ w'.irow w.heap.size tI v (xs ++ ys)) ∧ Below w.heap.size w w' := by
  obtain ⟨i0, hi, hz0, hz1, hz2⟩ := info_parts infoInt
  have HI : Hid (Tryd.prog.info? tI = some i0 ∧ i0.zero = some (.int .i64 0) ∧ i0.size = 1 ∧ i0.bytes = 8) := ⟨hi, hz0, hz1, hz2⟩
  clear hi hz0 hz1 hz2
  obtain ⟨a1, k1, e1⟩ := irow_shape h1
  obtain ⟨a2, k2, e2⟩ := irow_shape h2
  subst e1
  subst e2
  obtain ⟨p, hp⟩ : ∃ p, p = xs.length := ⟨_, rfl⟩
  obtain ⟨q, hq⟩ : ∃ q, q = ys.length := ⟨_, rfl⟩
  rw [← hp] at hr h1 hl
  rw [← hq] at hr h2 hl
  have HL := Lib.hid (And.intro hp (And.intro hq (And.intro h1 h2)))
  have HR := Lib.hid hr
  obtain ⟨c0, c1, z⟩ := hr.two
  clear hp hq h1 h2 hr
  go_enter Tryd.func87, Tryd.ntmps87
  go_wp2_with fail
  refine wp_loop_rounds 3 ?_
  rw [rounds_succ]
  go_wp2_with fail
  rw [rounds_succ]
  go_wp2_with fail
  rw [rounds_succ]
  go_wp2_with fail
  have hG := Grow_any (p + q) w hl
  simp only [Int.natCast_add] at hG
  refine hG.mono ?_
  rintro e w1 ⟨⟨v, rfl, hv⟩, hb1⟩
  clear hG c0 c1 z
  have hr1 := HR.out.below hb1 HR.out.lt
  obtain ⟨c0, c1, z⟩ := hr1.two
  have hu1 := irow_below HL.out.2.2.1 hb1
  go_wp2_with fail
  refine wp_loop_rounds 3 ?_
  rw [rounds_succ]
  go_wp2_with (at_builtin; refine wpList_append_irow _ rfl _ _ 99 tI i0 rfl Tryd.underlying99 HI.out.1 HI.out.2.1 HI.out.2.2.1 HI.out.2.2.2 rfl rfl hv hu1 (by have := HL.out.1; simp; omega) hb1.size ?_)
  intro v2' w2 ho2 hg2
  have B2 := hb1.grown hg2 hb1.size (fun k hk => (hv.lt k hk).1)
  have hu2 := irow_below HL.out.2.2.2 B2
  have hr2 := HR.out.below B2 HR.out.lt
  clear c0 c1 z hr1 hu1 hv hb1 hg2
  obtain ⟨c0, c1, z⟩ := hr2.two
  go_wp2_with fail
  rw [rounds_succ]
  go_wp2_with (at_builtin; refine wpList_append_irow _ rfl _ _ 99 tI i0 rfl Tryd.underlying99 HI.out.1 HI.out.2.1 HI.out.2.2.1 HI.out.2.2.2 rfl rfl ho2 hu2 (by have h1 := HL.out.1; have h2 := HL.out.2.1; simp; omega) B2.size ?_)
  intro v3' w3 ho3 hg3
  have B3 := B2.grown hg3 B2.size (fun k hk => (ho2.lt k hk).1)
  clear c0 c1 z hr2 hu2 ho2 B2 hg3
  go_wp2_with fail
  rw [rounds_succ]
  go_wp2_with fail
  go_returns
  exact ⟨⟨v3', rfl, ho3⟩, B3⟩
theorem irow_mono {B' : Nat} {v : Value} {xs : List Int} (h : w.irow B tI v xs) (hb : B' ≤ B) : w.irow B' tI v xs :=
  ⟨h.1, h.2.imp id fun ⟨g, cap, cur, hv, hB, r⟩ => ⟨g, cap, cur, hv, Nat.le_trans hb hB, r⟩⟩
theorem Order_any (w : World) (h : TurnAt B n w M T) (hg : Good T) :
    Calls Tryd.prog 75 #[pt M.g] w fun e w' => (∃ v, e = .returned v ∧ w'.irow w.heap.size tI v T.keys) ∧ Below w.heap.size w w' := by
  have hl : T.plain.length + T.dear.length ≤ 1000 := by have := hg.len; have := hg.m64; omega
  obtain ⟨c0, c1, c2, c3, c4, z⟩ := h.five
  have gl := h.row.lt
  obtain ⟨a1, k1, e1⟩ := irow_shape h.o1
  obtain ⟨a2, k2, e2⟩ := irow_shape h.o2
  have ho1 := h.o1
  have ho2 := h.o2
  rw [e1] at c2 ho1
  rw [e2] at c3 ho2
  obtain ⟨p, hp⟩ : ∃ p, p = T.plain.length := ⟨_, rfl⟩
  obtain ⟨q, hq⟩ : ∃ q, q = T.dear.length := ⟨_, rfl⟩
  rw [← hp] at c2 ho1
  rw [← hq] at c3 ho2
  have HH := Lib.hid (And.intro h hl)
  have H12 := Lib.hid (And.intro ho1 ho2)
  clear h hl hg ho1 ho2 e1 e2 hp hq
  go_enter Tryd.func75, Tryd.ntmps75
  go_upto_region 3 with fail
  refine wp_region_ext_head 8 w.heap.size (Nat.le_refl _) (by kernel_rfl) (by kernel_rfl) ?_
  intro _
  simp only [List.take_succ_cons, List.take_zero, List.drop_succ_cons, List.drop_zero]
  repeat (go_big_quiet_step (fail))
  refine wpQuiet_nil ?_
  intro x
  have bx := World.ext_below x
  obtain ⟨wx, hwx⟩ : ∃ wx, wx = w.ext w.heap.size x := ⟨_, rfl⟩
  rw [← hwx] at bx ⊢
  clear hwx
  have hr := World.row.new wx [.slice a1 p k1, .slice a2 q k2] 99
  have b1 := bx.alloc bx.size (.cells #[.slice a1 p k1, .slice a2 q k2] 99)
  have i1 := irow_below H12.out.1 b1
  have i2 := irow_below H12.out.2 b1
  go_wp2_with fail
  refine (Concat_any _ hr i1 i2 HH.out.2).mono ?_
  rintro e w2 ⟨⟨v, rfl, hv⟩, hb2⟩
  have b2 := b1.trans (hb2.mono b1.size)
  have hv2 : w2.irow w.heap.size tI v T.keys := irow_mono hv b1.size
  go_wp2_with fail
  go_returns
  exact ⟨⟨v, rfl, hv2⟩, b2⟩
theorem find_first {p : Int → Bool} : ∀ (l : List Int) (i : Nat) (y : Int), l[i]? = some y → p y = true → (∀ j z, j < i → l[j]? = some z → p z = false) → l.find? p = some y
  | [], i, y, h, _, _ => by simp at h
  | x :: l, 0, y, h, hp, _ => by
    simp at h; subst h
    rw [List.find?_cons_of_pos hp]
  | x :: l, i + 1, y, h, hp, hn => by
    have h0 := hn 0 x (by omega) rfl
    rw [List.find?_cons_of_neg (by rw [h0]; simp)]
    exact find_first l i y (by simpa using h) hp fun j z hj hz => hn (j + 1) z (by omega) (by simpa using hz)
/-- The key that goes: the first one that isn't pinned. -/
def TS.victim (T : TS) : Option Int := T.keys.find? fun k => !T.pins.contains k
set_option maxHeartbeats 1000000 in
theorem Victim_any (w : World) (h : TurnAt B n w M T) (hg : Good T) :
    Calls Tryd.prog 67 #[pt M.g] w fun e w' => e = .returned (.tuple #[.int .i64 (T.victim.getD 0), .bool T.victim.isSome]) ∧ Below w.heap.size w w' := by
  have hl : T.keys.length ≤ 1000 := by have := hg.len; have := hg.m64; unfold TS.keys; rw [List.length_append]; omega
  have HH := Lib.hid (And.intro h (And.intro hg.in64 hl))
  have hO := Order_any w h hg
  have hmz : ∀ w, (zeroValue 4).run Tryd.prog w = .ok (.bool false) w := fun w => by kernel_rfl
  have HZ := Lib.hid hmz
  clear hl h hg hmz
  go_enter Tryd.func67, Tryd.ntmps67
  go_wp2_with fail
  refine hO.mono ?_
  rintro e w1 ⟨⟨v, rfl, hv⟩, hb1⟩
  obtain ⟨a, c, rfl⟩ := irow_shape hv
  have HV := Lib.hid (And.intro hv hb1)
  obtain ⟨m, hm⟩ : ∃ m, m = T.keys.length := ⟨_, rfl⟩
  rw [← hm]
  have hm1 : m ≤ 1000 := by rw [hm]; exact HH.out.2.2
  have HM := Lib.hid hm
  clear hO hv hb1 hm
  go_wp2_with fail
  go_loopw [9] (fun x wr => ∃ (i : Nat), i ≤ m ∧ x = .int .i64 i ∧ Below w.heap.size w wr ∧ Below w1.heap.size w1 wr ∧ ∀ j y, j < i → T.keys[j]? = some y → T.pins.contains y = true) (fun x _ => m - (intOf x).toNat)
  case atStart => exact ⟨0, by omega, rfl, HV.out.2, Below.refl _ _, fun j y hj => by omega⟩
  case round =>
    obtain ⟨i, hi, rfl, hB, hB1, hall⟩ := hrel
    have HA := Lib.hid hall
    clear hall
    by_cases hlt : i < m
    · have hil : i < T.keys.length := by rw [← HM.out]; exact hlt
      obtain ⟨y, hy⟩ : ∃ y, T.keys[i]? = some y := ⟨T.keys[i], List.getElem?_eq_getElem hil⟩
      have hvr := irow_below HV.out.1 hB1
      obtain ⟨g1, cap1, ev, _, _, _, _, hcell⟩ := hvr.form.resolve_left (fun e => by rw [e.2] at hil; simp at hil)
      have cy := hcell i y hy
      have hyin := HH.out.2.1 y (List.mem_of_getElem? hy)
      obtain ⟨rfl, _, rfl⟩ := Value.slice.inj ev
      have hT := HH.out.1.below' hB
      obtain ⟨c0, c1, c2, c3, c4, z⟩ := hT.five
      have HT := Lib.hid hT
      have HY := Lib.hid (And.intro hy hyin)
      clear hvr hcell ev hy hyin hT hil
      cases hp : T.pins.contains y with
      | false =>
        have HP := Lib.hid hp
        clear hp
        go_wp2_with (at_lookup; refine wpList_lookup_bmr rfl _ _ 98 rfl Tryd.underlying3 Tryd.underlying98 Tryd.underlying4 HZ.out rfl HT.out.pm y rfl HY.out.2 false HP.out ?_)
        go_ret2
        have hv : T.victim = some y := by
          unfold TS.victim
          exact find_first T.keys i y HY.out.1 (by rw [HP.out]; rfl) fun j z hj hz => by rw [HA.out j z hj hz]; rfl
        refine ⟨?_, hB⟩
        rw [hv]
        rfl
      | true =>
        have HP := Lib.hid hp
        clear hp
        go_wp2_with (at_lookup; refine wpList_lookup_bmr rfl _ _ 98 rfl Tryd.underlying3 Tryd.underlying98 Tryd.underlying4 HZ.out rfl HT.out.pm y rfl HY.out.2 true HP.out ?_)
        go_roundw
        case rel =>
          refine ⟨i + 1, by omega, by go_num, hB, hB1, fun j z hj hz => ?_⟩
          by_cases e : j = i
          · subst e
            have := HY.out.1.symm.trans hz
            cases this
            exact HP.out
          · exact HA.out j z (by omega) hz
        case measure => simp [intOf] <;> omega
    · have hn : T.victim = none := by
        unfold TS.victim
        rw [List.find?_eq_none]
        intro z hz
        obtain ⟨j, hj, rfl⟩ := List.getElem_of_mem hz
        have := HA.out j _ (by have := HM.out; omega) (List.getElem?_eq_getElem hj)
        rw [this]; simp
      go_wp2_with fail
      go_ret2
      refine ⟨?_, hB⟩
      rw [hn]
      rfl
end Go.Proofs.YtijagdpkclghnaaDoor
namespace Go.Proofs.YtijagdpkclghnaaDoor
open Go Go.RowKit
set_option maxRecDepth 100000
def nats (l : List Nat) : List Value := l.map fun n : Nat => Value.int .i64 (n : Int)
theorem nats_append (a b : List Nat) : nats (a ++ b) = nats a ++ nats b := by unfold nats; simp
theorem nats_length (a : List Nat) : (nats a).length = a.length := by unfold nats; simp
theorem infoIntM : (Tryd.prog.info? 3).map (fun i => (i.zero, i.size, i.bytes)) = some (some (.int .i64 0), 1, 8) := by kernel_rfl
theorem bitsOf_len (base y : Nat) : (bitsOf base y).length ≤ 64 := by
  unfold bitsOf
  rw [List.length_map]
  exact Nat.le_trans (List.length_filter_le _ _) (by simp)
theorem clear_bits (y : Nat) (hy : y < 18446744073709551616) (h0 : y ≠ 0) : bits .and .u64 (y : Int) ((y : Int) - 1) = ((y &&& (y - 1) : Nat) : Int) := by
  rw [show (y : Int) - 1 = ((y - 1 : Nat) : Int) by omega, u64_and_nat y _ hy (by omega)]
/-- The numbers of the words from k on. -/
def tails (s : Set4) (k : Nat) : List Nat := if k = 0 then s.list else if k = 1 then bitsOf 64 s.b ++ (bitsOf 128 s.c ++ bitsOf 192 s.d) else if k = 2 then bitsOf 128 s.c ++ bitsOf 192 s.d else if k = 3 then bitsOf 192 s.d else []
theorem tails_step (s : Set4) (k : Nat) (hk : k < 4) : tails s k = bitsOf (64 * k) (s.word k) ++ tails s (k + 1) := by
  have : k = 0 ∨ k = 1 ∨ k = 2 ∨ k = 3 := by omega
  rcases this with rfl | rfl | rfl | rfl
  · exact s.list_words
  · rfl
  · rfl
  · exact (List.append_nil _).symm
theorem list_len (s : Set4) : s.list.length ≤ 256 := by unfold Set4.list; exact Nat.le_trans (List.length_filter_le _ _) (by simp)
theorem part_len {a b c : List Nat} {s : Set4} (h : a ++ (b ++ c) = s.list) : a.length ≤ 256 := by have := list_len s; rw [← h] at this; simp at this; omega
theorem cellOneM (w : World) (v : Value) (t : TypeId) : ∀ (j : Nat) (u : Value), [v][j]? = some u → (w.alloc (.cells #[v] t)).cell? ((⟨w.heap.size, 0, none⟩ : Addr).add j) = some u := by
  intro j u h
  cases j with
  | zero => simp at h; subst h; simp [Addr.add]
  | succ j => simp at h
theorem own_snoc {w : World} {B : Nat} {E : TypeId} {v : Value} {l : List Nat} {z : Int} (h : w.ownsRow B E 1 v (l.length + 1) (nats l ++ [.int .i64 z])) (n : Nat) (hz : z = (n : Int)) : w.ownsRow B E 1 v (l ++ [n]).length (nats (l ++ [n])) := by
  subst hz
  rw [nats_append, List.length_append]
  exact h
set_option maxHeartbeats 4000000 in
theorem List_any (s : Set4) (w : World) (hT : Tab w) : Calls Tryd.prog 32 #[s.val] w fun e w' => (∃ v, e = .returned v ∧ w'.ownsRow w.heap.size 3 1 v s.list.length (nats s.list)) ∧ Below w.heap.size w w' := by
  have hlt := hT.lt
  have HT := Lib.hid hT
  clear hT
  obtain ⟨i0, hi, hz0, hz1, hz2⟩ := info_parts infoIntM
  have HI : Hid (Tryd.prog.info? 3 = some i0 ∧ i0.zero = some (.int .i64 0) ∧ i0.size = 1 ∧ i0.bytes = 8) := ⟨hi, hz0, hz1, hz2⟩
  clear hi hz0 hz1 hz2
  go_enter Tryd.func32, Tryd.ntmps32
  go_wp2
  go_loopw [3, 7] (fun v i wr => ∃ (k : Nat) (l : List Nat), k ≤ 4 ∧ i = .int .i64 k ∧ l ++ tails s k = s.list ∧ Below w.heap.size w wr ∧ w.heap.size + 1 ≤ wr.heap.size ∧ wr.ownsRow w.heap.size 3 1 v l.length (nats l)) (fun _ i _ => 4 - (intOf i).toNat)
  case atStart => exact ⟨0, [], by omega, rfl, rfl, (by repeat' (first | (with_reducible exact Below.refl _ _) | (with_reducible assumption) | (with_reducible refine Below.setCell ?_ ?_ _) | (with_reducible refine Below.ext ?_ _ ?_) | (with_reducible refine Below.alloc ?_ ?_ _) | (with_reducible refine Below.drew ?_) | (with_reducible refine Below.drewN ?_ _) | (with_reducible exact Nat.le_refl _) | (dsimp only; omega) | (simp <;> omega))), by simp, World.ownsRow_nil _ _ _ _⟩
  case round =>
    obtain ⟨k, l, hk, rfl, hl, hB, hz, ho⟩ := hrel
    have HLl := Lib.hid hl
    clear hl
    by_cases h4 : k = 4
    · subst h4
      go_wp2
      go_ret
      have hl := HLl.out
      rw [show tails s 4 = [] by rfl, List.append_nil] at hl
      rw [hl] at ho
      exact ⟨⟨_, rfl, ho⟩, hB⟩
    · obtain rfl | rfl | rfl | rfl : k = 0 ∨ k = 1 ∨ k = 2 ∨ k = 3 := by omega
      · go_wp2
        obtain ⟨wo, rfl⟩ : ∃ wo : World, wo = wr := ⟨_, rfl⟩
        go_loopw [3, 5] (fun v x wr => ∃ (l : List Nat) (y : Nat), y < 18446744073709551616 ∧ x = .int .u64 y ∧ l ++ (bitsOf (64 * 0) y ++ tails s (0 + 1)) = s.list ∧ Below w.heap.size w wr ∧ w.heap.size + 1 ≤ wr.heap.size ∧ wr.ownsRow w.heap.size 3 1 v l.length (nats l)) (fun _ x _ => (intOf x).toNat)
        case atStart => exact ⟨l, s.word 0, s.word_lt 0, rfl, by rw [← tails_step s 0 (by omega)]; exact HLl.out, hB, hz, ho⟩
        case round =>
          clear hB hz ho HLl
          obtain ⟨l2, y, hy, rfl, hl, hB, hz, ho⟩ := hrel
          have HTr := Lib.hid (HT.out.below hB hlt)
          have hlen := part_len hl
          have HLl := Lib.hid hl
          clear hl
          by_cases h0 : y = 0
          · subst h0
            go_wp2
            go_roundw
            case rel => exact ⟨0 + 1, l2, by omega, by go_num, by have := HLl.out; rw [bitsOf_zero, List.nil_append] at this; exact this, hB, hz, ho⟩
            case measure => simp [intOf]
          · have e0 : ((y : Int) == 0) = false := by rw [beq_cast]; exact beq_eq_false_iff_ne.2 h0
            have hk2 := (ctz_spec y h0 hy).1
            have Z := Lib.hid h0
            clear h0
            go_wp2_with (first | (go_at_call 55; refine (Trail_any _ _ hy Z.out HTr.out).mono ?_; rintro e w' ⟨rfl, rfl⟩) | (at_builtin; refine wpList_append_own _ rfl _ _ 45 rfl w.heap.size 3 i0 (.int .i64 0) 1 8 Tryd.underlying45 HI.out.1 HI.out.2.1 HI.out.2.2.1 HI.out.2.2.2 rfl (by decide) _ _ _ rfl (ho.alloc _) ⟨wr.heap.size, 0, none⟩ 1 1 [.int .i64 (Lib.ctz 64 y : Nat)] rfl rfl ?c1 ?c2 ?c3 ?c4 ?c5 ?_))
            case c1 => exact cellOneM _ _ _
            case c2 => simp [Value.oneCell']
            case c3 => unfold maxLen; omega
            case c4 => omega
            case c5 => simp; omega
            intro v' w1 ho1 hg _
            have hB1 : Below w.heap.size w w1 := (hB.alloc (by omega) _).grown hg (by simp; omega) (fun k hk => (ho.lt k hk).1)
            have hz1 : w.heap.size + 1 ≤ w1.heap.size := by have := hg.size; simp at this; omega
            have ho2 := own_snoc ho1 (64 * 0 + Lib.ctz 64 y) (by simp)
            have HC := Lib.hid (clear_bits y hy Z.out)
            have hlt2 := clear_lt y Z.out
            clear ho ho1 hg hB hz
            go_wp2
            go_roundw
            case rel =>
              (repeat apply Exists.intro)
              refine ⟨⟨l2 ++ [64 * 0 + Lib.ctz 64 y], y &&& (y - 1), Nat.lt_trans hlt2 hy, by rw [HC.out], ?_, hB1, hz1, ho2⟩, rfl⟩
              have := HLl.out
              rw [bitsOf_step _ y Z.out hy] at this
              rw [← this]; simp
            case measure =>
              show (bits .and .u64 (y : Int) ((y : Int) - 1)).toNat < (y : Int).toNat
              rw [HC.out]; omega
      · go_wp2
        obtain ⟨wo, rfl⟩ : ∃ wo : World, wo = wr := ⟨_, rfl⟩
        go_loopw [3, 5] (fun v x wr => ∃ (l : List Nat) (y : Nat), y < 18446744073709551616 ∧ x = .int .u64 y ∧ l ++ (bitsOf (64 * 1) y ++ tails s (1 + 1)) = s.list ∧ Below w.heap.size w wr ∧ w.heap.size + 1 ≤ wr.heap.size ∧ wr.ownsRow w.heap.size 3 1 v l.length (nats l)) (fun _ x _ => (intOf x).toNat)
        case atStart => exact ⟨l, s.word 1, s.word_lt 1, rfl, by rw [← tails_step s 1 (by omega)]; exact HLl.out, hB, hz, ho⟩
        case round =>
          clear hB hz ho HLl
          obtain ⟨l2, y, hy, rfl, hl, hB, hz, ho⟩ := hrel
          have HTr := Lib.hid (HT.out.below hB hlt)
          have hlen := part_len hl
          have HLl := Lib.hid hl
          clear hl
          by_cases h0 : y = 0
          · subst h0
            go_wp2
            go_roundw
            case rel => exact ⟨1 + 1, l2, by omega, by go_num, by have := HLl.out; rw [bitsOf_zero, List.nil_append] at this; exact this, hB, hz, ho⟩
            case measure => simp [intOf]
          · have e0 : ((y : Int) == 0) = false := by rw [beq_cast]; exact beq_eq_false_iff_ne.2 h0
            have hk2 := (ctz_spec y h0 hy).1
            have Z := Lib.hid h0
            clear h0
            go_wp2_with (first | (go_at_call 55; refine (Trail_any _ _ hy Z.out HTr.out).mono ?_; rintro e w' ⟨rfl, rfl⟩) | (at_builtin; refine wpList_append_own _ rfl _ _ 45 rfl w.heap.size 3 i0 (.int .i64 0) 1 8 Tryd.underlying45 HI.out.1 HI.out.2.1 HI.out.2.2.1 HI.out.2.2.2 rfl (by decide) _ _ _ rfl (ho.alloc _) ⟨wr.heap.size, 0, none⟩ 1 1 [.int .i64 (64 + (Lib.ctz 64 y : Nat))] rfl rfl ?c1 ?c2 ?c3 ?c4 ?c5 ?_))
            case c1 => exact cellOneM _ _ _
            case c2 => simp [Value.oneCell']
            case c3 => unfold maxLen; omega
            case c4 => omega
            case c5 => simp; omega
            intro v' w1 ho1 hg _
            have hB1 : Below w.heap.size w w1 := (hB.alloc (by omega) _).grown hg (by simp; omega) (fun k hk => (ho.lt k hk).1)
            have hz1 : w.heap.size + 1 ≤ w1.heap.size := by have := hg.size; simp at this; omega
            have ho2 := own_snoc ho1 (64 * 1 + Lib.ctz 64 y) (by simp)
            have HC := Lib.hid (clear_bits y hy Z.out)
            have hlt2 := clear_lt y Z.out
            clear ho ho1 hg hB hz
            go_wp2
            go_roundw
            case rel =>
              (repeat apply Exists.intro)
              refine ⟨⟨l2 ++ [64 * 1 + Lib.ctz 64 y], y &&& (y - 1), Nat.lt_trans hlt2 hy, by rw [HC.out], ?_, hB1, hz1, ho2⟩, rfl⟩
              have := HLl.out
              rw [bitsOf_step _ y Z.out hy] at this
              rw [← this]; simp
            case measure =>
              show (bits .and .u64 (y : Int) ((y : Int) - 1)).toNat < (y : Int).toNat
              rw [HC.out]; omega
      · go_wp2
        obtain ⟨wo, rfl⟩ : ∃ wo : World, wo = wr := ⟨_, rfl⟩
        go_loopw [3, 5] (fun v x wr => ∃ (l : List Nat) (y : Nat), y < 18446744073709551616 ∧ x = .int .u64 y ∧ l ++ (bitsOf (64 * 2) y ++ tails s (2 + 1)) = s.list ∧ Below w.heap.size w wr ∧ w.heap.size + 1 ≤ wr.heap.size ∧ wr.ownsRow w.heap.size 3 1 v l.length (nats l)) (fun _ x _ => (intOf x).toNat)
        case atStart => exact ⟨l, s.word 2, s.word_lt 2, rfl, by rw [← tails_step s 2 (by omega)]; exact HLl.out, hB, hz, ho⟩
        case round =>
          clear hB hz ho HLl
          obtain ⟨l2, y, hy, rfl, hl, hB, hz, ho⟩ := hrel
          have HTr := Lib.hid (HT.out.below hB hlt)
          have hlen := part_len hl
          have HLl := Lib.hid hl
          clear hl
          by_cases h0 : y = 0
          · subst h0
            go_wp2
            go_roundw
            case rel => exact ⟨2 + 1, l2, by omega, by go_num, by have := HLl.out; rw [bitsOf_zero, List.nil_append] at this; exact this, hB, hz, ho⟩
            case measure => simp [intOf]
          · have e0 : ((y : Int) == 0) = false := by rw [beq_cast]; exact beq_eq_false_iff_ne.2 h0
            have hk2 := (ctz_spec y h0 hy).1
            have Z := Lib.hid h0
            clear h0
            go_wp2_with (first | (go_at_call 55; refine (Trail_any _ _ hy Z.out HTr.out).mono ?_; rintro e w' ⟨rfl, rfl⟩) | (at_builtin; refine wpList_append_own _ rfl _ _ 45 rfl w.heap.size 3 i0 (.int .i64 0) 1 8 Tryd.underlying45 HI.out.1 HI.out.2.1 HI.out.2.2.1 HI.out.2.2.2 rfl (by decide) _ _ _ rfl (ho.alloc _) ⟨wr.heap.size, 0, none⟩ 1 1 [.int .i64 (128 + (Lib.ctz 64 y : Nat))] rfl rfl ?c1 ?c2 ?c3 ?c4 ?c5 ?_))
            case c1 => exact cellOneM _ _ _
            case c2 => simp [Value.oneCell']
            case c3 => unfold maxLen; omega
            case c4 => omega
            case c5 => simp; omega
            intro v' w1 ho1 hg _
            have hB1 : Below w.heap.size w w1 := (hB.alloc (by omega) _).grown hg (by simp; omega) (fun k hk => (ho.lt k hk).1)
            have hz1 : w.heap.size + 1 ≤ w1.heap.size := by have := hg.size; simp at this; omega
            have ho2 := own_snoc ho1 (64 * 2 + Lib.ctz 64 y) (by simp)
            have HC := Lib.hid (clear_bits y hy Z.out)
            have hlt2 := clear_lt y Z.out
            clear ho ho1 hg hB hz
            go_wp2
            go_roundw
            case rel =>
              (repeat apply Exists.intro)
              refine ⟨⟨l2 ++ [64 * 2 + Lib.ctz 64 y], y &&& (y - 1), Nat.lt_trans hlt2 hy, by rw [HC.out], ?_, hB1, hz1, ho2⟩, rfl⟩
              have := HLl.out
              rw [bitsOf_step _ y Z.out hy] at this
              rw [← this]; simp
            case measure =>
              show (bits .and .u64 (y : Int) ((y : Int) - 1)).toNat < (y : Int).toNat
              rw [HC.out]; omega
      · go_wp2
        obtain ⟨wo, rfl⟩ : ∃ wo : World, wo = wr := ⟨_, rfl⟩
        go_loopw [3, 5] (fun v x wr => ∃ (l : List Nat) (y : Nat), y < 18446744073709551616 ∧ x = .int .u64 y ∧ l ++ (bitsOf (64 * 3) y ++ tails s (3 + 1)) = s.list ∧ Below w.heap.size w wr ∧ w.heap.size + 1 ≤ wr.heap.size ∧ wr.ownsRow w.heap.size 3 1 v l.length (nats l)) (fun _ x _ => (intOf x).toNat)
        case atStart => exact ⟨l, s.word 3, s.word_lt 3, rfl, by rw [← tails_step s 3 (by omega)]; exact HLl.out, hB, hz, ho⟩
        case round =>
          clear hB hz ho HLl
          obtain ⟨l2, y, hy, rfl, hl, hB, hz, ho⟩ := hrel
          have HTr := Lib.hid (HT.out.below hB hlt)
          have hlen := part_len hl
          have HLl := Lib.hid hl
          clear hl
          by_cases h0 : y = 0
          · subst h0
            go_wp2
            go_roundw
            case rel => exact ⟨3 + 1, l2, by omega, by go_num, by have := HLl.out; rw [bitsOf_zero, List.nil_append] at this; exact this, hB, hz, ho⟩
            case measure => simp [intOf]
          · have e0 : ((y : Int) == 0) = false := by rw [beq_cast]; exact beq_eq_false_iff_ne.2 h0
            have hk2 := (ctz_spec y h0 hy).1
            have Z := Lib.hid h0
            clear h0
            go_wp2_with (first | (go_at_call 55; refine (Trail_any _ _ hy Z.out HTr.out).mono ?_; rintro e w' ⟨rfl, rfl⟩) | (at_builtin; refine wpList_append_own _ rfl _ _ 45 rfl w.heap.size 3 i0 (.int .i64 0) 1 8 Tryd.underlying45 HI.out.1 HI.out.2.1 HI.out.2.2.1 HI.out.2.2.2 rfl (by decide) _ _ _ rfl (ho.alloc _) ⟨wr.heap.size, 0, none⟩ 1 1 [.int .i64 (192 + (Lib.ctz 64 y : Nat))] rfl rfl ?c1 ?c2 ?c3 ?c4 ?c5 ?_))
            case c1 => exact cellOneM _ _ _
            case c2 => simp [Value.oneCell']
            case c3 => unfold maxLen; omega
            case c4 => omega
            case c5 => simp; omega
            intro v' w1 ho1 hg _
            have hB1 : Below w.heap.size w w1 := (hB.alloc (by omega) _).grown hg (by simp; omega) (fun k hk => (ho.lt k hk).1)
            have hz1 : w.heap.size + 1 ≤ w1.heap.size := by have := hg.size; simp at this; omega
            have ho2 := own_snoc ho1 (64 * 3 + Lib.ctz 64 y) (by simp)
            have HC := Lib.hid (clear_bits y hy Z.out)
            have hlt2 := clear_lt y Z.out
            clear ho ho1 hg hB hz
            go_wp2
            go_roundw
            case rel =>
              (repeat apply Exists.intro)
              refine ⟨⟨l2 ++ [64 * 3 + Lib.ctz 64 y], y &&& (y - 1), Nat.lt_trans hlt2 hy, by rw [HC.out], ?_, hB1, hz1, ho2⟩, rfl⟩
              have := HLl.out
              rw [bitsOf_step _ y Z.out hy] at this
              rw [← this]; simp
            case measure =>
              show (bits .and .u64 (y : Int) ((y : Int) - 1)).toNat < (y : Int).toNat
              rw [HC.out]; omega
end Go.Proofs.YtijagdpkclghnaaDoor
/- A cache: what it is, where it lies, what a call may touch of it. -/
namespace Go.Proofs.YtijagdpkclghnaaDoor
open Go Go.RowKit
set_option maxRecDepth 100000
/-- A stripe: its block, those of its bytes, now and old; which columns; which are dirty. -/
structure Ent where
  g : Nat
  b1 : Nat
  b2 : Nat
  nt : Set4
  ot : Set4
  dt : Set4
  nb : List ByteArray
  ob : List ByteArray
def Ent.foot (E : Ent) (k : Nat) : Prop := k = E.g ∨ k = E.b1 ∨ k = E.b2
abbrev tE : TypeId := 68
abbrev tC : TypeId := 56
abbrev tStr : TypeId := 9
abbrev slV (b n : Nat) : Value := .slice (some ⟨b, 0, none⟩) n n
abbrev Ent.cells (E : Ent) (data : Nat) : List Value := [.int .u64 (E.nt.a : Int), .int .u64 (E.nt.b : Int), .int .u64 (E.nt.c : Int), .int .u64 (E.nt.d : Int), slV E.b1 data,
  .int .u64 (E.ot.a : Int), .int .u64 (E.ot.b : Int), .int .u64 (E.ot.c : Int), .int .u64 (E.ot.d : Int), slV E.b2 data, .int .u64 (E.dt.a : Int), .int .u64 (E.dt.b : Int), .int .u64 (E.dt.c : Int), .int .u64 (E.dt.d : Int)]
structure EntAt (B data : Nat) (w : World) (E : Ent) : Prop where
  row : w.row E.g (E.cells data) tE
  r1 : w.row E.b1 (E.nb.map Value.string) tStr
  r2 : w.row E.b2 (E.ob.map Value.string) tStr
  g1 : E.g ≠ E.b1
  g2 : E.g ≠ E.b2
  b12 : E.b1 ≠ E.b2
  bg : B ≤ E.g
  bb1 : B ≤ E.b1
  bb2 : B ≤ E.b2
  l1 : E.nb.length = data
  l2 : E.ob.length = data
  i1 : ∀ i, E.nt.has i = true → i < data
  i2 : ∀ i, E.ot.has i = true → i < data
/-- Where a cache lies: its block, its map's, its turn. -/
structure CM where
  g : Nat
  m : Nat
  M : TM
def CM.foot (C : CM) (f : Int → Option Ent) (k : Nat) : Prop := k = C.g ∨ k = C.m ∨ C.M.foot k ∨ ∃ i E, f i = some E ∧ E.foot k
abbrev CM.cells (C : CM) (data : Nat) : List Value := [.pointer (some ⟨C.M.g, 0, none⟩), .int .i64 (data : Int), .map (some C.m)]
structure CacheAt (B n data : Nat) (w : World) (C : CM) (T : TS) (L : List Int) (f : Int → Option Ent) : Prop where
  row : w.row C.g (C.cells data) tC
  turn : TurnAt B n w C.M T
  good : Good T
  map : w.pmap Tryd.prog tI C.m n L (fun k => (f k).map Ent.g)
  ent : ∀ k E, f k = some E → EntAt B data w E
  apart : ∀ k E k' E', f k = some E → f k' = some E' → k ≠ k' → ∀ x, E.foot x → ¬ E'.foot x
  off : ∀ k E, f k = some E → ∀ x, E.foot x → x ≠ C.g ∧ x ≠ C.m ∧ ¬ C.M.foot x
  gm : C.g ≠ C.m
  gM : ¬ C.M.foot C.g
  mM : ¬ C.M.foot C.m
  bg : B ≤ C.g
  bm : B ≤ C.m
  keys : ∀ k, T.has k = L.contains k
  d2 : 2 ≤ data
  d30 : data ≤ 30
/-- What a call on it leaves. -/
structure CStep (C : CM) (f : Int → Option Ent) (C' : CM) (f' : Int → Option Ent) (w w' : World) : Prop where
  g : C'.g = C.g
  os : w'.os = w.os
  tape : w'.tape = w.tape
  output : w'.output = w.output
  size : w.heap.size ≤ w'.heap.size
  foot : ∀ k, C'.foot f' k → C.foot f k ∨ w.heap.size ≤ k
  block : ∀ k, k < w.heap.size → ¬ C.foot f k → w'.heap[k]? = w.heap[k]?
variable {B n data : Nat} {w w' w'' : World} {C C' C'' : CM} {T T' : TS} {L L' : List Int} {f f' f'' : Int → Option Ent} {E E' : Ent} {k : Int}
theorem CStep.refl (C : CM) (f : Int → Option Ent) (w : World) : CStep C f C f w w := ⟨rfl, rfl, rfl, rfl, Nat.le_refl _, fun _ h => .inl h, fun _ _ _ => rfl⟩
theorem CStep.trans (h : CStep C f C' f' w w') (h2 : CStep C' f' C'' f'' w' w'') : CStep C f C'' f'' w w'' :=
  ⟨h2.g.trans h.g, h2.os.trans h.os, h2.tape.trans h.tape, h2.output.trans h.output, Nat.le_trans h.size h2.size,
    fun k hk => (h2.foot k hk).elim (h.foot k) fun h3 => .inr (Nat.le_trans h.size h3),
    fun k hk hn => (h2.block k (Nat.lt_of_lt_of_le hk h.size) fun h3 => (h.foot k h3).elim hn (fun h4 => by omega)).trans (h.block k hk hn)⟩
theorem CStep.of_below (C : CM) (f : Int → Option Ent) (h : Below w.heap.size w w') : CStep C f C f w w' := ⟨rfl, h.os, h.tape, h.output, h.size, fun _ h => .inl h, fun k hk _ => h.block k hk⟩
theorem EntAt.lts (h : EntAt B data w E) (k : Nat) (hk : E.foot k) : B ≤ k ∧ k < w.heap.size := by
  rcases hk with rfl | rfl | rfl
  · exact ⟨h.bg, h.row.lt⟩
  · exact ⟨h.bb1, h.r1.lt⟩
  · exact ⟨h.bb2, h.r2.lt⟩
theorem rowSame {b : Nat} {cs : List Value} {t : TypeId} (h : w.row b cs t) (e : w'.heap[b]? = w.heap[b]?) : w'.row b cs t := by unfold World.row at *; rw [e]; exact h
theorem EntAt.same (h : EntAt B data w E) (hb : ∀ k, E.foot k → w'.heap[k]? = w.heap[k]?) : EntAt B data w' E :=
  ⟨rowSame h.row (hb _ (.inl rfl)), rowSame h.r1 (hb _ (.inr (.inl rfl))), rowSame h.r2 (hb _ (.inr (.inr rfl))), h.g1, h.g2, h.b12, h.bg, h.bb1, h.bb2, h.l1, h.l2, h.i1, h.i2⟩
theorem EntAt.below (h : EntAt B data w E) (hb : Below w.heap.size w w') : EntAt B data w' E := h.same fun k hk => hb.block k (h.lts k hk).2
theorem CacheAt.lts (h : CacheAt B n data w C T L f) (k : Nat) (hk : C.foot f k) : B ≤ k ∧ k < w.heap.size := by
  rcases hk with rfl | rfl | hk | ⟨i, E, hE, hk⟩
  · exact ⟨h.bg, h.row.lt⟩
  · exact ⟨h.bm, h.map.lt⟩
  · exact h.turn.lts k hk
  · exact (h.ent i E hE).lts k hk
theorem CacheAt.below (h : CacheAt B n data w C T L f) (hb : Below w.heap.size w w') : CacheAt B n data w' C T L f :=
  ⟨h.row.below hb h.row.lt, h.turn.below' hb, h.good, h.map.same (hb.block _ h.map.lt), fun k E hE => (h.ent k E hE).below hb, h.apart, h.off, h.gm, h.gM, h.mM, h.bg, h.bm, h.keys, h.d2, h.d30⟩
theorem CacheAt.mono {m : Nat} (h : CacheAt B n data w C T L f) (hm : n ≤ m) : CacheAt B m data w C T L f :=
  ⟨h.row, h.turn.mono hm, h.good, h.map.mono hm, h.ent, h.apart, h.off, h.gm, h.gM, h.mM, h.bg, h.bm, h.keys, h.d2, h.d30⟩
/-- All below the cache is as it was. -/
theorem CStep.under (h : CStep C f C' f' w w') (hT : CacheAt B n data w C T L f) {u : World} (hu : Below B u w) : Below B u w' :=
  hu.trans ⟨h.os, h.tape, h.output, h.size, fun k hk => h.block k (Nat.lt_of_lt_of_le hk (Nat.le_trans hT.bg (Nat.le_of_lt hT.row.lt))) fun hf => by have := (hT.lts k hf).1; omega⟩
/-- Its turn was turned. -/
theorem CacheAt.turned {M' : TM} {m : Nat} (h : CacheAt B n data w C T L f) (hs : Step C.M M' w w') (ht : TurnAt B m w' M' T') (hn : n ≤ m) (hg : Good T') (hk : ∀ k, T'.has k = T.has k) :
    CacheAt B m data w' { C with M := M' } T' L f ∧ CStep C f { C with M := M' } f w w' := by
  have hoff : ∀ x, x < w.heap.size → ¬ C.M.foot x → ¬ M'.foot x := fun x hx hn => Step.out hs hx hn
  refine ⟨⟨?_, ht, hg, (h.map.same (hs.block _ h.map.lt h.mM)).mono hn, fun k E hE => (h.ent k E hE).same fun x hx => hs.block x ((h.ent k E hE).lts x hx).2 (h.off k E hE x hx).2.2, h.apart, fun k E hE x hx => ?_, h.gm, hoff _ h.row.lt h.gM, hoff _ h.map.lt h.mM, h.bg, h.bm, fun k => (hk k).trans (h.keys k), h.d2, h.d30⟩, ?_⟩
  · have := hs.row h.row h.gM
    show w'.row C.g [.pointer (some ⟨M'.g, 0, none⟩), _, _] tC
    rw [hs.g]; exact this
  · exact ⟨(h.off k E hE x hx).1, (h.off k E hE x hx).2.1, hoff x ((h.ent k E hE).lts x hx).2 (h.off k E hE x hx).2.2⟩
  · refine ⟨rfl, hs.os, hs.tape, hs.output, hs.size, fun x hx => ?_, fun x hx hn => hs.block x hx fun hf => hn (.inr (.inr (.inl hf)))⟩
    rcases hx with hx | hx | hx | hx
    · exact .inl (.inl hx)
    · exact .inl (.inr (.inl hx))
    · rcases hs.foot x hx with h1 | h1
      · exact .inl (.inr (.inr (.inl h1)))
      · exact .inr h1
    · exact .inl (.inr (.inr (.inr hx)))
def upd (f : Int → Option Ent) (k : Int) (E : Option Ent) (j : Int) : Option Ent := if j = k then E else f j
theorem upd_same (f : Int → Option Ent) (k : Int) (E : Option Ent) : upd f k E k = E := by unfold upd; rw [if_pos rfl]
theorem upd_other (f : Int → Option Ent) {k j : Int} (E : Option Ent) (h : j ≠ k) : upd f k E j = f j := by unfold upd; rw [if_neg h]
/-- One stripe was turned in its blocks. -/
theorem CacheAt.entPut (h : CacheAt B n data w C T L f) (hf : f k = some E) (hg : E'.g = E.g) (h1 : E'.b1 = E.b1) (h2 : E'.b2 = E.b2) (hE : EntAt B data w' E') (hos : w'.os = w.os) (htape : w'.tape = w.tape) (hout : w'.output = w.output)
    (hsz : w.heap.size ≤ w'.heap.size) (hb : ∀ x, x < w.heap.size → ¬ E.foot x → w'.heap[x]? = w.heap[x]?) : CacheAt B n data w' C T L (upd f k (some E')) ∧ CStep C f C (upd f k (some E')) w w' := by
  have hfoot : ∀ x, E'.foot x ↔ E.foot x := fun x => by unfold Ent.foot; rw [hg, h1, h2]
  have hoff := h.off k E hf
  have hmap : (fun j => (upd f k (some E') j).map Ent.g) = fun j => (f j).map Ent.g := by
    funext j
    by_cases e : j = k
    · subst e; rw [upd_same, hf]; simp [hg]
    · rw [upd_other f _ e]
  have keep : ∀ x, x < w.heap.size → ¬ E.foot x → w'.heap[x]? = w.heap[x]? := hb
  refine ⟨⟨rowSame h.row (keep _ h.row.lt fun hx => (hoff _ hx).1 rfl), ?_, h.good, ?_, fun j F hF => ?_, fun j F j' F' hF hF' hne x hx => ?_, fun j F hF x hx => ?_, h.gm, h.gM, h.mM, h.bg, h.bm, h.keys, h.d2, h.d30⟩, ?_⟩
  · exact ⟨rowSame h.turn.row (keep _ h.turn.row.lt fun hx => (hoff _ hx).2.2 (.inl rfl)), irow_same h.turn.o1 fun x hx => keep x (h.turn.o1.lt x hx).2 fun hx2 => (hoff _ hx2).2.2 (.inr (.inr (.inl hx))), irow_same h.turn.o2 fun x hx => keep x (h.turn.o2.lt x hx).2 fun hx2 => (hoff _ hx2).2.2 (.inr (.inr (.inr hx))), h.turn.pm.same (keep _ h.turn.pm.lt fun hx => (hoff _ hx).2.2 (.inr (.inl rfl))), h.turn.gm, h.turn.g1, h.turn.g2, h.turn.m1, h.turn.m2, h.turn.d12, h.turn.bg, h.turn.bm⟩
  · rw [hmap]
    exact h.map.same (keep _ h.map.lt fun hx => (hoff _ hx).2.1 rfl)
  · by_cases e : j = k
    · subst e
      rw [upd_same] at hF
      cases hF
      exact hE
    · rw [upd_other f _ e] at hF
      exact (h.ent j F hF).same fun x hx => keep x ((h.ent j F hF).lts x hx).2 fun hx2 => h.apart j F k E hF hf e x hx hx2
  · by_cases e : j = k
    · subst e
      rw [upd_same] at hF
      cases hF
      rw [upd_other f _ (Ne.symm hne)] at hF'
      exact h.apart j E j' F' hf hF' hne x ((hfoot x).1 hx)
    · rw [upd_other f _ e] at hF
      by_cases e' : j' = k
      · subst e'
        rw [upd_same] at hF'
        cases hF'
        exact fun hx2 => h.apart j F j' E hF hf hne x hx ((hfoot x).1 hx2)
      · rw [upd_other f _ e'] at hF'
        exact h.apart j F j' F' hF hF' hne x hx
  · by_cases e : j = k
    · subst e
      rw [upd_same] at hF
      cases hF
      exact hoff x ((hfoot x).1 hx)
    · rw [upd_other f _ e] at hF
      exact h.off j F hF x hx
  · refine ⟨rfl, hos, htape, hout, hsz, fun x hx => ?_, fun x hx hn => keep x hx fun hx2 => hn (.inr (.inr (.inr ⟨k, E, hf, hx2⟩)))⟩
    rcases hx with hx | hx | hx | ⟨j, F, hF, hx⟩
    · exact .inl (.inl hx)
    · exact .inl (.inr (.inl hx))
    · exact .inl (.inr (.inr (.inl hx)))
    · by_cases e : j = k
      · subst e
        rw [upd_same] at hF
        cases hF
        exact .inl (.inr (.inr (.inr ⟨j, E, hf, (hfoot x).1 hx⟩)))
      · rw [upd_other f _ e] at hF
        exact .inl (.inr (.inr (.inr ⟨j, F, hF, hx⟩)))
/-- The cells of a cache and of a stripe, for the walk. -/
theorem CacheAt.three (h : CacheAt B n data w C T L f) : w.cell? ⟨C.g, 0, none⟩ = some (.pointer (some ⟨C.M.g, 0, none⟩)) ∧ w.cell? ⟨C.g, 1, none⟩ = some (.int .i64 (data : Int)) ∧ w.cell? ⟨C.g, 2, none⟩ = some (.map (some C.m)) :=
  ⟨h.row.cell 0 rfl, h.row.cell 1 rfl, h.row.cell 2 rfl⟩
end Go.Proofs.YtijagdpkclghnaaDoor
/- New, row of a cache; get, put of a shelf: contracts. -/
namespace Go.Proofs.YtijagdpkclghnaaDoor
open Go Go.RowKit
set_option maxRecDepth 100000
variable {B n data : Nat} {w w' : World} {C : CM} {T : TS} {L : List Int} {f : Int → Option Ent} {E : Ent}
theorem CNew_ok (most limit data : Nat) (w : World) (hB : B ≤ w.heap.size) (h1 : 1 ≤ most) (h2 : most ≤ 64) (h3 : limit < most) (h4 : 2 ≤ data) (h5 : data ≤ 30) :
    Calls Tryd.prog 7 #[.int .i64 (most : Int), .int .i64 (limit : Int), .int .i64 (data : Int)] w fun e w' => ∃ C : CM, e = .returned (.tuple #[pt C.g, .int .i64 0]) ∧ CacheAt B 0 data w' C ⟨most, limit, [], [], []⟩ [] (fun _ => none) ∧ Below w.heap.size w w' ∧ ∀ k, C.foot (fun _ => none) k → w.heap.size ≤ k := by
  have hmm := @run_makeMap Tryd.prog
  have h4I : ¬ ((data : Int) < 2) := by omega
  have h5I : ¬ (30 < (data : Int)) := by omega
  have HH := Lib.hid (And.intro h1 (And.intro h2 (And.intro h3 (And.intro h4 h5))))
  clear h1 h2 h3 h4 h5
  go_enter Tryd.func7, Tryd.ntmps7
  go_wp2_with fail
  refine (New_ok most limit w hB HH.out.1 HH.out.2.1 HH.out.2.2.1).mono ?_
  rintro e w1 ⟨M, rfl, hT, hb, hf⟩
  have HT := Lib.hid (And.intro hT (And.intro hb hf))
  clear hT hb hf
  go_wp2_with fail
  go_ret2
  obtain ⟨hT, hb, hf⟩ := HT.out
  have hs := hb.size
  have hr := World.row.new (w1.alloc (.map #[] 0)) [.pointer (some ⟨M.g, 0, none⟩), .int .i64 (data : Int), .map (some w1.heap.size)] tC
  have hb2 : Below w1.heap.size w1 ((w1.alloc (.map #[] 0)).alloc (.cells [Value.pointer (some ⟨M.g, 0, none⟩), .int .i64 (data : Int), .map (some w1.heap.size)].toArray tC)) := ((Below.refl _ _).alloc (Nat.le_refl _) _).alloc (by simp) _
  refine ⟨⟨(w1.alloc (.map #[] 0)).heap.size, w1.heap.size, M⟩, by simp, ⟨hr, hT.below' hb2, ⟨HH.out.1, HH.out.2.1, HH.out.2.2.1, by simp, by simp, by simp, by simp⟩, (World.pmap_made w1 Tryd.prog tI).alloc _, (fun _ _ h => by cases h), (fun _ _ _ _ h => by cases h), (fun _ _ h => by cases h), by simp, fun h => by have := (hT.lts _ h).2; simp at this; omega, fun h => by have := (hT.lts _ h).2; simp at this, by simp; omega, by simp; omega, fun _ => rfl, HH.out.2.2.2.1, HH.out.2.2.2.2⟩, hb.trans (hb2.mono hs), ?_⟩
  intro k hk
  rcases hk with hk | hk | hk | ⟨_, _, h, _⟩
  · simp at hk; omega
  · simp at hk; omega
  · exact hf k hk
  · cases h
theorem row_any (i : Int) (w : World) (h : CacheAt B n data w C T L f) (hi : In64 i) :
    Calls Tryd.prog 31 #[pt C.g, .int .i64 i] w fun e w' => e = .returned (ptrV ((f i).map Ent.g)) ∧ w = w' := by
  have hz : Hid (∀ w, (zeroValue 58).run Tryd.prog w = .ok (.pointer none) w) := Lib.hid fun w => by kernel_rfl
  obtain ⟨c0, c1, c2⟩ := h.three
  have HI := Lib.hid hi
  have HC := Lib.hid h.map
  clear hi
  go_enter Tryd.func31, Tryd.ntmps31
  go_wp2_with (at_lookup; refine wpList_lookup_pm rfl _ _ 54 rfl Tryd.underlying3 Tryd.underlying54 hz.out rfl HC.out i rfl HI.out _ rfl ?_)
  go_returns
  exact ⟨rfl, rfl⟩
end Go.Proofs.YtijagdpkclghnaaDoor
/- get, put of a shelf: contracts. -/
namespace Go.Proofs.YtijagdpkclghnaaDoor
open Go Go.RowKit
set_option maxRecDepth 100000
variable {B n data : Nat} {w w' : World} {C : CM} {T : TS} {L : List Int} {f : Int → Option Ent} {E : Ent}
abbrev noB : ByteArray := { data := #[] }
/-- What a call on a stripe leaves. -/
structure EStep (E : Ent) (w w' : World) : Prop where
  os : w'.os = w.os
  tape : w'.tape = w.tape
  output : w'.output = w.output
  size : w.heap.size ≤ w'.heap.size
  block : ∀ k, k < w.heap.size → ¬ E.foot k → w'.heap[k]? = w.heap[k]?
theorem EStep.of_below {w w' : World} (E : Ent) (h : Below w.heap.size w w') : EStep E w w' := ⟨h.os, h.tape, h.output, h.size, fun k hk _ => h.block k hk⟩
theorem EStep.trans {w w' w'' : World} (h : EStep E w w') (h2 : EStep E w' w'') : EStep E w w'' :=
  ⟨h2.os.trans h.os, h2.tape.trans h.tape, h2.output.trans h.output, Nat.le_trans h.size h2.size, fun k hk hn => (h2.block k (Nat.lt_of_lt_of_le hk h.size) hn).trans (h.block k hk hn)⟩
theorem EStep.setCell {w w' : World} (h : EStep E w w') (a : Addr) (v : Value) (ha : E.foot a.block) : EStep E w (w'.setCell a v) :=
  ⟨h.os, h.tape, h.output, by simpa using h.size, fun k hk hn => by
    have hne : a.block ≠ k := fun e => hn (e ▸ ha)
    have : (w'.setCell a v).heap[k]? = w'.heap[k]? := by simp [World.setCell, Array.getElem?_modify, hne]
    rw [this]; exact h.block k hk hn⟩
theorem Set4.with_has (s : Set4) (i j : Nat) : (s.with' i).has j = true → j = i ∨ s.has j = true := by
  unfold Set4.with'
  rw [Set4.has_of]
  simp
def atB (l : List ByteArray) (c : Nat) : ByteArray := l.getD c noB
theorem atB_get {l : List ByteArray} {c : Nat} (h : c < l.length) : l[c]? = some (atB l c) := by unfold atB; simp [List.getD, h]
theorem get_now (c : Nat) (w : World) (h : EntAt B data w E) (hc : c < data) (hd : data ≤ 30) :
    Calls Tryd.prog 33 #[.pointer (some ⟨E.g, 0, none⟩), .int .i64 (c : Int)] w fun e w' => e = .returned (.tuple #[.string (if E.nt.has c = true then atB E.nb c else noB), .bool (E.nt.has c)]) ∧ Below w.heap.size w w' := by
  have k0 := h.row.cell 0 rfl
  have k1 := h.row.cell 1 rfl
  have k2 := h.row.cell 2 rfl
  have k3 := h.row.cell 3 rfl
  have hH := Lib.hid (Has_yes E.nt c w (by omega))
  have HC := Lib.hid h
  cases e : E.nt.has c
  · rw [e] at hH
    simp only [Bool.false_eq_true, if_false]
    go_enter Tryd.func33, Tryd.ntmps33
    go_wp2_with fail
    refine Calls.pure_to hH.out ?_
    intro w1 b1
    clear k0 k1 k2 k3
    go_wp2_with fail
    go_ret2
    exact ⟨rfl, b1⟩
  · rw [e] at hH
    simp only [if_true]
    go_enter Tryd.func33, Tryd.ntmps33
    go_wp2_with fail
    refine Calls.pure_to hH.out ?_
    intro w1 b1
    clear k0 k1 k2 k3
    have h1 := HC.out.below b1
    have k4 := h1.row.cell 4 rfl
    have k5 := h1.r1.cell c (v := .string (atB E.nb c)) (by rw [List.getElem?_map, atB_get (by rw [h1.l1]; exact hc)]; rfl)
    have hcI : (c : Int) < (data : Int) := by omega
    have HS := Lib.hid b1
    clear b1 h1
    go_wp2_with fail
    go_ret2
    exact ⟨rfl, HS.out⟩
theorem put_now (c : Nat) (s : ByteArray) (w : World) (h : EntAt B data w E) (hc : c < data) (hd : data ≤ 30) :
    Calls Tryd.prog 27 #[.pointer (some ⟨E.g, 0, none⟩), .int .i64 (c : Int), .string s] w fun e w' => e = .returned (.tuple #[]) ∧ EntAt B data w' { E with nt := E.nt.with' c, nb := E.nb.set c s } ∧ EStep E w w' := by
  have k0 := h.row.cell 0 rfl
  have k1 := h.row.cell 1 rfl
  have k2 := h.row.cell 2 rfl
  have k3 := h.row.cell 3 rfl
  have hH := Lib.hid (With_yes E.nt c w (by omega))
  have HC := Lib.hid h
  go_enter Tryd.func27, Tryd.ntmps27
  go_wp2_with fail
  refine Calls.pure_to hH.out ?_
  intro w1 b1
  clear k0 k1 k2 k3
  have h1 := HC.out.below b1
  have k0 := h1.row.cell 0 rfl
  have k1 := h1.row.cell 1 rfl
  have k2 := h1.row.cell 2 rfl
  have k3 := h1.row.cell 3 rfl
  have k4 := h1.row.cell 4 rfl
  have k5 := h1.r1.cell c (v := .string (atB E.nb c)) (by rw [List.getElem?_map, atB_get (by rw [h1.l1]; exact hc)]; rfl)
  have z0 := h1.row.free
  have z1 := h1.r1.free
  have hcI : (c : Int) < (data : Int) := by omega
  have hne := h1.g1
  have HS := Lib.hid (And.intro b1 h1)
  clear b1 h1
  go_wp2_with fail
  go_returns
  obtain ⟨b1, h1⟩ := HS.out
  have hs := b1.size
  refine ⟨rfl, ⟨?_, ?_, ?_, h1.g1, h1.g2, h1.b12, h1.bg, h1.bb1, h1.bb2, (List.length_set).trans h1.l1, h1.l2, fun i hi => (Set4.with_has _ _ _ hi).elim (fun e => e ▸ hc) (h1.i1 i), h1.i2⟩, ?_⟩
  · exact (((((h1.row.set 0 _).set 1 _).set 2 _).set 3 _).other _ _ (Ne.symm hne))
  · have := ((((h1.r1.other ⟨E.g, 0, none⟩ (.int .u64 ((E.nt.with' c).a : Int)) h1.g1).other ⟨E.g, 1, none⟩ (.int .u64 ((E.nt.with' c).b : Int)) h1.g1).other ⟨E.g, 2, none⟩ (.int .u64 ((E.nt.with' c).c : Int)) h1.g1).other ⟨E.g, 3, none⟩ (.int .u64 ((E.nt.with' c).d : Int)) h1.g1).set c (.string s)
    rw [List.map_set]
    exact this
  · exact (((((h1.r2.other _ _ h1.g2).other _ _ h1.g2).other _ _ h1.g2).other _ _ h1.g2).other _ _ h1.b12)
  · exact (((((EStep.of_below E b1).setCell _ _ (.inl rfl)).setCell _ _ (.inl rfl)).setCell _ _ (.inl rfl)).setCell _ _ (.inl rfl)).setCell _ _ (.inr (.inl rfl))
theorem get_old (c : Nat) (w : World) (h : EntAt B data w E) (hc : c < data) (hd : data ≤ 30) :
    Calls Tryd.prog 33 #[.pointer (some ⟨E.g, 5, none⟩), .int .i64 (c : Int)] w fun e w' => e = .returned (.tuple #[.string (if E.ot.has c = true then atB E.ob c else noB), .bool (E.ot.has c)]) ∧ Below w.heap.size w w' := by
  have k0 := h.row.cell 5 rfl
  have k1 := h.row.cell 6 rfl
  have k2 := h.row.cell 7 rfl
  have k3 := h.row.cell 8 rfl
  have hH := Lib.hid (Has_yes E.ot c w (by omega))
  have HC := Lib.hid h
  cases e : E.ot.has c
  · rw [e] at hH
    simp only [Bool.false_eq_true, if_false]
    go_enter Tryd.func33, Tryd.ntmps33
    go_wp2_with fail
    refine Calls.pure_to hH.out ?_
    intro w1 b1
    clear k0 k1 k2 k3
    go_wp2_with fail
    go_ret2
    exact ⟨rfl, b1⟩
  · rw [e] at hH
    simp only [if_true]
    go_enter Tryd.func33, Tryd.ntmps33
    go_wp2_with fail
    refine Calls.pure_to hH.out ?_
    intro w1 b1
    clear k0 k1 k2 k3
    have h1 := HC.out.below b1
    have k4 := h1.row.cell 9 rfl
    have k5 := h1.r2.cell c (v := .string (atB E.ob c)) (by rw [List.getElem?_map, atB_get (by rw [h1.l2]; exact hc)]; rfl)
    have hcI : (c : Int) < (data : Int) := by omega
    have HS := Lib.hid b1
    clear b1 h1
    go_wp2_with fail
    go_ret2
    exact ⟨rfl, HS.out⟩
theorem put_old (c : Nat) (s : ByteArray) (w : World) (h : EntAt B data w E) (hc : c < data) (hd : data ≤ 30) :
    Calls Tryd.prog 27 #[.pointer (some ⟨E.g, 5, none⟩), .int .i64 (c : Int), .string s] w fun e w' => e = .returned (.tuple #[]) ∧ EntAt B data w' { E with ot := E.ot.with' c, ob := E.ob.set c s } ∧ EStep E w w' := by
  have k0 := h.row.cell 5 rfl
  have k1 := h.row.cell 6 rfl
  have k2 := h.row.cell 7 rfl
  have k3 := h.row.cell 8 rfl
  have hH := Lib.hid (With_yes E.ot c w (by omega))
  have HC := Lib.hid h
  go_enter Tryd.func27, Tryd.ntmps27
  go_wp2_with fail
  refine Calls.pure_to hH.out ?_
  intro w1 b1
  clear k0 k1 k2 k3
  have h1 := HC.out.below b1
  have k0 := h1.row.cell 5 rfl
  have k1 := h1.row.cell 6 rfl
  have k2 := h1.row.cell 7 rfl
  have k3 := h1.row.cell 8 rfl
  have k4 := h1.row.cell 9 rfl
  have k5 := h1.r2.cell c (v := .string (atB E.ob c)) (by rw [List.getElem?_map, atB_get (by rw [h1.l2]; exact hc)]; rfl)
  have z0 := h1.row.free
  have z1 := h1.r2.free
  have hcI : (c : Int) < (data : Int) := by omega
  have hne := h1.g2
  have HS := Lib.hid (And.intro b1 h1)
  clear b1 h1
  go_wp2_with fail
  go_returns
  obtain ⟨b1, h1⟩ := HS.out
  have hs := b1.size
  refine ⟨rfl, ⟨?_, ?_, ?_, h1.g1, h1.g2, h1.b12, h1.bg, h1.bb1, h1.bb2, h1.l1, (List.length_set).trans h1.l2, h1.i1, fun i hi => (Set4.with_has _ _ _ hi).elim (fun e => e ▸ hc) (h1.i2 i)⟩, ?_⟩
  · exact (((((h1.row.set 5 _).set 6 _).set 7 _).set 8 _).other _ _ (Ne.symm hne))
  · exact (((((h1.r1.other _ _ h1.g1).other _ _ h1.g1).other _ _ h1.g1).other _ _ h1.g1).other _ _ (Ne.symm h1.b12))
  · have := ((((h1.r2.other ⟨E.g, 5, none⟩ (.int .u64 ((E.ot.with' c).a : Int)) h1.g2).other ⟨E.g, 6, none⟩ (.int .u64 ((E.ot.with' c).b : Int)) h1.g2).other ⟨E.g, 7, none⟩ (.int .u64 ((E.ot.with' c).c : Int)) h1.g2).other ⟨E.g, 8, none⟩ (.int .u64 ((E.ot.with' c).d : Int)) h1.g2).set c (.string s)
    rw [List.map_set]
    exact this
  · exact (((((EStep.of_below E b1).setCell _ _ (.inl rfl)).setCell _ _ (.inl rfl)).setCell _ _ (.inl rfl)).setCell _ _ (.inl rfl)).setCell _ _ (.inr (.inr rfl))
end Go.Proofs.YtijagdpkclghnaaDoor
/- A cache's steps: a stripe is new; a turn touched, pinned: plain laws. -/
namespace Go.Proofs.YtijagdpkclghnaaDoor
open Go Go.RowKit
set_option maxRecDepth 100000
variable {B n data : Nat} {w w' w1 w2 w3 w4 : World} {C : CM} {T T' : TS} {M' : TM} {L : List Int} {f : Int → Option Ent} {E E' : Ent} {i : Int}
theorem turnKeep (h : TurnAt B n w M' T) (hs : ∀ k, M'.foot k → w'.heap[k]? = w.heap[k]?) : TurnAt B n w' M' T :=
  ⟨rowSame h.row (hs _ (.inl rfl)), irow_same h.o1 fun x hx => hs x (.inr (.inr (.inl hx))), irow_same h.o2 fun x hx => hs x (.inr (.inr (.inr hx))), h.pm.same (hs _ (.inr (.inl rfl))), h.gm, h.g1, h.g2, h.m1, h.m2, h.d12, h.bg, h.bm⟩
/-- A stripe is there from now on. -/
theorem CacheAt.added (h : CacheAt B n data w1 C T L f) (hS : Step C.M M' w1 w2) (hT : TurnAt B n w2 M' T') (hG : Good T') (hk : ∀ k, T'.has k = (addTo L i).contains k) (hb : Below w2.heap.size w2 w3) (hE : EntAt B data w3 E') (hnew : ∀ x, E'.foot x → w2.heap.size ≤ x)
    (hm : w4.pmap Tryd.prog tI C.m (n + 1) (addTo L i) (fun y => if y = i then some E'.g else (f y).map Ent.g)) (hg : w3.grownBy w4 (some C.m)) (hf : f i = none) :
    CacheAt B (n + 1) data w4 { C with M := M' } T' (addTo L i) (upd f i (some E')) ∧ CStep C f { C with M := M' } (upd f i (some E')) w1 w4 := by
  have s12 := hS.size
  have s23 := hb.size
  have s34 := hg.size
  have hout : ∀ x, x < w1.heap.size → ¬ C.M.foot x → ¬ M'.foot x := fun x hx hn => Step.out hS hx hn
  -- a block of before stays, if it is neither the map's nor the turn's
  have k14 : ∀ x, x < w1.heap.size → ¬ C.M.foot x → x ≠ C.m → w4.heap[x]? = w1.heap[x]? := fun x hx hn hne =>
    ((hg.block x (by omega) (fun e => hne (Option.some.inj e))).trans (hb.block x (by omega))).trans (hS.block x hx hn)
  have k24 : ∀ x, x < w2.heap.size → x ≠ C.m → w4.heap[x]? = w2.heap[x]? := fun x hx hne => (hg.block x (by omega) (fun e => hne (Option.some.inj e))).trans (hb.block x hx)
  have hmM : ¬ M'.foot C.m := hout _ h.map.lt h.mM
  have hmap : (fun j => (upd f i (some E') j).map Ent.g) = fun y => if y = i then some E'.g else (f y).map Ent.g := by
    funext j
    by_cases e : j = i
    · subst e; rw [upd_same, if_pos rfl]; rfl
    · rw [upd_other f _ e, if_neg e]
  have old : ∀ j F, f j = some F → ∀ x, F.foot x → x < w1.heap.size := fun j F hF x hx => ((h.ent j F hF).lts x hx).2
  refine ⟨⟨?_, ?_, hG, by rw [hmap]; exact hm, fun j F hF => ?_, fun j F j' F' hF hF' hne x hx => ?_, fun j F hF x hx => ?_, h.gm, hout _ h.row.lt h.gM, hmM, h.bg, h.bm, hk, h.d2, h.d30⟩, ?_⟩
  · have := rowSame h.row (k14 _ h.row.lt h.gM h.gm)
    show w4.row C.g [.pointer (some ⟨M'.g, 0, none⟩), _, _] tC
    rw [hS.g]; exact this
  · exact (turnKeep hT fun x hx => k24 x (hT.lts x hx).2 fun e => hmM (e ▸ hx)).mono (by omega)
  · by_cases e : j = i
    · subst e
      rw [upd_same] at hF
      cases hF
      exact hE.same fun x hx => hg.block x ((hE.lts x hx).2) fun e => by have := Option.some.inj e; have h1 := hnew x hx; have := h.map.lt; omega
    · rw [upd_other f _ e] at hF
      exact (h.ent j F hF).same fun x hx => k14 x (old j F hF x hx) (h.off j F hF x hx).2.2 (h.off j F hF x hx).2.1
  · by_cases e : j = i
    · subst e
      rw [upd_same] at hF
      cases hF
      rw [upd_other f _ (Ne.symm hne)] at hF'
      exact fun hx2 => by have h1 := hnew x hx; have := old j' F' hF' x hx2; omega
    · rw [upd_other f _ e] at hF
      by_cases e' : j' = i
      · subst e'
        rw [upd_same] at hF'
        cases hF'
        exact fun hx2 => by have h1 := hnew x hx2; have := old j F hF x hx; omega
      · rw [upd_other f _ e'] at hF'
        exact h.apart j F j' F' hF hF' hne x hx
  · by_cases e : j = i
    · subst e
      rw [upd_same] at hF
      cases hF
      have h1 := hnew x hx
      have h2 := h.row.lt
      have h3 := h.map.lt
      refine ⟨fun e => (by have e : x = C.g := e; omega), fun e => (by have e : x = C.m := e; omega), fun hx2 => ?_⟩
      have := (hT.lts x hx2).2
      omega
    · rw [upd_other f _ e] at hF
      have ho := h.off j F hF x hx
      exact ⟨ho.1, ho.2.1, hout x (old j F hF x hx) ho.2.2⟩
  · refine ⟨rfl, hg.os.trans (hb.os.trans hS.os), hg.tape.trans (hb.tape.trans hS.tape), hg.output.trans (hb.output.trans hS.output), by omega, fun x hx => ?_, fun x hx hn => k14 x hx (fun hf2 => hn (.inr (.inr (.inl hf2)))) fun e => hn (.inr (.inl e))⟩
    rcases hx with hx | hx | hx | ⟨j, F, hF, hx⟩
    · exact .inl (.inl hx)
    · exact .inl (.inr (.inl hx))
    · rcases hS.foot x hx with h1 | h1
      · exact .inl (.inr (.inr (.inl h1)))
      · exact .inr h1
    · by_cases e : j = i
      · subst e
        rw [upd_same] at hF
        cases hF
        exact .inr (by have := hnew x hx; omega)
      · rw [upd_other f _ e] at hF
        exact .inl (.inr (.inr (.inr ⟨j, F, hF, hx⟩)))
theorem touch_perm (h : Good T) (k : Int) : ((T.touchT k).plain ++ (T.touchT k).dear).Perm (T.plain ++ T.dear) := by
  unfold TS.touchT
  by_cases hk : T.has k = true
  · rw [if_pos hk]
    have hp := moved_perm h k hk
    unfold TS.fallT
    cases hc : (T.moved k).dear with
    | nil => exact absurd hc (by simp [TS.moved])
    | cons d ds =>
      rw [hc] at hp
      simp only [List.length_cons]
      by_cases hlim : (T.moved k).limit < ds.length + 1
      · rw [if_pos hlim]
        show (((T.moved k).plain ++ [d]) ++ ds).Perm (T.plain ++ T.dear)
        rw [List.append_assoc]; exact hp
      · rw [if_neg hlim]
        show ((T.moved k).plain ++ (T.moved k).dear).Perm (T.plain ++ T.dear)
        rw [hc]; exact hp
  · rw [if_neg hk]
theorem touch_has (h : Good T) (k j : Int) : (T.touchT k).has j = T.has j := by
  rw [Bool.eq_iff_iff, has_iff, has_iff]
  exact (touch_perm h k).mem_iff
theorem pin_has (T : TS) (k : Int) (on : Bool) (j : Int) : (T.pinT k on).has j = T.has j := by
  unfold TS.pinT
  split <;> rfl
theorem add_yes (hn : T.full = false) (hh : T.has i = false) : T.addE i = 0 ∧ T.addT i = { T with plain := T.plain ++ [i] } := by
  unfold TS.addE TS.addT
  simp [hn, hh]
theorem add_has (hn : T.full = false) (hh : T.has i = false) (k : Int) : (T.addT i).has k = (T.has k || i == k) := by
  rw [(add_yes hn hh).2]
  unfold TS.has
  show (T.dear.contains k || (T.plain ++ [i]).contains k) = _
  rw [List.contains_eq_mem, List.contains_eq_mem, List.contains_eq_mem]
  by_cases e : i = k
  · subst e; simp
  · rw [show (i == k) = false from beq_eq_false_iff_ne.2 e]
    simp [Ne.symm e]
end Go.Proofs.YtijagdpkclghnaaDoor
/- The law's sector: contract. -/
namespace Go.Proofs.YtijagdpkclghnaaDoor
open Go Go.RowKit
set_option maxRecDepth 100000
abbrev tU8 : TypeId := 5
theorem infoU8 : (Tryd.prog.info? tU8).map (fun i => (i.zero, i.size, i.bytes)) = some (some (.int .u8 0), 1, 1) := by kernel_rfl
def zs63 : Array Value := madeCells #[.int .u8 0] 63
def Z63 (w : World) (g : Nat) : Prop := w.heap[g]? = some (.cells zs63 tU8 (0, 0))
@[go_sem] theorem Z63.alloc (w : World) (n : Nat) (o : Obj) : Z63 (w.alloc o) n = (if n = w.heap.size then o = .cells zs63 tU8 else Z63 w n) := by
  unfold Z63 World.alloc
  by_cases e : n = w.heap.size
  · simp [e]
  · simp [e, Array.getElem?_push]
@[go_sem] theorem Z63.drew (w : World) (n : Nat) : Z63 w.drew n = Z63 w n := propext Iff.rfl
/-- The bytes of a sector. -/
def zer63 : ByteArray := strOfNums (List.replicate 63 0)
def one8 (b : Int) : ByteArray := strOfNums [b]
def secB (b : Int) : ByteArray := one8 b ++ zer63
@[go_sem] theorem conv_1 (w : World) (g : Nat) (b : Int) (h : w.cell? ⟨g, 0, none⟩ = some (.int .u8 b)) : (convert 57 9 (.slice (some ⟨g, 0, none⟩) 1 1)).run Tryd.prog w = .ok (.string (one8 b)) w :=
  run_convert_bytes_arg w 57 tU8 Tryd.underlying57 Tryd.underlying5 g 0 1 1 [b] rfl (fun i hi => (by
    have e : i = 0 := by omega
    subst e
    exact h)) 9 Tryd.underlying9
theorem zs63_at : ∀ i, i < 63 → zs63[i]? = some (.int .u8 ((List.replicate 63 (0 : Int)).getD i 0)) := fun i hi => by
  have h1 : ∀ n : Nat, i < n → (List.replicate n (0 : Int)).getD i 0 = 0 := fun n hn => by simp [List.getD, hn]
  have h2 : ∀ n : Nat, i < n → (madeCells #[Value.int .u8 0] n)[i]? = some (.int .u8 0) := fun n hn => by
    unfold madeCells
    simp [hn, Nat.mod_one]
  rw [h1 63 hi]
  exact h2 63 hi
@[go_sem] theorem conv_z (w : World) (g : Nat) (h : Z63 w g) : (convert 57 9 (.slice (some ⟨g, 0, none⟩) 63 63)).run Tryd.prog w = .ok (.string zer63) w :=
  run_convert_bytes_arg w 57 tU8 Tryd.underlying57 Tryd.underlying5 g 0 63 63 (List.replicate 63 0) (by simp) (fun i hi => by
    unfold Z63 at h
    rw [Nat.zero_add]
    simp only [World.cell?, h]
    exact zs63_at i hi) 9 Tryd.underlying9
theorem sec_any (b : Int) (w : World) : Calls Tryd.prog 9 #[.int .u8 b, .bool false] w fun e w' => e = .returned (.string (secB b)) ∧ Below w.heap.size w w' := by
  have hmk : ∀ w, (Instr.makeSlice 57 (.int .i64 63) (.int .i64 63)).run Tryd.prog w = .ok (.slice (some ⟨w.heap.size, 0, none⟩) 63 63) (w.alloc (.cells zs63 tU8)) := fun w => run_make_row' (P := Tryd.prog) 57 tU8 (.int .u8 0) 1 Tryd.underlying57 infoU8 rfl .i64 .i64 63 (by decide) (by decide) w
  have hadd : ∀ w, (Op.stringOp .add (one8 b) zer63).run Tryd.prog w = .ok (.string (secB b)) w := fun w => run_string_add_sum w _ _ (by unfold one8 zer63; rw [strOfNums_size, strOfNums_size]; simp)
  go_enter Tryd.func9, Tryd.ntmps9
  go_wp2_with fail
  go_region
  all_goals
    go_wp2_with fail
    go_returns
    exact ⟨rfl, (by repeat' (first | (with_reducible exact Below.refl _ _) | (with_reducible assumption) | (with_reducible refine Below.setCell ?_ ?_ _) | (with_reducible refine Below.ext ?_ _ ?_) | (with_reducible refine Below.alloc ?_ ?_ _) | (with_reducible refine Below.drew ?_) | (with_reducible refine Below.drewN ?_ _) | (with_reducible exact Nat.le_refl _) | (dsimp only; omega) | (simp <;> omega)))⟩
theorem one8_size (b : Int) : (one8 b).size = 1 := by unfold one8; rw [strOfNums_size]; rfl
theorem zer63_size : zer63.size = 63 := by unfold zer63; rw [strOfNums_size]; simp
theorem secB_size (b : Int) : (secB b).size = 64 := by unfold secB; rw [ByteArray.size_append, one8_size, zer63_size]
end Go.Proofs.YtijagdpkclghnaaDoor
/- place, open of a cache: contracts. -/
namespace Go.Proofs.YtijagdpkclghnaaDoor
open Go Go.RowKit
set_option maxRecDepth 100000
variable {B n data : Nat} {w w' : World} {C : CM} {T : TS} {L : List Int} {f : Int → Option Ent} {E : Ent}
theorem place_no (w : World) (h : CacheAt B n data w C T L f) (hn : T.full = false) :
    Calls Tryd.prog 50 #[pt C.g] w fun e w' => e = .returned (.int .i64 0) ∧ Below w.heap.size w w' := by
  obtain ⟨c0, c1, c2⟩ := h.three
  have hF := Full_any w h.turn h.good
  rw [show decide (T.most ≤ T.plain.length + T.dear.length) = T.full from rfl, hn] at hF
  have HF := Lib.hid hF
  clear hF
  go_enter Tryd.func50, Tryd.ntmps50
  go_wp2_with fail
  refine Calls.pure_to HF.out ?_
  intro w1 b1
  go_wp2_with fail
  go_returns
  exact ⟨rfl, b1⟩
theorem infoStr : (Tryd.prog.info? tStr).map (fun i => (i.zero, i.size, i.bytes)) = some (some (.string noB), 1, 16) := by kernel_rfl
theorem made_strs (n : Nat) : madeCells #[Value.string noB] n = ((List.replicate n noB).map Value.string).toArray := by
  apply Array.ext_getElem?
  intro i
  unfold madeCells
  by_cases h : i < n
  · simp [h, Nat.mod_one]
  · simp [h]
set_option maxHeartbeats 4000000 in
theorem open_new (i : Int) (c : Nat) (s : ByteArray) (w : World) (h : CacheAt B n data w C T L f) (hi : 0 ≤ i) (hi2 : i < 64) (hc : c < data) (hs : s.size = 64) (hf : f i = none) (hn : T.full = false) (hnn : n < 100000) :
    Calls Tryd.prog 26 #[pt C.g, .int .i64 i, .int .i64 (c : Int), .string s] w fun e w' => ∃ C' E, e = .returned (.tuple #[pt E.g, .int .i64 0]) ∧ CacheAt B (n + 1) data w' C' (T.addT i) (addTo L i) (upd f i (some E)) ∧ CStep C f C' (upd f i (some E)) w w' ∧
      E.nt = Set4.zero ∧ E.ot = Set4.zero ∧ E.dt = Set4.zero ∧ E.nb = List.replicate data noB ∧ E.ob = List.replicate data noB := by
  have hh : T.has i = false := by
    rw [h.keys, ← h.map.some_, hf]; rfl
  obtain ⟨c0, c1, c2⟩ := h.three
  have hi64 : In64 i := ⟨by omega, by omega⟩
  have hcI : (c : Int) < (data : Int) := by omega
  have hsI : (s.size : Int) = 64 := by omega
  have hR := row_any i w h hi64
  rw [hf] at hR
  simp only [Option.map_none, ptrV] at hR
  have HR := Lib.hid (And.intro hR (And.intro hi64 hh))
  have HC := Lib.hid h
  have hmk := run_make_row' (P := Tryd.prog) 64 tStr (.string noB) 16 Tryd.underlying64 infoStr rfl .i64 .i64 data (by have := h.d30; omega) (by have := h.d30; omega)
  have HM := Lib.hid hmk
  clear hR hi64 hh hmk
  go_enter Tryd.func26, Tryd.ntmps26
  go_wp2_with fail
  refine HR.out.1.mono ?_
  rintro e w1 ⟨rfl, rfl⟩
  go_wp2_with fail
  refine Calls.pure_to (place_no w HC.out hn) ?_
  intro w1 b1
  have h1 := HC.out.below b1
  clear c0 c1 c2
  obtain ⟨c0, c1, c2⟩ := h1.three
  go_wp2_with fail
  refine (Add_any i w1 h1.turn h1.good).mono ?_
  rintro e w2 ⟨rfl, M', hT2, hS2⟩
  have hmk := HM.out
  have c1' := hS2.cell c1 h1.gM
  have c2' := hS2.cell c2 h1.gM
  have hlt : C.g < w2.heap.size := Nat.lt_of_lt_of_le h1.row.lt hS2.size
  clear c0 c1 c2
  go_wp2_with fail
  go_region
  · have hr : ∀ W : World, Below w2.heap.size w2 (((w2.alloc (Obj.cells (madeCells #[Value.string noB] data) tStr)).alloc (Obj.cells (madeCells #[Value.string noB] data) tStr)).alloc (Obj.cells (Ent.cells ⟨w2.heap.size + 1 + 1, w2.heap.size, (w2.heap.size + 1), Set4.zero, Set4.zero, Set4.zero, List.replicate data noB, List.replicate data noB⟩ data).toArray tE)).drew := fun _ => ((((Below.refl _ _).alloc (Nat.le_refl _) _).alloc (by simp) _).alloc (by simp; omega) _).drew
    have hE : EntAt B data (((w2.alloc (Obj.cells (madeCells #[Value.string noB] data) tStr)).alloc (Obj.cells (madeCells #[Value.string noB] data) tStr)).alloc (Obj.cells (Ent.cells ⟨w2.heap.size + 1 + 1, w2.heap.size, (w2.heap.size + 1), Set4.zero, Set4.zero, Set4.zero, List.replicate data noB, List.replicate data noB⟩ data).toArray tE)).drew ⟨w2.heap.size + 1 + 1, w2.heap.size, (w2.heap.size + 1), Set4.zero, Set4.zero, Set4.zero, List.replicate data noB, List.replicate data noB⟩ := by
      have hB2 := Nat.le_trans h1.bg (Nat.le_trans (Nat.le_of_lt h1.row.lt) hS2.size)
      have ra : ((w2.alloc (Obj.cells (madeCells #[Value.string noB] data) tStr)).alloc (Obj.cells (madeCells #[Value.string noB] data) tStr)).row w2.heap.size ((List.replicate data noB).map Value.string) tStr := by rw [made_strs]; exact (World.row.new' rfl).alloc _
      have rb : ((w2.alloc (Obj.cells (madeCells #[Value.string noB] data) tStr)).alloc (Obj.cells (madeCells #[Value.string noB] data) tStr)).row (w2.heap.size + 1) ((List.replicate data noB).map Value.string) tStr := by rw [made_strs]; exact World.row.new' (by simp)
      exact ⟨World.row.new' (by simp), (by first | exact ra.alloc _ | exact rb.alloc _), (by first | exact rb.alloc _ | exact ra.alloc _), by show w2.heap.size + 1 + 1 ≠ w2.heap.size; omega, by show w2.heap.size + 1 + 1 ≠ (w2.heap.size + 1); omega, by show w2.heap.size ≠ (w2.heap.size + 1); omega, by show B ≤ w2.heap.size + 1 + 1; omega, by show B ≤ w2.heap.size; omega, by show B ≤ (w2.heap.size + 1); omega, by simp, by simp, (fun i hi => by rw [Set4.has_zero] at hi; cases hi), (fun i hi => by rw [Set4.has_zero] at hi; cases hi)⟩
    have hnew : ∀ x, Ent.foot ⟨w2.heap.size + 1 + 1, w2.heap.size, (w2.heap.size + 1), Set4.zero, Set4.zero, Set4.zero, List.replicate data noB, List.replicate data noB⟩ x → w2.heap.size ≤ x := fun x hx => by
      rcases hx with e | e | e
      · have e : x = w2.heap.size + 1 + 1 := e; omega
      · have e : x = w2.heap.size := e; omega
      · have e : x = (w2.heap.size + 1) := e; omega
    go_upto_region 16 with fail
    refine wp_world (fun w3 => EntAt B data w3 ⟨w2.heap.size + 1 + 1, w2.heap.size, (w2.heap.size + 1), Set4.zero, Set4.zero, Set4.zero, List.replicate data noB, List.replicate data noB⟩ ∧ Below w2.heap.size w2 w3) ⟨hE, hr w2⟩ ?_
    clear hE hr c1'
    rintro w3 ⟨hE, hr⟩
    obtain ⟨E0, hE0⟩ : ∃ E0 : Ent, E0 = ⟨w2.heap.size + 1 + 1, w2.heap.size, (w2.heap.size + 1), Set4.zero, Set4.zero, Set4.zero, List.replicate data noB, List.replicate data noB⟩ := ⟨_, rfl⟩
    have hg0 : w2.heap.size + 1 + 1 = E0.g := by rw [hE0]
    rw [← hE0] at hE hnew
    rw [hg0]
    have HZ : Hid (E0.nt = Set4.zero ∧ E0.ot = Set4.zero ∧ E0.dt = Set4.zero ∧ E0.nb = List.replicate data noB ∧ E0.ob = List.replicate data noB) := Lib.hid (by rw [hE0]; exact ⟨rfl, rfl, rfl, rfl, rfl⟩)
    clear hg0 hE0
    have q2 := ((hS2.row h1.row h1.gM).below hr hlt).cell 2 rfl
    have hmp := (h1.map.same (hS2.block _ h1.map.lt h1.mM)).same (hr.block _ (Nat.lt_of_lt_of_le h1.map.lt hS2.size))
    have HE := Lib.hid (And.intro hr (And.intro hE (And.intro hnew (And.intro hS2 (And.intro hT2 (And.intro b1 h1))))))
    clear hE hr hnew hS2 hT2 b1 h1 c2' hmk
    go_wp2_with (at_mapUpdate; refine wpList_mapUpdate_pm rfl _ _ _ 54 rfl Tryd.underlying3 Tryd.underlying54 rfl hmp hnn i rfl HR.out.2.1 E0.g rfl ?_; intro w4 hm4 hg4)
    go_ret2
    obtain ⟨hr, hE, hnew, hS2, hT2, b1, h1⟩ := HE.out
    obtain ⟨A1, A2⟩ := h1.added hS2 hT2 (h1.good.add i HR.out.2.1) (fun k => by rw [add_has hn HR.out.2.2, h1.keys, addTo_has]) hr hE hnew hm4 hg4 hf
    exact ⟨{ C with M := M' }, E0, rfl, A1, (CStep.of_below C f b1).trans A2, HZ.out⟩
  · have hr : ∀ W : World, Below w2.heap.size w2 (((w2.alloc (Obj.cells (madeCells #[Value.string noB] data) tStr)).alloc (Obj.cells (madeCells #[Value.string noB] data) tStr)).alloc (Obj.cells (Ent.cells ⟨w2.heap.size + 1 + 1, (w2.heap.size + 1), w2.heap.size, Set4.zero, Set4.zero, Set4.zero, List.replicate data noB, List.replicate data noB⟩ data).toArray tE)).drew := fun _ => ((((Below.refl _ _).alloc (Nat.le_refl _) _).alloc (by simp) _).alloc (by simp; omega) _).drew
    have hE : EntAt B data (((w2.alloc (Obj.cells (madeCells #[Value.string noB] data) tStr)).alloc (Obj.cells (madeCells #[Value.string noB] data) tStr)).alloc (Obj.cells (Ent.cells ⟨w2.heap.size + 1 + 1, (w2.heap.size + 1), w2.heap.size, Set4.zero, Set4.zero, Set4.zero, List.replicate data noB, List.replicate data noB⟩ data).toArray tE)).drew ⟨w2.heap.size + 1 + 1, (w2.heap.size + 1), w2.heap.size, Set4.zero, Set4.zero, Set4.zero, List.replicate data noB, List.replicate data noB⟩ := by
      have hB2 := Nat.le_trans h1.bg (Nat.le_trans (Nat.le_of_lt h1.row.lt) hS2.size)
      have ra : ((w2.alloc (Obj.cells (madeCells #[Value.string noB] data) tStr)).alloc (Obj.cells (madeCells #[Value.string noB] data) tStr)).row w2.heap.size ((List.replicate data noB).map Value.string) tStr := by rw [made_strs]; exact (World.row.new' rfl).alloc _
      have rb : ((w2.alloc (Obj.cells (madeCells #[Value.string noB] data) tStr)).alloc (Obj.cells (madeCells #[Value.string noB] data) tStr)).row (w2.heap.size + 1) ((List.replicate data noB).map Value.string) tStr := by rw [made_strs]; exact World.row.new' (by simp)
      exact ⟨World.row.new' (by simp), (by first | exact ra.alloc _ | exact rb.alloc _), (by first | exact rb.alloc _ | exact ra.alloc _), by show w2.heap.size + 1 + 1 ≠ (w2.heap.size + 1); omega, by show w2.heap.size + 1 + 1 ≠ w2.heap.size; omega, by show (w2.heap.size + 1) ≠ w2.heap.size; omega, by show B ≤ w2.heap.size + 1 + 1; omega, by show B ≤ (w2.heap.size + 1); omega, by show B ≤ w2.heap.size; omega, by simp, by simp, (fun i hi => by rw [Set4.has_zero] at hi; cases hi), (fun i hi => by rw [Set4.has_zero] at hi; cases hi)⟩
    have hnew : ∀ x, Ent.foot ⟨w2.heap.size + 1 + 1, (w2.heap.size + 1), w2.heap.size, Set4.zero, Set4.zero, Set4.zero, List.replicate data noB, List.replicate data noB⟩ x → w2.heap.size ≤ x := fun x hx => by
      rcases hx with e | e | e
      · have e : x = w2.heap.size + 1 + 1 := e; omega
      · have e : x = (w2.heap.size + 1) := e; omega
      · have e : x = w2.heap.size := e; omega
    go_upto_region 16 with fail
    refine wp_world (fun w3 => EntAt B data w3 ⟨w2.heap.size + 1 + 1, (w2.heap.size + 1), w2.heap.size, Set4.zero, Set4.zero, Set4.zero, List.replicate data noB, List.replicate data noB⟩ ∧ Below w2.heap.size w2 w3) ⟨hE, hr w2⟩ ?_
    clear hE hr c1'
    rintro w3 ⟨hE, hr⟩
    obtain ⟨E0, hE0⟩ : ∃ E0 : Ent, E0 = ⟨w2.heap.size + 1 + 1, (w2.heap.size + 1), w2.heap.size, Set4.zero, Set4.zero, Set4.zero, List.replicate data noB, List.replicate data noB⟩ := ⟨_, rfl⟩
    have hg0 : w2.heap.size + 1 + 1 = E0.g := by rw [hE0]
    rw [← hE0] at hE hnew
    rw [hg0]
    have HZ : Hid (E0.nt = Set4.zero ∧ E0.ot = Set4.zero ∧ E0.dt = Set4.zero ∧ E0.nb = List.replicate data noB ∧ E0.ob = List.replicate data noB) := Lib.hid (by rw [hE0]; exact ⟨rfl, rfl, rfl, rfl, rfl⟩)
    clear hg0 hE0
    have q2 := ((hS2.row h1.row h1.gM).below hr hlt).cell 2 rfl
    have hmp := (h1.map.same (hS2.block _ h1.map.lt h1.mM)).same (hr.block _ (Nat.lt_of_lt_of_le h1.map.lt hS2.size))
    have HE := Lib.hid (And.intro hr (And.intro hE (And.intro hnew (And.intro hS2 (And.intro hT2 (And.intro b1 h1))))))
    clear hE hr hnew hS2 hT2 b1 h1 c2' hmk
    go_wp2_with (at_mapUpdate; refine wpList_mapUpdate_pm rfl _ _ _ 54 rfl Tryd.underlying3 Tryd.underlying54 rfl hmp hnn i rfl HR.out.2.1 E0.g rfl ?_; intro w4 hm4 hg4)
    go_ret2
    obtain ⟨hr, hE, hnew, hS2, hT2, b1, h1⟩ := HE.out
    obtain ⟨A1, A2⟩ := h1.added hS2 hT2 (h1.good.add i HR.out.2.1) (fun k => by rw [add_has hn HR.out.2.2, h1.keys, addTo_has]) hr hE hnew hm4 hg4 hf
    exact ⟨{ C with M := M' }, E0, rfl, A1, (CStep.of_below C f b1).trans A2, HZ.out⟩
end Go.Proofs.YtijagdpkclghnaaDoor
