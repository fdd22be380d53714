/- slices.Grow off the shelf, slices.Concat of two rows, Order, Victim: contracts. -/
import Derived.Shelf.Spec.SlicesGrow
import Derived.Ground.Names8Prog
import Derived.Test.YtijagdpkclghnaaDoorUTouch
namespace Go
open Go.RowKit
/-- An append of one owned row to another. -/
theorem wpList_append_irow {P : Program} (w : World) {ops : Array Oper} {rest : List Oper} {o : Oper} {a : Act} {Q : Exit → Act → World → Prop} (hgd : o.guard = none) (s x : Operand) (t e : TypeId) (i : TypeInfo)
    (ho : o.op = .call { callee := .builtin .append, args := #[s, x], argTypes := #[t, t] }) (ht : P.underlying t = some (.slice e)) (hi : P.info? e = some i) (hz : i.zero = some (.int .i64 0)) (hsize : i.size = 1) (hby : i.bytes = 8)
    {B C : Nat} {v u : Value} {xs ys : List Int} (hs : a.eval s = v) (hx : a.eval x = u) (hown : w.irow B e v xs) (hu : w.irow C e u ys) (hb : xs.length + ys.length ≤ 100000) (hbase : B ≤ w.heap.size)
    (h : ∀ v' w', w'.irow B e v' (xs ++ ys) → w.grownBy w' v.ownBlock → wpList P ops Q rest (a.put o.dst v') w') : wpList P ops Q (o :: rest) a w := by
  rcases hu.form with ⟨rfl, rfl⟩ | ⟨g, cap, rfl, _, _, _, _, hc⟩
  · refine wpList_plain hgd fun K hK => ?_
    have hr := run_append_owned_none (P := P) (w := w) B t o.type e i 1 ht hi v _ _ hown
    unfold Oper.wp execOp
    simp only [ho, resolve, invoke, builtin, Sem.run_bind, Sem.run_pure, Result.andThen_ok, List.map_toArray, List.map_cons, List.map_nil, hs, hx, hr]
    exact hK _ _ (h v w (by rw [List.append_nil]; exact hown) (World.grownBy.refl _ _))
  · refine wpList_append_own w hgd s x t ho B e i (.int .i64 0) 1 8 ht hi hz hsize hby rfl (by decide) v xs.length (ints xs) hs hown ⟨g, 0, none⟩ ys.length cap (ints ys) hx (by rw [ints_len, Nat.mul_one]) (fun j y hj => ?_) (fun y hy => ?_) (by unfold maxLen; omega) (by omega) hbase ?_
    · unfold ints at hj
      rw [List.getElem?_map] at hj
      cases hy : ys[j]? with
      | none => rw [hy] at hj; cases hj
      | some z =>
        rw [hy] at hj
        simp only [Option.map_some, Option.some.injEq] at hj
        rw [addr_add', Nat.zero_add, ← hj]
        exact hc j z hy
    · unfold ints at hy
      obtain ⟨z, _, rfl⟩ := List.mem_map.1 hy
      rfl
    · intro v' w' h1 h2 _
      refine h v' w' ?_ h2
      unfold World.irow
      rw [List.length_append, ints_append]
      exact h1
end Go
namespace Go.Proofs.YtijagdpkclghnaaDoor
open Go Go.RowKit Go.Shelf
set_option maxRecDepth 100000
variable {B n : Nat} {w : World} {M : TM} {T : TS}
shelf_lay_g Lays8.n4 Nm8 4 at Tryd 94 as growL
theorem Grow_any (m : Nat) (w : World) (hm : m ≤ 1000) : Calls Tryd.prog 94 #[.slice none 0 0, .int .i64 (m : Int)] w fun e w' => (∃ v, e = .returned v ∧ w'.irow w.heap.size tI v []) ∧ Below w.heap.size w w' := by
  by_cases h0 : m = 0
  · subst h0
    refine (Any8.slices_Grow_room growL none 0 0 0 w (by decide) (by decide) (by decide) (by decide)).mono ?_
    rintro e w' ⟨h1, rfl⟩
    exact ⟨⟨_, h1, World.irow.nil _ _ _⟩, Below.refl _ _⟩
  · obtain ⟨i0, hi, hz0, hz1, hz2⟩ := info_parts infoInt
    refine (Any8.slices_Grow_grow growL i0 (.int .i64 0) hi hz0 (by omega) none 0 0 m [] w (by decide) (by omega) (by rw [hz2]; omega) (by omega) (by simp) (fun _ => rfl) (fun a h => by cases h)).mono ?_
    rintro e w' ⟨h1, rfl⟩
    refine ⟨⟨_, h1, ?_⟩, (Below.refl _ _).drew.alloc (Nat.le_refl _) _⟩
    have g1 := grownCap_ge w (0 + m) 0 tI
    have g2 := grownCap_le_maxLen w (0 + m) 0 tI (by unfold maxLen; omega)
    refine World.ownsRow_made w.drew _ _ (Nat.le_refl _) g2 ?_
    simp only [Builtin.zeroCells, Array.size_append, Array.size_map, Array.size_range, Value.cells]
    show 0 + (0 + m - 0) * 1 + (grownCap w (0 + m) 0 tI - (0 + m)) * 1 = grownCap w (0 + m) 0 tI * 1
    omega
theorem Concat_any {S : Nat} {v1 v2 : Value} {xs ys : List Int} {C : Nat} (w : World) (hr : w.row S [v1, v2] 99) (h1 : w.irow C tI v1 xs) (h2 : w.irow C tI v2 ys) (hl : xs.length + ys.length ≤ 1000) :
    Calls Tryd.prog 87 #[.slice (some ⟨S, 0, none⟩) 2 2] w fun e w' => (∃ v, e = .returned v ∧ w'.irow w.heap.size tI v (xs ++ ys)) ∧ Below w.heap.size w w' := by
  obtain ⟨i0, hi, hz0, hz1, hz2⟩ := info_parts infoInt
  have HI : Hid (Tryd.prog.info? tI = some i0 ∧ i0.zero = some (.int .i64 0) ∧ i0.size = 1 ∧ i0.bytes = 8) := ⟨hi, hz0, hz1, hz2⟩
  clear hi hz0 hz1 hz2
  obtain ⟨a1, k1, e1⟩ := irow_shape h1
  obtain ⟨a2, k2, e2⟩ := irow_shape h2
  subst e1
  subst e2
  obtain ⟨p, hp⟩ : ∃ p, p = xs.length := ⟨_, rfl⟩
  obtain ⟨q, hq⟩ : ∃ q, q = ys.length := ⟨_, rfl⟩
  rw [← hp] at hr h1 hl
  rw [← hq] at hr h2 hl
  have HL := Lib.hid (And.intro hp (And.intro hq (And.intro h1 h2)))
  have HR := Lib.hid hr
  obtain ⟨c0, c1, z⟩ := hr.two
  clear hp hq h1 h2 hr
  go_enter Tryd.func87, Tryd.ntmps87
  go_wp2_with fail
  refine wp_loop_rounds 3 ?_
  rw [rounds_succ]
  go_wp2_with fail
  rw [rounds_succ]
  go_wp2_with fail
  rw [rounds_succ]
  go_wp2_with fail
  have hG := Grow_any (p + q) w hl
  simp only [Int.natCast_add] at hG
  refine hG.mono ?_
  rintro e w1 ⟨⟨v, rfl, hv⟩, hb1⟩
  clear hG c0 c1 z
  have hr1 := HR.out.below hb1 HR.out.lt
  obtain ⟨c0, c1, z⟩ := hr1.two
  have hu1 := irow_below HL.out.2.2.1 hb1
  go_wp2_with fail
  refine wp_loop_rounds 3 ?_
  rw [rounds_succ]
  go_wp2_with (at_builtin; refine wpList_append_irow _ rfl _ _ 99 tI i0 rfl Tryd.underlying99 HI.out.1 HI.out.2.1 HI.out.2.2.1 HI.out.2.2.2 rfl rfl hv hu1 (by have := HL.out.1; simp; omega) hb1.size ?_)
  intro v2' w2 ho2 hg2
  have B2 := hb1.grown hg2 hb1.size (fun k hk => (hv.lt k hk).1)
  have hu2 := irow_below HL.out.2.2.2 B2
  have hr2 := HR.out.below B2 HR.out.lt
  clear c0 c1 z hr1 hu1 hv hb1 hg2
  obtain ⟨c0, c1, z⟩ := hr2.two
  go_wp2_with fail
  rw [rounds_succ]
  go_wp2_with (at_builtin; refine wpList_append_irow _ rfl _ _ 99 tI i0 rfl Tryd.underlying99 HI.out.1 HI.out.2.1 HI.out.2.2.1 HI.out.2.2.2 rfl rfl ho2 hu2 (by have h1 := HL.out.1; have h2 := HL.out.2.1; simp; omega) B2.size ?_)
  intro v3' w3 ho3 hg3
  have B3 := B2.grown hg3 B2.size (fun k hk => (ho2.lt k hk).1)
  clear c0 c1 z hr2 hu2 ho2 B2 hg3
  go_wp2_with fail
  rw [rounds_succ]
  go_wp2_with fail
  go_returns
  exact ⟨⟨v3', rfl, ho3⟩, B3⟩
theorem irow_mono {B' : Nat} {v : Value} {xs : List Int} (h : w.irow B tI v xs) (hb : B' ≤ B) : w.irow B' tI v xs :=
  ⟨h.1, h.2.imp id fun ⟨g, cap, cur, hv, hB, r⟩ => ⟨g, cap, cur, hv, Nat.le_trans hb hB, r⟩⟩
theorem Order_any (w : World) (h : TurnAt B n w M T) (hg : Good T) :
    Calls Tryd.prog 75 #[pt M.g] w fun e w' => (∃ v, e = .returned v ∧ w'.irow w.heap.size tI v T.keys) ∧ Below w.heap.size w w' := by
  have hl : T.plain.length + T.dear.length ≤ 1000 := by have := hg.len; have := hg.m64; omega
  obtain ⟨c0, c1, c2, c3, c4, z⟩ := h.five
  have gl := h.row.lt
  obtain ⟨a1, k1, e1⟩ := irow_shape h.o1
  obtain ⟨a2, k2, e2⟩ := irow_shape h.o2
  have ho1 := h.o1
  have ho2 := h.o2
  rw [e1] at c2 ho1
  rw [e2] at c3 ho2
  obtain ⟨p, hp⟩ : ∃ p, p = T.plain.length := ⟨_, rfl⟩
  obtain ⟨q, hq⟩ : ∃ q, q = T.dear.length := ⟨_, rfl⟩
  rw [← hp] at c2 ho1
  rw [← hq] at c3 ho2
  have HH := Lib.hid (And.intro h hl)
  have H12 := Lib.hid (And.intro ho1 ho2)
  clear h hl hg ho1 ho2 e1 e2 hp hq
  go_enter Tryd.func75, Tryd.ntmps75
  go_upto_region 3 with fail
  refine wp_region_ext_head 8 w.heap.size (Nat.le_refl _) (by kernel_rfl) (by kernel_rfl) ?_
  intro _
  simp only [List.take_succ_cons, List.take_zero, List.drop_succ_cons, List.drop_zero]
  repeat (go_big_quiet_step (fail))
  refine wpQuiet_nil ?_
  intro x
  have bx := World.ext_below x
  obtain ⟨wx, hwx⟩ : ∃ wx, wx = w.ext w.heap.size x := ⟨_, rfl⟩
  rw [← hwx] at bx ⊢
  clear hwx
  have hr := World.row.new wx [.slice a1 p k1, .slice a2 q k2] 99
  have b1 := bx.alloc bx.size (.cells #[.slice a1 p k1, .slice a2 q k2] 99)
  have i1 := irow_below H12.out.1 b1
  have i2 := irow_below H12.out.2 b1
  go_wp2_with fail
  refine (Concat_any _ hr i1 i2 HH.out.2).mono ?_
  rintro e w2 ⟨⟨v, rfl, hv⟩, hb2⟩
  have b2 := b1.trans (hb2.mono b1.size)
  have hv2 : w2.irow w.heap.size tI v T.keys := irow_mono hv b1.size
  go_wp2_with fail
  go_returns
  exact ⟨⟨v, rfl, hv2⟩, b2⟩
theorem find_first {p : Int → Bool} : ∀ (l : List Int) (i : Nat) (y : Int), l[i]? = some y → p y = true → (∀ j z, j < i → l[j]? = some z → p z = false) → l.find? p = some y
  | [], i, y, h, _, _ => by simp at h
  | x :: l, 0, y, h, hp, _ => by
    simp at h; subst h
    rw [List.find?_cons_of_pos hp]
  | x :: l, i + 1, y, h, hp, hn => by
    have h0 := hn 0 x (by omega) rfl
    rw [List.find?_cons_of_neg (by rw [h0]; simp)]
    exact find_first l i y (by simpa using h) hp fun j z hj hz => hn (j + 1) z (by omega) (by simpa using hz)
/-- The key that goes: the first one that isn't pinned. -/
def TS.victim (T : TS) : Option Int := T.keys.find? fun k => !T.pins.contains k
set_option maxHeartbeats 1000000 in
theorem Victim_any (w : World) (h : TurnAt B n w M T) (hg : Good T) :
    Calls Tryd.prog 67 #[pt M.g] w fun e w' => e = .returned (.tuple #[.int .i64 (T.victim.getD 0), .bool T.victim.isSome]) ∧ Below w.heap.size w w' := by
  have hl : T.keys.length ≤ 1000 := by have := hg.len; have := hg.m64; unfold TS.keys; rw [List.length_append]; omega
  have HH := Lib.hid (And.intro h (And.intro hg.in64 hl))
  have hO := Order_any w h hg
  have hmz : ∀ w, (zeroValue 4).run Tryd.prog w = .ok (.bool false) w := fun w => by kernel_rfl
  have HZ := Lib.hid hmz
  clear hl h hg hmz
  go_enter Tryd.func67, Tryd.ntmps67
  go_wp2_with fail
  refine hO.mono ?_
  rintro e w1 ⟨⟨v, rfl, hv⟩, hb1⟩
  obtain ⟨a, c, rfl⟩ := irow_shape hv
  have HV := Lib.hid (And.intro hv hb1)
  obtain ⟨m, hm⟩ : ∃ m, m = T.keys.length := ⟨_, rfl⟩
  rw [← hm]
  have hm1 : m ≤ 1000 := by rw [hm]; exact HH.out.2.2
  have HM := Lib.hid hm
  clear hO hv hb1 hm
  go_wp2_with fail
  go_loopw [9] (fun x wr => ∃ (i : Nat), i ≤ m ∧ x = .int .i64 i ∧ Below w.heap.size w wr ∧ Below w1.heap.size w1 wr ∧ ∀ j y, j < i → T.keys[j]? = some y → T.pins.contains y = true) (fun x _ => m - (intOf x).toNat)
  case atStart => exact ⟨0, by omega, rfl, HV.out.2, Below.refl _ _, fun j y hj => by omega⟩
  case round =>
    obtain ⟨i, hi, rfl, hB, hB1, hall⟩ := hrel
    have HA := Lib.hid hall
    clear hall
    by_cases hlt : i < m
    · have hil : i < T.keys.length := by rw [← HM.out]; exact hlt
      obtain ⟨y, hy⟩ : ∃ y, T.keys[i]? = some y := ⟨T.keys[i], List.getElem?_eq_getElem hil⟩
      have hvr := irow_below HV.out.1 hB1
      obtain ⟨g1, cap1, ev, _, _, _, _, hcell⟩ := hvr.form.resolve_left (fun e => by rw [e.2] at hil; simp at hil)
      have cy := hcell i y hy
      have hyin := HH.out.2.1 y (List.mem_of_getElem? hy)
      obtain ⟨rfl, _, rfl⟩ := Value.slice.inj ev
      have hT := HH.out.1.below' hB
      obtain ⟨c0, c1, c2, c3, c4, z⟩ := hT.five
      have HT := Lib.hid hT
      have HY := Lib.hid (And.intro hy hyin)
      clear hvr hcell ev hy hyin hT hil
      cases hp : T.pins.contains y with
      | false =>
        have HP := Lib.hid hp
        clear hp
        go_wp2_with (at_lookup; refine wpList_lookup_bmr rfl _ _ 98 rfl Tryd.underlying3 Tryd.underlying98 Tryd.underlying4 HZ.out rfl HT.out.pm y rfl HY.out.2 false HP.out ?_)
        go_ret2
        have hv : T.victim = some y := by
          unfold TS.victim
          exact find_first T.keys i y HY.out.1 (by rw [HP.out]; rfl) fun j z hj hz => by rw [HA.out j z hj hz]; rfl
        refine ⟨?_, hB⟩
        rw [hv]
        rfl
      | true =>
        have HP := Lib.hid hp
        clear hp
        go_wp2_with (at_lookup; refine wpList_lookup_bmr rfl _ _ 98 rfl Tryd.underlying3 Tryd.underlying98 Tryd.underlying4 HZ.out rfl HT.out.pm y rfl HY.out.2 true HP.out ?_)
        go_roundw
        case rel =>
          refine ⟨i + 1, by omega, by go_num, hB, hB1, fun j z hj hz => ?_⟩
          by_cases e : j = i
          · subst e
            have := HY.out.1.symm.trans hz
            cases this
            exact HP.out
          · exact HA.out j z (by omega) hz
        case measure => simp [intOf] <;> omega
    · have hn : T.victim = none := by
        unfold TS.victim
        rw [List.find?_eq_none]
        intro z hz
        obtain ⟨j, hj, rfl⟩ := List.getElem_of_mem hz
        have := HA.out j _ (by have := HM.out; omega) (List.getElem?_eq_getElem hj)
        rw [this]; simp
      go_wp2_with fail
      go_ret2
      refine ⟨?_, hB⟩
      rw [hn]
      rfl
end Go.Proofs.YtijagdpkclghnaaDoor
