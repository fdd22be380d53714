/- TurnPlays: its walk. -/
import Derived.Test.YtfbcgnehpkffeaaUPlayAt
namespace Go.Proofs.Ytfbcgnehpkffeaa
open Go Go.RowKit
set_option maxRecDepth 100000
set_option maxHeartbeats 4000000 in
theorem plays_no (most dear : Int) (a : Option Addr) (len cap : Nat) (w : World) (h : most < 1 ∨ 64 < most ∨ dear < 0 ∨ most ≤ dear) :
    Calls Try.prog 3 #[.int .i64 most, .int .i64 dear, .slice a len cap] w fun e w' => e = .returned (.bool true) ∧ Below w.heap.size w w' := by
  have hN := New_no most dear w h
  have hR := RNew_no most dear w h
  clear h
  go_enter Try.func3, Try.ntmps3
  go_wp2_with fail
  refine hN.mono ?_
  rintro e w' ⟨rfl, rfl⟩
  go_wp2_with fail
  refine hR.mono ?_
  rintro e w' ⟨rfl, rfl⟩
  clear hN hR
  go_wp2_with fail
  refine Calls.pure_to (wakes_any _) ?_
  intro w1 hb1
  go_wp2_with fail
  refine (Add_nil 1 w1).mono ?_
  rintro e w' ⟨rfl, rfl⟩
  go_wp2_with fail
  refine (Touch_nil 1 w1).mono ?_
  rintro e w' ⟨rfl, rfl⟩
  go_wp2_with fail
  refine (Drop_nil 1 w1).mono ?_
  rintro e w' ⟨rfl, rfl⟩
  go_wp2_with fail
  refine (Pin_nil 1 true w1).mono ?_
  rintro e w' ⟨rfl, rfl⟩
  go_wp2_with fail
  refine (Full_nil w1).mono ?_
  rintro e w' ⟨rfl, rfl⟩
  go_wp2_with fail
  refine (Order_nil w1).mono ?_
  rintro e w' ⟨rfl, rfl⟩
  go_wp2_with fail
  go_returns
  exact ⟨rfl, hb1⟩
set_option maxHeartbeats 8000000 in
theorem plays_yes (most limit : Nat) (a : Option Addr) (len cap : Nat) (l : List (Int × Int × Bool)) (w : World) (h1 : 1 ≤ most) (h2 : most ≤ 64) (h3 : limit < most) (hl : l.length = len) (hcap : len ≤ cap) (hna : a = none → len = 0 ∧ cap = 0) (hin : ∀ x ∈ l, In64 x.2.1)
    (hc : l = [] ∨ ∃ b o, a = some ⟨b, o, none⟩ ∧ ∀ i x, l[i]? = some x → ∀ j u, (act3 x)[j]? = some u → w.cell? ⟨b, o + i * 3 + j, none⟩ = some u) :
    Calls Try.prog 3 #[.int .i64 (most : Int), .int .i64 (limit : Int), .slice a len cap] w fun e w' => e = .returned (.bool true) ∧ Below w.heap.size w w' := by
  have HC := Lib.hid (And.intro hc (And.intro hin hna))
  clear hc hin hna
  obtain ⟨n, hn⟩ : ∃ n, n = min len 80 := ⟨_, rfl⟩
  have hn1 : min (len : Int) 80 = (n : Int) := by omega
  have hn2 : max (n : Int) 0 = (n : Int) := by omega
  have hn80 : n ≤ 80 := by omega
  have hnl : n ≤ len := by omega
  clear hn
  have hN := New_ok (B := w.heap.size) most limit w (Nat.le_refl _) h1 h2 h3
  go_enter Try.func3, Try.ntmps3
  go_wp2_with fail
  refine hN.mono ?_
  rintro e w1 ⟨M0, rfl, hT0, hb0, hf0⟩
  have hR := RNew_ok (B := w.heap.size) most limit w1 hb0.size h1 h2 h3
  clear hN
  go_wp2_with fail
  refine hR.mono ?_
  rintro e w2 ⟨rfl, hR0, hb1⟩
  obtain ⟨r, hr⟩ : ∃ r, r = w1.heap.size := ⟨_, rfl⟩
  obtain ⟨g, hg⟩ : ∃ g, M0.g = g := ⟨_, rfl⟩
  rw [← hr] at hR0 ⊢
  rw [hg]
  have G0 : Good ⟨most, limit, [], [], []⟩ := ⟨h1, h2, h3, by simp, by simp, by simp, fun k hk => by simp at hk⟩
  have PL0 : PlayAt w 0 0 g r w2 M0 ⟨most, limit, [], [], []⟩ (.slice none 0 0) ⟨most, limit, [], 0⟩ [] [] :=
    ⟨hT0.below' hb1, G0, hg, hR0, Rel.new most limit, Nat.le_refl _, fun k hk => ⟨fun e => by have := (hT0.lts k hk).2; omega, by simp [Value.ownBlock]⟩, hb0.trans (hb1.mono hb0.size)⟩
  have HP := Lib.hid PL0
  clear hR hT0 hb0 hf0 hR0 hb1 hr hg G0 PL0
  go_wp2_with fail
  refine Calls.pure_to (wakes_any _) ?_
  intro w3 hb3
  have HP3 := Lib.hid (HP.out.below hb3)
  clear HP hb3
  go_wp2_with fail
  go_loopw [79] (fun x wr => ∃ (i : Nat) (M : TM) (T : TS) (v : Value) (R : RS) (P D : List RK), i ≤ n ∧ x = .int .i64 i ∧ PlayAt w i (2 * i) g r wr M T v R P D) (fun x _ => n - (intOf x).toNat)
  case atStart => exact ⟨0, M0, _, _, _, _, _, by omega, rfl, HP3.out⟩
  case round =>
    clear HP3
    obtain ⟨i, M, T, v, R, P, D, hi, rfl, hP⟩ := hrel
    by_cases hlt2 : i < n
    · have hne : l ≠ [] := by intro e; rw [e] at hl; simp at hl; omega
      obtain ⟨b, o, rfl, hcell⟩ := HC.out.1.resolve_left hne
      obtain ⟨y, hy⟩ : ∃ y, l[i]? = some y := ⟨l[i]'(by omega), by rw [List.getElem?_eq_getElem (by omega)]⟩
      have hyin := HC.out.2.1 y (List.mem_of_getElem? hy)
      have bcell := fun (p : Addr) v (hp : w.cell? p = some v) => (hP.b.cell (p := p) (block_lt_of_cell hp)).trans hp
      have j0 := bcell _ _ (hcell i y hy 0 _ rfl)
      have j1 := bcell _ _ (hcell i y hy 1 _ rfl)
      have j2 := bcell _ _ (hcell i y hy 2 _ rfl)
      rw [Nat.add_zero] at j0
      have hbw : b < wr.heap.size := block_lt_of_cell j1
      clear hcell hy hne bcell
      obtain ⟨dd, key, on⟩ := y
      have hkin : In64 key := hyin
      clear hyin
      have hP1 := hP.below (w' := wr.alloc (.cells #[.int .i64 dd, .int .i64 key, .bool on] 37)) (by repeat' (first | (with_reducible exact Below.refl _ _) | (with_reducible assumption) | (with_reducible refine Below.setCell ?_ ?_ _) | (with_reducible refine Below.ext ?_ _ ?_) | (with_reducible refine Below.alloc ?_ ?_ _) | (with_reducible refine Below.drew ?_) | (with_reducible refine Below.drewN ?_ _) | (with_reducible exact Nat.le_refl _) | (dsimp only; omega) | (simp <;> omega)))
      have hO := hP.out (Nat.le_refl _)
      have hw1 : wr.heap.size < (wr.alloc (.cells #[.int .i64 dd, .int .i64 key, .bool on] 37)).heap.size := by simp
      have HP1 := Lib.hid (And.intro hP1 (And.intro hO (And.intro hkin hw1)))
      clear hP1 hO hkin hP hw1
      go_wp2_with fail
      · have hP := HP1.out.1.below ((Below.refl _ _).drew)
        refine wp_region_mix_exts (· = wr.heap.size) [] false (by kernel_rfl) (by kernel_rfl) ?_
        intro _
        repeat ((with_reducible refine wpMix_light ?hh ?_); (case hh => rfl); go_big_quiet_step (fail); (with_reducible refine wpQuiet_nil ?_))
        (with_reducible refine wpMix_heavy ?hh ?hw (fun K hK => ?_)); (case hh => rfl); (case hw => rfl)
        go_simp
        have hc := Touch_any key _ hP.t hP.good
        rw [hP.g] at hc
        refine hc.mono ?_
        rintro e w2 ⟨rfl, M2, T2, S2⟩
        obtain ⟨hR2, hA2⟩ := step_ref hP.ref hP.ap S2
        have hk2 := S2.block wr.heap.size HP1.out.2.2.2 HP1.out.2.1.1
        clear hc
        refine hK.out _ _ (toExtS (fun b hb => by cases hb; exact hk2)) ?_
        clear hK K
        try simp only [Act.put, List.setIfInBounds_toArray, List.set_cons_zero, List.set_cons_succ]
        repeat ((with_reducible refine wpMix_light ?hh ?_); (case hh => rfl); go_big_quiet_step (fail); (with_reducible refine wpQuiet_nil ?_))
        (with_reducible refine wpMix_heavy ?hh ?hw (fun K hK => ?_)); (case hh => rfl); (case hw => rfl)
        go_simp
        have hd := RTouch_any key w2 hR2 hP.rel hP.good (by have := hP.clk; omega)
        refine hd.mono ?_
        rintro e w4 ⟨rfl, R4, P4, D4, hR4, hrel4, rs4, hc4⟩
        have hk4 := (rs4.block wr.heap.size (Nat.lt_of_lt_of_le HP1.out.2.2.2 S2.size) HP1.out.2.1.2.1 HP1.out.2.1.2.2).trans hk2
        refine hK.out _ _ (toExtS (fun b hb => by cases hb; exact hk4)) ?_
        clear hK K
        try simp only [Act.put, List.setIfInBounds_toArray, List.set_cons_zero, List.set_cons_succ]
        repeat ((with_reducible refine wpMix_light ?hh ?_); (case hh => rfl); go_big_quiet_step (fail); (with_reducible refine wpQuiet_nil ?_))
        refine wpMix_nil ?_
        have HP2 := Lib.hid ((hP.step T2 S2 (hP.good.touch key) hR4 hrel4 rs4 (Nat.le_trans hc4 (Nat.add_le_add_right hP.clk _))).mono (n' := i + 1) (clk' := 2 * (i + 1)) (by omega) (by omega))
        obtain ⟨q0, q1, q2, qz⟩ := (row_same (World.row.new wr [.int .i64 dd, .int .i64 key, .bool on] 37) hk4).three
        have hs := same_any key w4 HP2.out.t HP2.out.good HP2.out.ref HP2.out.rel
        rw [HP2.out.g] at hs
        clear hk4 hk2 hd hR2 hA2 hP T2 S2 hR4 hrel4 rs4 hc4 q0 q2 qz
        go_wp2_with fail
        refine Calls.pure_to hs ?_
        intro wz hbz
        have HZ := Lib.hid (HP2.out.below hbz)
        clear hbz hs
        go_wp2_with fail
        go_roundw
        case rel => exact ⟨i + 1, _, _, _, _, _, _, by omega, by go_num, HZ.out⟩
        case measure => simp [intOf] <;> omega
      · have hP := HP1.out.1.below ((Below.refl _ _).drew)
        refine wp_region_mix_exts (· = wr.heap.size) [] false (by kernel_rfl) (by kernel_rfl) ?_
        intro _
        repeat ((with_reducible refine wpMix_light ?hh ?_); (case hh => rfl); go_big_quiet_step (fail); (with_reducible refine wpQuiet_nil ?_))
        (with_reducible refine wpMix_heavy ?hh ?hw (fun K hK => ?_)); (case hh => rfl); (case hw => rfl)
        go_simp
        have hc := Touch_any key _ hP.t hP.good
        rw [hP.g] at hc
        refine hc.mono ?_
        rintro e w2 ⟨rfl, M2, T2, S2⟩
        obtain ⟨hR2, hA2⟩ := step_ref hP.ref hP.ap S2
        have hk2 := S2.block wr.heap.size HP1.out.2.2.2 HP1.out.2.1.1
        clear hc
        refine hK.out _ _ (toExtS (fun b hb => by cases hb; exact hk2)) ?_
        clear hK K
        try simp only [Act.put, List.setIfInBounds_toArray, List.set_cons_zero, List.set_cons_succ]
        repeat ((with_reducible refine wpMix_light ?hh ?_); (case hh => rfl); go_big_quiet_step (fail); (with_reducible refine wpQuiet_nil ?_))
        (with_reducible refine wpMix_heavy ?hh ?hw (fun K hK => ?_)); (case hh => rfl); (case hw => rfl)
        go_simp
        have hd := RTouch_any key w2 hR2 hP.rel hP.good (by have := hP.clk; omega)
        refine hd.mono ?_
        rintro e w4 ⟨rfl, R4, P4, D4, hR4, hrel4, rs4, hc4⟩
        have hk4 := (rs4.block wr.heap.size (Nat.lt_of_lt_of_le HP1.out.2.2.2 S2.size) HP1.out.2.1.2.1 HP1.out.2.1.2.2).trans hk2
        refine hK.out _ _ (toExtS (fun b hb => by cases hb; exact hk4)) ?_
        clear hK K
        try simp only [Act.put, List.setIfInBounds_toArray, List.set_cons_zero, List.set_cons_succ]
        repeat ((with_reducible refine wpMix_light ?hh ?_); (case hh => rfl); go_big_quiet_step (fail); (with_reducible refine wpQuiet_nil ?_))
        refine wpMix_nil ?_
        have HP2 := Lib.hid ((hP.step T2 S2 (hP.good.touch key) hR4 hrel4 rs4 (Nat.le_trans hc4 (Nat.add_le_add_right hP.clk _))).mono (n' := i + 1) (clk' := 2 * (i + 1)) (by omega) (by omega))
        obtain ⟨q0, q1, q2, qz⟩ := (row_same (World.row.new wr [.int .i64 dd, .int .i64 key, .bool on] 37) hk4).three
        have hs := same_any key w4 HP2.out.t HP2.out.good HP2.out.ref HP2.out.rel
        rw [HP2.out.g] at hs
        clear hk4 hk2 hd hR2 hA2 hP T2 S2 hR4 hrel4 rs4 hc4 q0 q2 qz
        go_wp2_with fail
        refine Calls.pure_to hs ?_
        intro wz hbz
        have HZ := Lib.hid (HP2.out.below hbz)
        clear hbz hs
        go_wp2_with fail
        go_roundw
        case rel => exact ⟨i + 1, _, _, _, _, _, _, by omega, by go_num, HZ.out⟩
        case measure => simp [intOf] <;> omega
      · have hP := HP1.out.1.below ((Below.refl _ _).drew)
        refine wp_region_mix_exts (· = wr.heap.size) [] false (by kernel_rfl) (by kernel_rfl) ?_
        intro _
        repeat ((with_reducible refine wpMix_light ?hh ?_); (case hh => rfl); go_big_quiet_step (fail); (with_reducible refine wpQuiet_nil ?_))
        (with_reducible refine wpMix_heavy ?hh ?hw (fun K hK => ?_)); (case hh => rfl); (case hw => rfl)
        go_simp
        have hc := Pin_any key on _ hP.t (by omega) HP1.out.2.2.1
        rw [hP.g] at hc
        refine hc.mono ?_
        rintro e w2 ⟨rfl, T2, S2⟩
        obtain ⟨hR2, hA2⟩ := step_ref hP.ref hP.ap S2
        have hk2 := S2.block wr.heap.size HP1.out.2.2.2 HP1.out.2.1.1
        clear hc
        refine hK.out _ _ (toExtS (fun b hb => by cases hb; exact hk2)) ?_
        clear hK K
        try simp only [Act.put, List.setIfInBounds_toArray, List.set_cons_zero, List.set_cons_succ]
        repeat ((with_reducible refine wpMix_light ?hh ?_); (case hh => rfl); go_big_quiet_step (fail); (with_reducible refine wpQuiet_nil ?_))
        (with_reducible refine wpMix_heavy ?hh ?hw (fun K hK => ?_)); (case hh => rfl); (case hw => rfl)
        go_simp
        have hd := RPin_any key on w2 hR2 hP.rel hP.good hP.t.pnodup
        refine hd.mono ?_
        rintro e w4 ⟨rfl, R4, P4, D4, hR4, hrel4, rs4, hc4e⟩
        have hc4 : R4.clock ≤ R.clock + 0 := Nat.le_of_eq hc4e
        clear hc4e
        have hk4 := (rs4.block wr.heap.size (Nat.lt_of_lt_of_le HP1.out.2.2.2 S2.size) HP1.out.2.1.2.1 HP1.out.2.1.2.2).trans hk2
        refine hK.out _ _ (toExtS (fun b hb => by cases hb; exact hk4)) ?_
        clear hK K
        try simp only [Act.put, List.setIfInBounds_toArray, List.set_cons_zero, List.set_cons_succ]
        repeat ((with_reducible refine wpMix_light ?hh ?_); (case hh => rfl); go_big_quiet_step (fail); (with_reducible refine wpQuiet_nil ?_))
        refine wpMix_nil ?_
        have HP2 := Lib.hid ((hP.step T2 S2 (hP.good.pin key on) hR4 hrel4 rs4 (Nat.le_trans hc4 (Nat.add_le_add_right hP.clk _))).mono (n' := i + 1) (clk' := 2 * (i + 1)) (by omega) (by omega))
        obtain ⟨q0, q1, q2, qz⟩ := (row_same (World.row.new wr [.int .i64 dd, .int .i64 key, .bool on] 37) hk4).three
        have hs := same_any key w4 HP2.out.t HP2.out.good HP2.out.ref HP2.out.rel
        rw [HP2.out.g] at hs
        clear hk4 hk2 hd hR2 hA2 hP T2 S2 hR4 hrel4 rs4 hc4 q0 q2 qz
        go_wp2_with fail
        refine Calls.pure_to hs ?_
        intro wz hbz
        have HZ := Lib.hid (HP2.out.below hbz)
        clear hbz hs
        go_wp2_with fail
        go_roundw
        case rel => exact ⟨i + 1, _, _, _, _, _, _, by omega, by go_num, HZ.out⟩
        case measure => simp [intOf] <;> omega
      · have hP := HP1.out.1.below ((Below.refl _ _).drew)
        refine wp_region_mix_exts (· = wr.heap.size) [] false (by kernel_rfl) (by kernel_rfl) ?_
        intro _
        repeat ((with_reducible refine wpMix_light ?hh ?_); (case hh => rfl); go_big_quiet_step (fail); (with_reducible refine wpQuiet_nil ?_))
        (with_reducible refine wpMix_heavy ?hh ?hw (fun K hK => ?_)); (case hh => rfl); (case hw => rfl)
        go_simp
        have hc := Drop_any key _ hP.t hP.good HP1.out.2.2.1
        rw [hP.g] at hc
        refine hc.mono ?_
        rintro e w2 ⟨rfl, M2, T2, S2⟩
        obtain ⟨hR2, hA2⟩ := step_ref hP.ref hP.ap S2
        have hk2 := S2.block wr.heap.size HP1.out.2.2.2 HP1.out.2.1.1
        clear hc
        refine hK.out _ _ (toExtS (fun b hb => by cases hb; exact hk2)) ?_
        clear hK K
        try simp only [Act.put, List.setIfInBounds_toArray, List.set_cons_zero, List.set_cons_succ]
        repeat ((with_reducible refine wpMix_light ?hh ?_); (case hh => rfl); go_big_quiet_step (fail); (with_reducible refine wpQuiet_nil ?_))
        (with_reducible refine wpMix_heavy ?hh ?hw (fun K hK => ?_)); (case hh => rfl); (case hw => rfl)
        go_simp
        have hd := RDrop_rel key w2 hR2 hP.rel hP.good hP.t.pnodup (Nat.le_trans hP.t.le S2.size)
        refine hd.mono ?_
        rintro e w4 ⟨rfl, v4, R4, P4, D4, hR4, hrel4, rs4, hc4e⟩
        have hc4 : R4.clock ≤ R.clock + 0 := Nat.le_of_eq hc4e
        clear hc4e
        have hk4 := (rs4.block wr.heap.size (Nat.lt_of_lt_of_le HP1.out.2.2.2 S2.size) HP1.out.2.1.2.1 HP1.out.2.1.2.2).trans hk2
        refine hK.out _ _ (toExtS (fun b hb => by cases hb; exact hk4)) ?_
        clear hK K
        try simp only [Act.put, List.setIfInBounds_toArray, List.set_cons_zero, List.set_cons_succ]
        repeat ((with_reducible refine wpMix_light ?hh ?_); (case hh => rfl); go_big_quiet_step (fail); (with_reducible refine wpQuiet_nil ?_))
        refine wpMix_nil ?_
        have HP2 := Lib.hid ((hP.step T2 S2 (hP.good.drop key) hR4 hrel4 rs4 (Nat.le_trans hc4 (Nat.add_le_add_right hP.clk _))).mono (n' := i + 1) (clk' := 2 * (i + 1)) (by omega) (by omega))
        obtain ⟨q0, q1, q2, qz⟩ := (row_same (World.row.new wr [.int .i64 dd, .int .i64 key, .bool on] 37) hk4).three
        have hs := same_any key w4 HP2.out.t HP2.out.good HP2.out.ref HP2.out.rel
        rw [HP2.out.g] at hs
        clear hk4 hk2 hd hR2 hA2 hP T2 S2 hR4 hrel4 rs4 hc4 q0 q2 qz
        go_wp2_with fail
        refine Calls.pure_to hs ?_
        intro wz hbz
        have HZ := Lib.hid (HP2.out.below hbz)
        clear hbz hs
        go_wp2_with fail
        go_roundw
        case rel => exact ⟨i + 1, _, _, _, _, _, _, by omega, by go_num, HZ.out⟩
        case measure => simp [intOf] <;> omega
      · have hV := Victim_any _ HP1.out.1.t HP1.out.1.good
        rw [HP1.out.1.g] at hV
        refine Calls.pure_to hV ?_
        intro wv hbv
        have hP := HP1.out.1.below hbv
        have hO : ¬ M.foot wr.heap.size ∧ wr.heap.size ≠ r ∧ v.ownBlock ≠ some wr.heap.size := HP1.out.2.1
        have hlt := Nat.lt_of_lt_of_le HP1.out.2.2.2 hbv.size
        have hrv := (World.row.new wr [.int .i64 dd, .int .i64 key, .bool on] 37).below hbv (by simp)
        obtain ⟨kv, hkv⟩ : ∃ kv, kv = T.victim.getD 0 := ⟨_, rfl⟩
        have hkv64 : In64 kv := by rw [hkv]; exact hP.good.victim64
        rw [← hkv]
        have hc := Drop_any kv _ hP.t hP.good hkv64
        rw [hP.g] at hc
        have HK := Lib.hid (And.intro hP (And.intro hO (And.intro hlt (And.intro hrv hkv64))))
        clear hV hbv hP hO hlt hrv hkv hkv64
        go_wp2_with fail
        refine hc.mono ?_
        rintro e w2 ⟨rfl, M2, T2, S2⟩
        have hP := HK.out.1
        obtain ⟨hR2, hA2⟩ := step_ref hP.ref hP.ap S2
        have hd := RDrop_rel kv w2 hR2 hP.rel hP.good hP.t.pnodup (Nat.le_trans hP.t.le S2.size)
        have hk2 := S2.block wr.heap.size HK.out.2.2.1 HK.out.2.1.1
        have HS := Lib.hid (And.intro S2 (And.intro T2 hk2))
        clear hc hP T2 S2 hR2 hA2 hk2
        go_wp2_with fail
        refine hd.mono ?_
        rintro e w4 ⟨rfl, v4, R4, P4, D4, hR4, hrel4, rs4, hc4e⟩
        have hk4 := (rs4.block wr.heap.size (Nat.lt_of_lt_of_le HK.out.2.2.1 HS.out.1.size) HK.out.2.1.2.1 HK.out.2.1.2.2).trans HS.out.2.2
        have HP2 := Lib.hid ((HK.out.1.step HS.out.2.1 HS.out.1 (HK.out.1.good.drop kv) hR4 hrel4 rs4 (Nat.le_trans (Nat.le_of_eq hc4e) HK.out.1.clk)).mono (n' := i + 1) (clk' := 2 * (i + 1)) (by omega) (by omega))
        obtain ⟨q0, q1, q2, qz⟩ := (row_same HK.out.2.2.2.1 hk4).three
        have hs := same_any key w4 HP2.out.t HP2.out.good HP2.out.ref HP2.out.rel
        rw [HP2.out.g] at hs
        clear hk4 hd hR4 hrel4 rs4 hc4e q0 q2 qz
        go_wp2_with fail
        refine Calls.pure_to hs ?_
        intro wz hbz
        have HZ := Lib.hid (HP2.out.below hbz)
        clear hbz hs
        go_wp2_with fail
        go_roundw
        case rel => exact ⟨i + 1, _, _, _, _, _, _, by omega, by go_num, HZ.out⟩
        case measure => simp [intOf] <;> omega
      · have hP := HP1.out.1.below ((Below.refl _ _).drew)
        refine wp_region_mix_exts (· = wr.heap.size) [] false (by kernel_rfl) (by kernel_rfl) ?_
        intro _
        repeat ((with_reducible refine wpMix_light ?hh ?_); (case hh => rfl); go_big_quiet_step (fail); (with_reducible refine wpQuiet_nil ?_))
        (with_reducible refine wpMix_heavy ?hh ?hw (fun K hK => ?_)); (case hh => rfl); (case hw => rfl)
        go_simp
        have hc := Add_any key _ hP.t hP.good
        rw [hP.g] at hc
        refine hc.mono ?_
        rintro e w2 ⟨rfl, M2, T2, S2⟩
        obtain ⟨hR2, hA2⟩ := step_ref hP.ref hP.ap S2
        have hk2 := S2.block wr.heap.size HP1.out.2.2.2 HP1.out.2.1.1
        clear hc
        refine hK.out _ _ (toExtS (fun b hb => by cases hb; exact hk2)) ?_
        clear hK K
        try simp only [Act.put, List.setIfInBounds_toArray, List.set_cons_zero, List.set_cons_succ]
        repeat ((with_reducible refine wpMix_light ?hh ?_); (case hh => rfl); go_big_quiet_step (fail); (with_reducible refine wpQuiet_nil ?_))
        (with_reducible refine wpMix_heavy ?hh ?hw (fun K hK => ?_)); (case hh => rfl); (case hw => rfl)
        go_simp
        have hd := RAdd_any key w2 hR2 hP.rel hP.good (by have := hP.clk; omega) (Nat.le_trans hP.t.le S2.size)
        refine hd.mono ?_
        rintro e w4 ⟨rfl, v4, R4, hR4, ⟨P4, D4, hrel4⟩, rs4, hc4⟩
        have hk4 := (rs4.block wr.heap.size (Nat.lt_of_lt_of_le HP1.out.2.2.2 S2.size) HP1.out.2.1.2.1 HP1.out.2.1.2.2).trans hk2
        refine hK.out _ _ (toExtS (fun b hb => by cases hb; exact hk4)) ?_
        clear hK K
        try simp only [Act.put, List.setIfInBounds_toArray, List.set_cons_zero, List.set_cons_succ]
        repeat ((with_reducible refine wpMix_light ?hh ?_); (case hh => rfl); go_big_quiet_step (fail); (with_reducible refine wpQuiet_nil ?_))
        refine wpMix_nil ?_
        have HP2 := Lib.hid ((hP.step T2 S2 (hP.good.add key HP1.out.2.2.1) hR4 hrel4 rs4 (Nat.le_trans hc4 (Nat.add_le_add_right hP.clk _))).mono (n' := i + 1) (clk' := 2 * (i + 1)) (by omega) (by omega))
        obtain ⟨q0, q1, q2, qz⟩ := (row_same (World.row.new wr [.int .i64 dd, .int .i64 key, .bool on] 37) hk4).three
        have hs := same_any key w4 HP2.out.t HP2.out.good HP2.out.ref HP2.out.rel
        rw [HP2.out.g] at hs
        clear hk4 hk2 hd hR2 hA2 hP T2 S2 hR4 hrel4 rs4 hc4 q0 q2 qz
        go_wp2_with fail
        refine Calls.pure_to hs ?_
        intro wz hbz
        have HZ := Lib.hid (HP2.out.below hbz)
        clear hbz hs
        go_wp2_with fail
        go_roundw
        case rel => exact ⟨i + 1, _, _, _, _, _, _, by omega, by go_num, HZ.out⟩
        case measure => simp [intOf] <;> omega
    · have HP := Lib.hid hP
      clear hP
      go_wp2_with fail
      go_returns
      exact ⟨rfl, HP.out.b⟩
theorem plays_walk (most dear : Int) (a : Option Addr) (len cap : Nat) (l : List (Int × Int × Bool)) (w : World) (hl : l.length = len) (hcap : len ≤ cap) (hna : a = none → len = 0 ∧ cap = 0) (hin : ∀ x ∈ l, In64 x.2.1)
    (hc : l = [] ∨ ∃ b o, a = some ⟨b, o, none⟩ ∧ ∀ i x, l[i]? = some x → ∀ j u, (act3 x)[j]? = some u → w.cell? ⟨b, o + i * 3 + j, none⟩ = some u) :
    Calls Try.prog 3 #[.int .i64 most, .int .i64 dear, .slice a len cap] w fun e w' => e = .returned (.bool true) ∧ Below w.heap.size w w' := by
  by_cases h : most < 1 ∨ 64 < most ∨ dear < 0 ∨ most ≤ dear
  · exact plays_no most dear a len cap w h
  · obtain ⟨m, rfl⟩ : ∃ m : Nat, most = (m : Int) := ⟨most.toNat, by omega⟩
    obtain ⟨d, rfl⟩ : ∃ d : Nat, dear = (d : Int) := ⟨dear.toNat, by omega⟩
    exact plays_yes m d a len cap l w (by omega) (by omega) (by omega) hl hcap hna hin hc
end Go.Proofs.Ytfbcgnehpkffeaa
