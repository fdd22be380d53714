/- The laws' 'same': its contract. -/
import Derived.Test.YtfbcgnehpkffeaaURefOrder
import Derived.Test.YtfbcgnehpkffeaaMix
namespace Go.Proofs.Ytfbcgnehpkffeaa
open Go Go.RowKit
set_option maxRecDepth 100000
variable {B C r n : Nat} {w w' w1 : World} {v v' v'' : Value} {R : RS} {M : TM} {T : TS} {P D : List RK}
set_option maxHeartbeats 4000000 in
theorem same_any (key : Int) (w : World) (hT : TurnAt B n w M T) (hg : Good T) (hR : RefAt C w r v R) (hrel : Rel T R P D) :
    Calls Try.prog 21 #[pt M.g, pt r, .int .i64 key] w fun e w' => e = .returned (.bool true) ∧ Below w.heap.size w w' := by
  have hl := hrel.len64 hg
  have HG := Lib.hid (And.intro hg hrel)
  obtain ⟨c, hc⟩ : ∃ c, c = T.plain.length + T.dear.length := ⟨_, rfl⟩
  have hm : R.ks.length = c := by rw [hc]; exact hrel.len
  obtain ⟨d, hd⟩ : ∃ d, d = T.dear.length := ⟨_, rfl⟩
  have hdc : d ≤ 64 := by rw [hd]; omega
  have hds : (R.ks.filter RK.dear).length = d := by rw [hd]; exact hrel.dears
  obtain ⟨vv, hvv⟩ : ∃ vv, vv = T.victim.getD 0 := ⟨_, rfl⟩
  obtain ⟨ob, hob⟩ : ∃ ob, ob = T.victim.isSome := ⟨_, rfl⟩
  obtain ⟨mo, hmo⟩ : ∃ mo, mo = T.most := ⟨_, rfl⟩
  have hmo64 : mo ≤ 64 := by rw [hmo]; exact hg.m64
  have hRm : R.most = mo := by rw [hmo]; exact hrel.mo.symm
  have h1 := Len_any w hT hg
  rw [← hc, ← hd] at h1
  rw [hm] at hl
  have HN := Lib.hid (And.intro hc (And.intro hd (And.intro hm (And.intro hds (And.intro hvv (And.intro hob (And.intro hmo hRm)))))))
  have H0 := Lib.hid (And.intro hT hR)
  clear hc hd hm hds hvv hob hmo hRm hg hrel hT hR
  go_enter Try.func21, Try.ntmps21
  go_wp2_with fail
  refine Calls.pure_to h1 ?_
  intro w1 hb1
  have H1 := Lib.hid (And.intro (H0.out.1.below' hb1) (And.intro (H0.out.2.below hb1) hb1))
  have h2 := Victim_any w1 H1.out.1 HG.out.1
  rw [← HN.out.2.2.2.2.1, ← HN.out.2.2.2.2.2.1] at h2
  clear h1 hb1
  go_wp2_with fail
  refine Calls.pure_to h2 ?_
  intro w2 hb2
  have H2 := Lib.hid (And.intro (H1.out.1.below' hb2) (And.intro (H1.out.2.1.below hb2) (H1.out.2.2.trans (hb2.mono H1.out.2.2.size))))
  have h3 := RVictim_any w2 H2.out.2.1 HG.out.2 HG.out.1
  rw [← HN.out.2.2.2.2.1, ← HN.out.2.2.2.2.2.1] at h3
  clear h2 hb2 H1
  go_wp2_with fail
  refine Calls.pure_to h3 ?_
  intro w3 hb3
  have H3 := Lib.hid (And.intro (H2.out.1.below' hb3) (And.intro (H2.out.2.1.below hb3) (H2.out.2.2.trans (hb3.mono H2.out.2.2.size))))
  have h4 := Has_any key w3 H3.out.1
  obtain ⟨hk, hhk⟩ : ∃ hk, hk = T.has key := ⟨_, rfl⟩
  obtain ⟨dk, hdk⟩ : ∃ dk, dk = T.dear.contains key := ⟨_, rfl⟩
  rw [show (T.dear.contains key || T.plain.contains key) = T.has key from rfl, ← hhk, ← hdk] at h4
  have HKD := Lib.hid (And.intro hhk hdk)
  clear h3 hb3 H2 hhk hdk
  go_wp2_with fail
  refine h4.mono ?_
  rintro e w4 ⟨rfl, rfl⟩
  have h5 := Find_any key w3 H3.out.2.1 (by rw [HN.out.2.2.1]; omega)
  clear h4
  go_wp2_with fail
  refine h5.mono ?_
  rintro e w4 ⟨⟨q, rfl, hq⟩, rfl⟩
  have hq2 := HG.out.2.find hq
  obtain ⟨c0, c1, c2, c3, cz⟩ := H3.out.2.1.row.four
  have hrl := H3.out.2.1.row.lt
  obtain ⟨a, cp, hv⟩ := H3.out.2.1.kr.shape
  rw [HN.out.2.2.1] at hv
  subst hv
  have hK64 : T.keys.length ≤ 1000 := by rw [keys_len, ← HN.out.1]; omega
  have hDr : Hid (∀ wq, Below w3.heap.size w3 wq → Calls Try.prog 30 #[pt r] wq fun e w' => e = .returned (.int .i64 (d : Int)) ∧ wq = w') := fun wq hq => by
    have := Dear_any wq (H3.out.2.1.below hq) (by rw [HN.out.2.2.1]; omega)
    rw [HN.out.2.2.2.1] at this; exact this
  have hFu : Hid (∀ wq, Below w3.heap.size w3 wq → Calls Try.prog 14 #[pt M.g] wq fun e w' => e = .returned (.bool (decide (mo ≤ c))) ∧ Below wq.heap.size wq w') := fun wq hq => by
    have := Full_any wq (H3.out.1.below' hq) HG.out.1
    rw [← HN.out.1, ← HN.out.2.2.2.2.2.2.1] at this; exact this
  have hOr : Hid (∀ wq, Below w3.heap.size w3 wq → Calls Try.prog 15 #[pt M.g] wq fun e w' => (∃ v, e = .returned v ∧ w'.irow wq.heap.size tI v T.keys) ∧ Below wq.heap.size wq w') := fun wq hq => Order_any wq (H3.out.1.below' hq) HG.out.1
  have hRo : Hid (∀ wq, Below w3.heap.size w3 wq → Calls Try.prog 33 #[pt r] wq fun e w' => (∃ v, e = .returned v ∧ w'.irow wq.heap.size tI v T.keys) ∧ Below wq.heap.size wq w') := fun wq hq => by
    have := ROrder_any wq (H3.out.2.1.below hq) HG.out.2.srt (by rw [HN.out.2.2.1]; omega)
    rw [← HG.out.2.keys] at this; exact this
  rw [HN.out.2.2.2.2.2.2.2] at c0
  obtain ⟨fb, hfb⟩ : ∃ fb, fb = decide (mo ≤ c) := ⟨_, rfl⟩
  rw [← hfb] at hFu
  have hfN : (mo ≤ c) = (fb = true) := by rw [hfb]; simp
  have hfI : ((mo : Int) ≤ (c : Int)) = (fb = true) := by rw [← hfN]; simp
  have HFB := Lib.hid (And.intro hfN hfI)
  clear c1 c3 cz hfb h5 hq hfN hfI
  rcases hq2 with ⟨rfl, hh⟩ | ⟨i, x, rfl, hi, he, hh, hd⟩
  · have hkf : hk = false := HKD.out.1.trans hh
    have hdf : dk = false := by
      rw [HKD.out.2]
      have h9 := hh
      unfold TS.has at h9
      cases e : T.dear.contains key with
      | false => rfl
      | true => rw [e] at h9; cases h9
    subst hkf
    subst hdf
    have hS : Hid (∀ wq, Below w3.heap.size w3 wq → wq.cell? ⟨r, 0, none⟩ = some (.int .i64 (mo : Int)) ∧ wq.cell? ⟨r, 2, none⟩ = some (.slice a c cp)) := fun wq hq => ⟨(hq.cell (p := ⟨r, 0, none⟩) hrl).trans c0, (hq.cell (p := ⟨r, 2, none⟩) hrl).trans c2⟩
    clear hh
    have hq1 : ((0 : Int) ≤ -1) = False := by decide
    have hq2 : decide ((0 : Int) ≤ -1) = false := by decide
    have hB0 : w3.heap.size ≤ w3.heap.size := Nat.le_refl _
    obtain ⟨hfN, hfI⟩ := HFB.out
    cases fb
    all_goals (
    simp only [Bool.false_eq_true] at hfN hfI
    go_wp2_with fail
    simp only [List.append_eq, List.cons_append, List.nil_append]
    refine wp_region_mix_ext w3.heap.size [] false hB0 (by kernel_rfl) (by kernel_rfl) ?_
    intro _
    repeat ((with_reducible refine wpMix_light ?hh ?_); (case hh => rfl); go_big_quiet_step (fail); (with_reducible refine wpQuiet_nil ?_))
    (with_reducible refine wpMix_heavy ?hh ?hw (fun K hK => ?_)); (case hh => rfl); (case hw => rfl)
    go_simp
    refine (hDr.out _ ((Below.refl _ _).drew)).mono ?_
    rintro e wq ⟨rfl, rfl⟩
    refine hK.out _ _ (Below.toExt ((Below.refl _ _).drew) hB0) ?_
    clear hK K
    try simp only [Act.put, List.setIfInBounds_toArray, List.set_cons_zero, List.set_cons_succ]
    repeat ((with_reducible refine wpMix_light ?hh ?_); (case hh => rfl); go_big_quiet_step (fail); (with_reducible refine wpQuiet_nil ?_))
    (with_reducible refine wpMix_heavy ?hh ?hw (fun K hK => ?_)); (case hh => rfl); (case hw => rfl)
    go_simp
    refine (hFu.out _ ((Below.refl _ _).drew)).mono ?_
    rintro e wA ⟨rfl, hbA⟩
    have hA1 : Below w3.heap.size w3 wA := ((Below.refl _ _).drew).trans (hbA.mono (Nat.le_refl _))
    refine hK.out _ _ (Below.toExt hA1 hB0) ?_
    clear hK K
    try simp only [Act.put, List.setIfInBounds_toArray, List.set_cons_zero, List.set_cons_succ]
    repeat ((with_reducible refine wpMix_light ?hh ?_); (case hh => rfl); go_big_quiet_step (fail); (with_reducible refine wpQuiet_nil ?_))
    (with_reducible refine wpMix_heavy ?hh ?hw (fun K hK => ?_)); (case hh => rfl); (case hw => rfl)
    go_simp
    refine (hOr.out _ hA1).mono ?_
    rintro e wB ⟨⟨vB, rfl, hvB⟩, hbB⟩
    have hB1 : Below w3.heap.size w3 wB := hA1.trans (hbB.mono hA1.size)
    refine hK.out _ _ (Below.toExt hB1 hB0) ?_
    clear hK K
    try simp only [Act.put, List.setIfInBounds_toArray, List.set_cons_zero, List.set_cons_succ]
    repeat ((with_reducible refine wpMix_light ?hh ?_); (case hh => rfl); go_big_quiet_step (fail); (with_reducible refine wpQuiet_nil ?_))
    (with_reducible refine wpMix_heavy ?hh ?hw (fun K hK => ?_)); (case hh => rfl); (case hw => rfl)
    go_simp
    refine (hRo.out _ hB1).mono ?_
    rintro e wC ⟨⟨vC, rfl, hvC⟩, hbC⟩
    have hC1 : Below w3.heap.size w3 wC := hB1.trans (hbC.mono hB1.size)
    refine hK.out _ _ (Below.toExt hC1 hB0) ?_
    clear hK K
    try simp only [Act.put, List.setIfInBounds_toArray, List.set_cons_zero, List.set_cons_succ]
    repeat ((with_reducible refine wpMix_light ?hh ?_); (case hh => rfl); go_big_quiet_step (fail); (with_reducible refine wpQuiet_nil ?_))
    (with_reducible refine wpMix_heavy ?hh ?hw (fun K hK => ?_)); (case hh => rfl); (case hw => rfl)
    go_simp
    refine (equal_any _ (irow_rd (irow_below hvB hbC)) (irow_rd hvC) hK64).mono ?_
    rintro e wE ⟨rfl, hbE⟩
    have hE1 : Below w3.heap.size w3 wE := hC1.trans (hbE.mono hC1.size)
    refine hK.out _ _ (Below.toExt hE1 hB0) ?_
    clear hK K
    try simp only [Act.put, List.setIfInBounds_toArray, List.set_cons_zero, List.set_cons_succ]
    repeat ((with_reducible refine wpMix_light ?hh ?_); (case hh => rfl); go_big_quiet_step (fail); (with_reducible refine wpQuiet_nil ?_))
    refine wpMix_nil ?_
    go_wp2_with fail
    go_returns
    exact ⟨rfl, H3.out.2.2.trans (hE1.mono H3.out.2.2.size)⟩)
  · obtain ⟨g, c', ev, hBg, hgl, d0, d1, d2, d3, dz⟩ := H3.out.2.1.kr.at hi
    obtain ⟨e1, e2, e3⟩ := Value.slice.inj ev
    subst e1
    subst e3
    clear e2
    have hkf : hk = true := HKD.out.1.trans hh
    have hdf : dk = x.dear := HKD.out.2.trans hd
    subst hkf
    subst hdf
    have hic : i < c := by rw [← HN.out.2.2.1]; exact (List.getElem?_eq_some_iff.1 hi).1
    clear hh hd ev d0 d2 d3 dz hBg hi he
    have hB0 : w3.heap.size ≤ w3.heap.size := Nat.le_refl _
    obtain ⟨hfN, hfI⟩ := HFB.out
    cases hxd : x.dear
    all_goals (
    rw [hxd] at d1
    clear hxd
    cases fb
    all_goals (
    simp only [Bool.false_eq_true] at hfN hfI
    go_wp2_with fail
    simp only [List.append_eq, List.cons_append, List.nil_append]
    refine wp_region_mix_ext w3.heap.size [] false hB0 (by kernel_rfl) (by kernel_rfl) ?_
    intro _
    repeat ((with_reducible refine wpMix_light ?hh ?_); (case hh => rfl); go_big_quiet_step (fail); (with_reducible refine wpQuiet_nil ?_))
    (with_reducible refine wpMix_heavy ?hh ?hw (fun K hK => ?_)); (case hh => rfl); (case hw => rfl)
    go_simp
    refine (hDr.out _ ((Below.refl _ _).drew)).mono ?_
    rintro e wq ⟨rfl, rfl⟩
    refine hK.out _ _ (Below.toExt ((Below.refl _ _).drew) hB0) ?_
    clear hK K
    try simp only [Act.put, List.setIfInBounds_toArray, List.set_cons_zero, List.set_cons_succ]
    repeat ((with_reducible refine wpMix_light ?hh ?_); (case hh => rfl); go_big_quiet_step (fail); (with_reducible refine wpQuiet_nil ?_))
    (with_reducible refine wpMix_heavy ?hh ?hw (fun K hK => ?_)); (case hh => rfl); (case hw => rfl)
    go_simp
    refine (hFu.out _ ((Below.refl _ _).drew)).mono ?_
    rintro e wA ⟨rfl, hbA⟩
    have hA1 : Below w3.heap.size w3 wA := ((Below.refl _ _).drew).trans (hbA.mono (Nat.le_refl _))
    refine hK.out _ _ (Below.toExt hA1 hB0) ?_
    clear hK K
    try simp only [Act.put, List.setIfInBounds_toArray, List.set_cons_zero, List.set_cons_succ]
    repeat ((with_reducible refine wpMix_light ?hh ?_); (case hh => rfl); go_big_quiet_step (fail); (with_reducible refine wpQuiet_nil ?_))
    (with_reducible refine wpMix_heavy ?hh ?hw (fun K hK => ?_)); (case hh => rfl); (case hw => rfl)
    go_simp
    refine (hOr.out _ hA1).mono ?_
    rintro e wB ⟨⟨vB, rfl, hvB⟩, hbB⟩
    have hB1 : Below w3.heap.size w3 wB := hA1.trans (hbB.mono hA1.size)
    refine hK.out _ _ (Below.toExt hB1 hB0) ?_
    clear hK K
    try simp only [Act.put, List.setIfInBounds_toArray, List.set_cons_zero, List.set_cons_succ]
    repeat ((with_reducible refine wpMix_light ?hh ?_); (case hh => rfl); go_big_quiet_step (fail); (with_reducible refine wpQuiet_nil ?_))
    (with_reducible refine wpMix_heavy ?hh ?hw (fun K hK => ?_)); (case hh => rfl); (case hw => rfl)
    go_simp
    refine (hRo.out _ hB1).mono ?_
    rintro e wC ⟨⟨vC, rfl, hvC⟩, hbC⟩
    have hC1 : Below w3.heap.size w3 wC := hB1.trans (hbC.mono hB1.size)
    refine hK.out _ _ (Below.toExt hC1 hB0) ?_
    clear hK K
    try simp only [Act.put, List.setIfInBounds_toArray, List.set_cons_zero, List.set_cons_succ]
    repeat ((with_reducible refine wpMix_light ?hh ?_); (case hh => rfl); go_big_quiet_step (fail); (with_reducible refine wpQuiet_nil ?_))
    (with_reducible refine wpMix_heavy ?hh ?hw (fun K hK => ?_)); (case hh => rfl); (case hw => rfl)
    go_simp
    refine (equal_any _ (irow_rd (irow_below hvB hbC)) (irow_rd hvC) hK64).mono ?_
    rintro e wE ⟨rfl, hbE⟩
    have hE1 : Below w3.heap.size w3 wE := hC1.trans (hbE.mono hC1.size)
    refine hK.out _ _ (Below.toExt hE1 hB0) ?_
    clear hK K
    try simp only [Act.put, List.setIfInBounds_toArray, List.set_cons_zero, List.set_cons_succ]
    repeat ((with_reducible refine wpMix_light ?hh ?_); (case hh => rfl); go_big_quiet_step (fail); (with_reducible refine wpQuiet_nil ?_))
    refine wpMix_nil ?_
    go_wp2_with fail
    go_returns
    exact ⟨rfl, H3.out.2.2.trans (hE1.mono H3.out.2.2.size)⟩)
    )
end Go.Proofs.Ytfbcgnehpkffeaa
