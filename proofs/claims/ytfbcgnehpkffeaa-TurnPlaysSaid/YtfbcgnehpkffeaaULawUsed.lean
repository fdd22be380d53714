/- TurnUsed: its walk. -/
import Derived.Test.YtfbcgnehpkffeaaURun
import Derived.Test.YtfbcgnehpkffeaaUIMap
namespace Go.Proofs.Ytfbcgnehpkffeaa
open Go Go.RowKit
set_option maxRecDepth 100000
variable {B n : Nat} {w : World} {M : TM} {T : TS}
/-- Behind a touch the key is the last one. -/
theorem touch_last (hg : Good T) (k : Int) (hk : T.has k = true) (hd : T.dear.contains k = false) : ∃ X, (T.touchT k).keys = X ++ [k] ∧ ((T.touchT k).dear.contains k = decide (0 < T.limit)) := by
  have hnd : k ∉ T.dear := by simpa using hd
  have e0 : (T.moved k).dear = T.dear ++ [k] := by show T.dear.erase k ++ [k] = _; rw [List.erase_of_not_mem hnd]
  unfold TS.touchT
  rw [if_pos hk]
  by_cases hlim : (T.moved k).limit < (T.moved k).dear.length
  · cases hc : T.dear with
    | nil =>
      rw [hc, List.nil_append] at e0
      rw [TS.fallT_yes e0 hlim]
      have hl0 : T.limit = 0 := by
        have : T.limit < (T.moved k).dear.length := hlim
        rw [e0] at this; simp at this; exact this
      refine ⟨T.plain.erase k, by show (T.plain.erase k ++ [k]) ++ [] = _; rw [List.append_nil], ?_⟩
      rw [hl0]; rfl
    | cons d ds =>
      rw [hc, List.cons_append] at e0
      rw [TS.fallT_yes e0 hlim]
      refine ⟨(T.moved k).plain ++ [d] ++ ds, by show ((T.moved k).plain ++ [d]) ++ (ds ++ [k]) = _; rw [List.append_assoc ((T.moved k).plain ++ [d])], ?_⟩
      have h1 := hg.dlen
      rw [hc] at h1
      have h2 : 0 < T.limit := by simp at h1; omega
      show (ds ++ [k]).contains k = _
      rw [decide_eq_true h2]; simp
  · rw [TS.fallT_no hlim]
    have h2 : 0 < T.limit := by
      have h3 : ¬ T.limit < (T.moved k).dear.length := hlim
      rw [e0] at h3; simp at h3; omega
    refine ⟨(T.moved k).plain ++ T.dear, by show (T.moved k).plain ++ (T.moved k).dear = _; rw [e0, List.append_assoc], ?_⟩
    rw [e0, decide_eq_true h2]; simp
theorem TurnAt.down {B' : Nat} (h : TurnAt B n w M T) (hB : B' ≤ B) : TurnAt B' n w M T := ⟨h.row, irow_mono h.o1 hB, irow_mono h.o2 hB, h.pm, h.gm, h.g1, h.g2, h.m1, h.m2, h.d12, Nat.le_trans hB h.bg, Nat.le_trans hB h.bm⟩
theorem victim_free {T : TS} {v : Int} (h : T.victim = some v) : v ∈ T.keys ∧ T.pins.contains v = false := by
  unfold TS.victim at h
  have h1 := List.mem_of_find?_eq_some h
  have h2 := List.find?_some h
  exact ⟨h1, by simpa using h2⟩
theorem mem_addTo (l : List Int) (k : Int) : (addTo l k).contains k = true := by
  unfold addTo
  split
  · next h => exact h
  · simp
/-- In a row without doubles the last key stands behind each other one. -/
theorem last_pos {X : List Int} {a b : Int} {f : Int → Int} (hb : b ∈ X ++ [a]) (hne : a ≠ b) (hf : ∀ j x, j < (X ++ [a]).length → (X ++ [a])[j]? = some x → f x = (j : Int)) : f b < f a := by
  have h1 := hf X.length a (by simp) (by simp)
  have h2 : b ∈ X := by
    rcases List.mem_append.1 hb with h | h
    · exact h
    · exact absurd (List.mem_singleton.1 h).symm hne
  obtain ⟨j, hj, e⟩ := List.getElem_of_mem h2
  have h3 := hf j b (by simp; omega) (by rw [List.getElem?_append_left hj, List.getElem?_eq_getElem hj, e])
  omega
set_option maxHeartbeats 4000000 in
theorem used_walk (x0 x1 y0 y1 : Int) (a : Option Addr) (len cap : Nat) (l : List (Int × Int × Bool)) (w : World) (h0 : In64 x0) (h1 : In64 x1) (hl : l.length = len) (hcap : len ≤ cap) (hna : a = none → len = 0 ∧ cap = 0)
    (hc : l = [] ∨ ∃ b o, a = some ⟨b, o, none⟩ ∧ ∀ i x, l[i]? = some x → ∀ j u, (act3 x)[j]? = some u → w.cell? ⟨b, o + i * 3 + j, none⟩ = some u) :
    Calls Try.prog 6 #[.agg #[.int .i64 x0, .int .i64 x1], .slice a len cap, .agg #[.int .i64 y0, .int .i64 y1]] w fun e w' => e = .returned (.bool true) ∧ Below w.heap.size w w' := by
  obtain ⟨most, hmost⟩ : ∃ most : Nat, (most : Int) = 1 + (max 0 x0) % 20 := ⟨(1 + (max 0 x0) % 20).toNat, by omega⟩
  obtain ⟨limit, hlimit⟩ : ∃ limit : Nat, (limit : Int) = (max 0 x1) % most := ⟨((max 0 x1) % most).toNat, Int.toNat_of_nonneg (Int.emod_nonneg _ (by omega))⟩
  have HML := Lib.hid (And.intro hmost hlimit)
  have HC := Lib.hid (And.intro hl (And.intro hcap (And.intro hna hc)))
  clear hmost hlimit hl hcap hna hc
  have ha31 := and31 y0
  have hb31 := and31 y1
  go_enter Try.func6, Try.ntmps6
  go_wp2_with fail
  have b1 : Below w.heap.size w ((w.alloc (.cells #[.int .i64 x0, .int .i64 x1] 45)).alloc (.cells #[.int .i64 y0, .int .i64 y1] 45)) := (by repeat' (first | (with_reducible exact Below.refl _ _) | (with_reducible assumption) | (with_reducible refine Below.setCell ?_ ?_ _) | (with_reducible refine Below.ext ?_ _ ?_) | (with_reducible refine Below.alloc ?_ ?_ _) | (with_reducible refine Below.drew ?_) | (with_reducible refine Below.drewN ?_ _) | (with_reducible exact Nat.le_refl _) | (dsimp only; omega) | (simp <;> omega)))
  have ry := World.row.new (w.alloc (.cells #[.int .i64 x0, .int .i64 x1] 45)) [.int .i64 y0, .int .i64 y1] 45
  refine (run_any x0 x1 a len cap l _ h0 h1 HC.out.1 HC.out.2.1 HC.out.2.2.1 ?hcells most limit HML.out.1 HML.out.2).mono ?_
  case hcells =>
    refine HC.out.2.2.2.imp id ?_
    rintro ⟨b, o, ha, hcell⟩
    exact ⟨b, o, ha, fun i x hx j u hu => (b1.cell (p := ⟨b, o + i * 3 + j, none⟩) (block_lt_of_cell (hcell i x hx j u hu))).trans (hcell i x hx j u hu)⟩
  rintro e w1 ⟨M, T, rfl, hT, hG, hmo, hli, hS, hb1⟩
  have B1 := b1.trans (hb1.mono b1.size)
  have ry1 := ry.below hb1 ry.lt
  have fy : ¬ M.foot (w.alloc (.cells #[.int .i64 x0, .int .i64 x1] 45)).heap.size := fun hf => by have := (hT.lts _ hf).1; simp at this; omega
  obtain ⟨Y, hY⟩ : ∃ Y, Y = (w.alloc (.cells #[.int .i64 x0, .int .i64 x1] 45)).heap.size := ⟨_, rfl⟩
  obtain ⟨wb, hwb⟩ : ∃ wb, wb = (w.alloc (.cells #[.int .i64 x0, .int .i64 x1] 45)).alloc (.cells #[.int .i64 y0, .int .i64 y1] 45) := ⟨_, rfl⟩
  rw [← hY] at ry1 fy
  rw [← hwb] at hT b1
  have hT := hT.down b1.size
  have hYe : w.heap.size + 1 = Y := by rw [hY]; simp
  have hbw := b1.size
  clear hwb hb1 ry b1 hY HC HML
  obtain ⟨c0, c1, cz⟩ := ry1.two
  simp only [hYe]
  go_wp2_with fail
  go_quiet (fail)
  obtain ⟨ka, hka⟩ : ∃ k, k = bits .and .i64 y0 31 := ⟨_, rfl⟩
  obtain ⟨kb, hkb⟩ : ∃ k, k = bits .and .i64 y1 31 := ⟨_, rfl⟩
  rw [← hka] at ha31
  rw [← hkb] at hb31
  simp only [← hka, ← hkb]
  clear hka hkb
  go_wp2_with fail
  refine (Has_any ka _ (hT.below' (by repeat' (first | (with_reducible exact Below.refl _ _) | (with_reducible assumption) | (with_reducible refine Below.setCell ?_ ?_ _) | (with_reducible refine Below.ext ?_ _ ?_) | (with_reducible refine Below.alloc ?_ ?_ _) | (with_reducible refine Below.drew ?_) | (with_reducible refine Below.drewN ?_ _) | (with_reducible exact Nat.le_refl _) | (dsimp only; omega) | (simp <;> omega))))).mono ?_
  rintro e wd ⟨rfl, hwd⟩
  have hbd : Below w1.heap.size w1 wd := hwd ▸ (by repeat' (first | (with_reducible exact Below.refl _ _) | (with_reducible assumption) | (with_reducible refine Below.setCell ?_ ?_ _) | (with_reducible refine Below.ext ?_ _ ?_) | (with_reducible refine Below.alloc ?_ ?_ _) | (with_reducible refine Below.drew ?_) | (with_reducible refine Below.drewN ?_ _) | (with_reducible exact Nat.le_refl _) | (dsimp only; omega) | (simp <;> omega)))
  have hTd := hT.below' hbd
  have Bd := B1.trans (hbd.mono B1.size)
  clear hT hbd B1 c0 c1 cz ry1 hwd
  obtain ⟨da, hda⟩ : ∃ d, d = T.dear.contains ka := ⟨_, rfl⟩
  obtain ⟨pa, hpa⟩ : ∃ d, d = (T.dear.contains ka || T.plain.contains ka) := ⟨_, rfl⟩
  rw [← hpa, ← hda]
  have HA := Lib.hid (And.intro hda hpa)
  clear hda hpa
  go_wp2_with fail
  refine (Has_any kb _ hTd).mono ?_
  rintro e w' ⟨rfl, rfl⟩
  obtain ⟨db, hdb⟩ : ∃ d, d = T.dear.contains kb := ⟨_, rfl⟩
  obtain ⟨pb, hpb⟩ : ∃ d, d = (T.dear.contains kb || T.plain.contains kb) := ⟨_, rfl⟩
  rw [← hpb, ← hdb]
  have HB := Lib.hid (And.intro hdb hpb)
  clear hdb hpb
  go_wp2_with fail
  refine Calls.pure_to (wakes_any _) ?_
  intro w2 hb2
  have hT2 := hTd.below' hb2
  have B2 := Bd.trans (hb2.mono Bd.size)
  clear hTd Bd
  have hcase : (ka ≠ kb ∧ pa = true ∧ pb = true ∧ da = false ∧ db = false) ∨ (ka = kb ∨ (ka ≠ kb ∧ pa = false) ∨ (ka ≠ kb ∧ pa = true ∧ pb = false) ∨ (ka ≠ kb ∧ pa = true ∧ pb = true ∧ da = true) ∨ (ka ≠ kb ∧ pa = true ∧ pb = true ∧ da = false ∧ db = true)) := by
    by_cases e : ka = kb
    · exact .inr (.inl e)
    · cases pa <;> cases pb <;> cases da <;> cases db <;> simp [e]
  refine hcase.elim ?_ ?_
  case refine_2 =>
    clear hcase
    rintro (rfl | ⟨hne, rfl⟩ | ⟨hne, rfl, rfl⟩ | ⟨hne, rfl, rfl, rfl⟩ | ⟨hne, rfl, rfl, rfl, rfl⟩)
    all_goals (
      go_wp2_with fail
      refine Calls.pure_to (wakes_any _) ?_
      intro w3 hb3
      go_wp2_with fail
      go_returns
      exact ⟨rfl, B2.trans (hb3.mono B2.size)⟩)
  clear hcase
  rintro ⟨hne, rfl, rfl, rfl, rfl⟩
  go_wp2_with fail
  have pA : T.has ka = true := HA.out.2.symm
  have hle2 := hT2.le
  refine (Touch_any ka _ hT2 hG).mono ?_
  rintro e w3 ⟨rfl, M3, hT3, st3⟩
  have B3 := st3.under hT2 hle2 B2
  have G3 := hG.touch ka
  have k3 : (T.touchT ka).has kb = true := (has_iff _ _).2 ((touch_perm hG ka).mem_iff.2 ((has_iff T kb).1 HB.out.2.symm))
  obtain ⟨X, HX, HD⟩ := touch_last hG ka pA HA.out.1.symm
  have hc := Pin_any kb true _ hT3 (by decide) ⟨by omega, by omega⟩
  rw [st3.g] at hc
  have hmg : M3.g = M.g := st3.g
  rw [pA]
  obtain ⟨T3, hT3e⟩ : ∃ T3, T3 = T.touchT ka := ⟨_, rfl⟩
  rw [← hT3e] at hT3 G3 k3 HX HD hc
  clear hT2 st3 B2 hT3e HA HB pA hG hS
  go_wp2_with fail
  have hle3 := hT3.le
  refine hc.mono ?_
  rintro e w4 ⟨rfl, hT4, st4⟩
  have B4 := st4.under hT3 hle3 B3
  have G4 := G3.pin kb true
  have e4 : T3.pinT kb true = { T3 with pins := addTo T3.pins kb } := by unfold TS.pinT; rw [if_pos k3]; rfl
  have kK : kb ∈ X ++ [ka] := by rw [← HX]; exact (has_iff T3 kb).1 k3
  rw [k3]
  obtain ⟨T4, hT4e⟩ : ∃ T4, T4 = T3.pinT kb true := ⟨_, rfl⟩
  rw [← hT4e] at hT4 G4 e4
  have p4 : T4.pins.contains kb = true := by rw [e4]; exact mem_addTo _ _
  have HX4 : T4.keys = X ++ [ka] := by rw [e4]; exact HX
  have HD4 : T4.dear.contains ka = decide (0 < T.limit) := by rw [e4]; exact HD
  rw [hli] at HD4
  have n4 : T4.keys.Nodup := G4.nodup
  have i4 : ∀ k ∈ T4.keys, In64 k := G4.in64
  rw [HX4] at n4 i4
  have l4 : (X ++ [ka]).length ≤ 64 := by
    rw [← HX4]
    have e1 := G4.len
    have e2 := G4.m64
    unfold TS.keys
    rw [List.length_append]; omega
  obtain ⟨L, hL⟩ : ∃ L, L = X ++ [ka] := ⟨_, rfl⟩
  rw [← hL] at n4 i4 l4 HX4 kK
  have HL := Lib.hid hL
  clear hL
  have hle4 := hT4.le
  have HP := Lib.hid (And.intro p4 (And.intro HX4 (And.intro HD4 (And.intro n4 (And.intro i4 kK)))))
  clear hc hT3 st4 B3 k3 HX HD G3 e4 kK hT4e p4 HX4 HD4 n4 i4
  have hmm := @run_makeMap Try.prog
  go_wp2_with fail
  have ba : Below w4.heap.size w4 (w4.alloc (.map #[] 0)) := (Below.refl _ _).alloc (Nat.le_refl _) _
  have ho := Order_any (w4.alloc (.map #[] 0)) (hT4.below' ba) G4
  rw [hmg, HP.out.2.1] at ho
  refine ho.mono ?_
  rintro e w5 ⟨⟨v, rfl, hv⟩, hb5⟩
  have hmp := (World.imap_made w4 Try.prog tI tI).same (hb5.block w4.heap.size (by simp))
  have b45 := ba.trans (hb5.mono ba.size)
  obtain ⟨mb, hmb⟩ : ∃ mb, mb = w4.heap.size := ⟨_, rfl⟩
  obtain ⟨q, hq⟩ : ∃ q, q = (w4.alloc (.map #[] 0)).heap.size := ⟨_, rfl⟩
  have hmq : mb < q := by rw [hmb, hq]; simp
  have hmw : w4.heap.size ≤ mb := by rw [hmb]; exact Nat.le_refl _
  rw [← hmb] at hmp
  rw [← hq] at hv
  simp only [← hmb]
  obtain ⟨a', c', rfl⟩ := irow_shape hv
  obtain ⟨m, hm⟩ : ∃ m, m = L.length := ⟨_, rfl⟩
  rw [← hm] at hv l4 ⊢
  have HM := Lib.hid hm
  have HT4 := Lib.hid (And.intro hT4 (And.intro G4 B4))
  clear ho hb5 ba hmb hq hm hT4 G4 B4 hmm
  go_wp2_with fail
  go_loopw [91] (fun x wr => ∃ (i : Nat) (f : Int → Int), i ≤ m ∧ x = .int .i64 i ∧ wr.imap Try.prog tI tI mb i f ∧ Below w4.heap.size w4 wr ∧ wr.irow q tI (.slice a' m c') L ∧ ∀ j x, j < i → L[j]? = some x → f x = (j : Int)) (fun x _ => m - (intOf x).toNat)
  case atStart => exact ⟨0, _, by omega, rfl, hmp, b45, hv, fun j x hj => by omega⟩
  case round =>
    clear hmp b45 hv
    obtain ⟨i, f, hi, rfl, hmp, hB, hv, hall⟩ := hrel
    have HA := Lib.hid hall
    clear hall
    by_cases hlt : i < m
    · have hil : i < L.length := by rw [← HM.out]; exact hlt
      obtain ⟨y, hy⟩ : ∃ y, L[i]? = some y := ⟨L[i], List.getElem?_eq_getElem hil⟩
      obtain ⟨g1, cap1, ev, hqg, hg1, hg2, hg3, hcell⟩ := hv.form.resolve_left (fun e => by rw [e.2] at hil; simp at hil)
      have cy := hcell i y hy
      have hyin := HP.out.2.2.2.2.1 y (List.mem_of_getElem? hy)
      obtain ⟨rfl, hmL, rfl⟩ := Value.slice.inj ev
      clear hmL
      have HY := Lib.hid (And.intro hy (And.intro hyin (And.intro hqg (And.intro hB hv))))
      have hm1 := hmp
      clear hcell ev hy hyin hil hqg hB hv hg1 hg2 hg3
      go_wp2_with (at_mapUpdate; refine wpList_mapUpdate_im rfl _ _ _ 55 rfl Try.underlying3 Try.underlying55 Try.underlying3 rfl hmp (by omega) y i rfl HY.out.2.1 rfl ⟨by omega, by omega⟩ ?_; intro w6 hmp6 hg6)
      go_roundw
      case rel =>
        refine ⟨i + 1, _, by omega, by go_num, hmp6, HY.out.2.2.2.1.trans ⟨hg6.os, hg6.tape, hg6.output, hg6.size, fun k hk => hg6.block k (Nat.lt_of_lt_of_le hk HY.out.2.2.2.1.size) (fun e => by have := Option.some.inj e; omega)⟩, irow_same HY.out.2.2.2.2 fun k hk => hg6.block k (HY.out.2.2.2.2.lt k hk).2 (fun e => by have h1 := (HY.out.2.2.2.2.lt k hk).1; have := Option.some.inj e; omega), fun j x hj hx => ?_⟩
        by_cases e : j = i
        · subst e
          have := HY.out.1.symm.trans hx
          cases this
          exact if_pos rfl
        · have hxy : x ≠ y := by
            intro e2
            subst e2
            obtain ⟨hj1, e3⟩ := List.getElem?_eq_some_iff.1 hx
            obtain ⟨hj2, e4⟩ := List.getElem?_eq_some_iff.1 HY.out.1
            exact e ((List.getElem_inj HP.out.2.2.2.1).1 (e3.trans e4.symm))
          exact (if_neg hxy).trans (HA.out j x (by omega) hx)
      case measure => simp [intOf] <;> omega
    · have hT4r := HT4.out.1.below' hB
      have hcV := Victim_any wr hT4r HT4.out.2.1
      rw [hmg] at hcV
      have hfab : f kb < f ka := by
        refine last_pos (X := X) (by rw [← HL.out]; exact HP.out.2.2.2.2.2) hne fun j x hj hx => ?_
        rw [← HL.out] at hj hx
        exact HA.out j x (by have := HM.out; omega) hx
      have HF := Lib.hid (And.intro hfab (And.intro hT4r (And.intro hmp hB)))
      have hvf : ∀ v, T4.victim = some v → v ≠ kb := fun v h e => by
        have h2 := (victim_free h).2
        rw [e, HP.out.1] at h2
        cases h2
      have HVF := Lib.hid hvf
      clear hfab hT4r hmp hB hv hvf
      go_wp2_with fail
      refine hcV.mono ?_
      rintro e w6 ⟨rfl, hb6⟩
      have hT6 := HF.out.2.1.below' hb6
      have hcH := Has_any ka w6 hT6
      rw [hmg, HP.out.2.2.1] at hcH
      have hm6 := HF.out.2.2.1.same (hb6.block mb HF.out.2.2.1.lt)
      have B6 : Below w.heap.size w w6 := (HT4.out.2.2.trans (HF.out.2.2.2.mono hle4)).trans (hb6.mono (Nat.le_trans hle4 HF.out.2.2.2.size))
      have hfab := HF.out.1
      have ia : In64 ka := in64_small (by omega) (by omega)
      have ib : In64 kb := in64_small (by omega) (by omega)
      obtain ⟨pp, hpp⟩ : ∃ pp, pp = (decide (0 < limit) || T4.plain.contains ka) := ⟨_, rfl⟩
      rw [← hpp] at hcH
      have hmz : ∀ w, (zeroValue 3).run Try.prog w = .ok (.int .i64 0) w := fun w => by kernel_rfl
      have HZ := Lib.hid hmz
      clear hcV hb6 hT6 hpp hmz
      obtain ⟨sv, hsv⟩ : ∃ sv, sv = T4.victim := ⟨_, rfl⟩
      rw [← hsv]
      have hsn : ∀ v, sv = some v → v ≠ kb := fun v h => HVF.out v (hsv.symm.trans h)
      clear hsv
      obtain ⟨dl, hdl⟩ : ∃ dl, dl = decide (0 < limit) := ⟨_, rfl⟩
      rw [← hdl] at hcH
      have hdl2 : dl = decide (0 < (limit : Int)) := by rw [hdl]; simp
      clear hdl
      cases sv with
      | none =>
        go_wp2_with fail
        refine hcH.mono ?_
        rintro e w7 ⟨rfl, rfl⟩
        go_wp2_with (at_lookup; refine wpList_lookup_im rfl _ _ 55 rfl Try.underlying3 Try.underlying55 Try.underlying3 HZ.out rfl hm6 _ rfl (by first | exact ia | exact ib) _ rfl ?_)
        go_returns
        exact ⟨rfl, B6⟩
      | some v =>
        have hvk := hsn v rfl
        clear hsn
        go_wp2_with fail
        refine hcH.mono ?_
        rintro e w7 ⟨rfl, rfl⟩
        go_wp2_with (at_lookup; refine wpList_lookup_im rfl _ _ 55 rfl Try.underlying3 Try.underlying55 Try.underlying3 HZ.out rfl hm6 _ rfl (by first | exact ia | exact ib) _ rfl ?_)
        go_returns
        exact ⟨by show Ending.returned (Value.bool (v != kb)) = _; rw [bne_iff_ne.2 hvk], B6⟩
end Go.Proofs.Ytfbcgnehpkffeaa
