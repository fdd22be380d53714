/- TurnOnce: its walk. -/
import Derived.Test.YtfbcgnehpkffeaaULawUsed
namespace Go.Proofs.Ytfbcgnehpkffeaa
open Go Go.RowKit
set_option maxRecDepth 100000
variable {B n : Nat} {w w' : World} {M : TM} {T : TS}
theorem TurnAt.keep (h : TurnAt B n w M T) (hs : ∀ k, M.foot k → w'.heap[k]? = w.heap[k]?) : TurnAt B n w' M T :=
  ⟨by have := h.row; unfold World.row at *; rw [hs M.g (.inl rfl)]; exact this, irow_same h.o1 fun k hk => hs k (.inr (.inr (.inl hk))), irow_same h.o2 fun k hk => hs k (.inr (.inr (.inr hk))), h.pm.same (hs M.m (.inr (.inl rfl))), h.gm, h.g1, h.g2, h.m1, h.m2, h.d12, h.bg, h.bm⟩
theorem TurnAt.grown {b : Nat} (h : TurnAt B n w M T) (hg : w.grownBy w' (some b)) (hb : ¬ M.foot b) : TurnAt B n w' M T :=
  h.keep fun k hk => hg.block k (h.lts k hk).2 fun e => hb (Option.some.inj e ▸ hk)
theorem below_grown {b : Nat} {u : World} (h : Below B u w) (hg : w.grownBy w' (some b)) (hb : B ≤ b) (hB : B ≤ w.heap.size) : Below B u w' :=
  h.trans ⟨hg.os, hg.tape, hg.output, hg.size, fun k hk => hg.block k (Nat.lt_of_lt_of_le hk hB) fun e => by have := Option.some.inj e; omega⟩
theorem take_add {K : List Int} {i : Nat} {y : Int} (hn : K.Nodup) (hy : K[i]? = some y) : (K.take i).contains y = false ∧ addTo (K.take i) y = K.take (i + 1) := by
  have h1 : (K.take i).contains y = false := by
    rw [List.contains_eq_mem, decide_eq_false_iff_not]
    intro hm
    obtain ⟨j, hj, e⟩ := List.getElem_of_mem hm
    obtain ⟨hi, e2⟩ := List.getElem?_eq_some_iff.1 hy
    rw [List.getElem_take] at e
    have hj2 : j < i := by rw [List.length_take] at hj; omega
    have := (List.getElem_inj hn).1 (e.trans e2.symm)
    omega
  refine ⟨h1, ?_⟩
  unfold addTo
  rw [h1, List.take_add_one, hy]
  rfl
theorem bmap_len {P : Program} {t k e ty : TypeId} {b : Nat} {L : List Int} (ht : P.underlying t = some (.map k e)) (h : w.bmap P k e b n L) : (Builtin.len_ #[t] ty #[.map (some b)]).run P w = .ok (.int .i64 (L.length : Int)) w := by
  obtain ⟨D, hown, hB⟩ := h
  rw [hown.len ht ty, hB.size]
theorem drop_keys (hg : Good T) (k : Int) : (T.dropT k).keys = T.keys.erase k := by
  show T.plain.erase k ++ T.dear.erase k = (T.plain ++ T.dear).erase k
  rw [List.erase_append]
  split
  · next h =>
    have h2 : k ∉ T.dear := fun h2 => (List.nodup_append.1 hg.nodup).2.2 k (by simpa using h) k h2 rfl
    rw [List.erase_of_not_mem h2]
  · next h => rw [List.erase_of_not_mem (by simpa using h)]
theorem victim_nil (h : T.keys = []) : T.victim = none := by unfold TS.victim; rw [h]; rfl
theorem keys_len (T : TS) : T.keys.length = T.plain.length + T.dear.length := by unfold TS.keys; exact List.length_append
set_option maxHeartbeats 4000000 in
theorem once_walk (x0 x1 : Int) (a : Option Addr) (len cap : Nat) (l : List (Int × Int × Bool)) (w : World) (h0 : In64 x0) (h1 : In64 x1) (hl : l.length = len) (hcap : len ≤ cap) (hna : a = none → len = 0 ∧ cap = 0)
    (hc : l = [] ∨ ∃ b o, a = some ⟨b, o, none⟩ ∧ ∀ i x, l[i]? = some x → ∀ j u, (act3 x)[j]? = some u → w.cell? ⟨b, o + i * 3 + j, none⟩ = some u) :
    Calls Try.prog 4 #[.agg #[.int .i64 x0, .int .i64 x1], .slice a len cap] w fun e w' => e = .returned (.bool true) ∧ Below w.heap.size w w' := by
  obtain ⟨most, hmost⟩ : ∃ most : Nat, (most : Int) = 1 + (max 0 x0) % 20 := ⟨(1 + (max 0 x0) % 20).toNat, by omega⟩
  obtain ⟨limit, hlimit⟩ : ∃ limit : Nat, (limit : Int) = (max 0 x1) % most := ⟨((max 0 x1) % most).toNat, Int.toNat_of_nonneg (Int.emod_nonneg _ (by omega))⟩
  have HML := Lib.hid (And.intro hmost hlimit)
  have HC := Lib.hid (And.intro hl (And.intro hcap (And.intro hna hc)))
  clear hmost hlimit hl hcap hna hc
  go_enter Try.func4, Try.ntmps4
  go_wp2_with fail
  have b1 : Below w.heap.size w (w.alloc (.cells #[.int .i64 x0, .int .i64 x1] 45)) := (by repeat' (first | (with_reducible exact Below.refl _ _) | (with_reducible assumption) | (with_reducible refine Below.setCell ?_ ?_ _) | (with_reducible refine Below.ext ?_ _ ?_) | (with_reducible refine Below.alloc ?_ ?_ _) | (with_reducible refine Below.drew ?_) | (with_reducible refine Below.drewN ?_ _) | (with_reducible exact Nat.le_refl _) | (dsimp only; omega) | (simp <;> omega)))
  have rx := World.row.new w [.int .i64 x0, .int .i64 x1] 45
  refine (run_any x0 x1 a len cap l _ h0 h1 HC.out.1 HC.out.2.1 HC.out.2.2.1 ?hcells most limit HML.out.1 HML.out.2).mono ?_
  case hcells =>
    refine HC.out.2.2.2.imp id ?_
    rintro ⟨b, o, ha, hcell⟩
    exact ⟨b, o, ha, fun i x hx j u hu => (b1.cell (p := ⟨b, o + i * 3 + j, none⟩) (block_lt_of_cell (hcell i x hx j u hu))).trans (hcell i x hx j u hu)⟩
  rintro e w1 ⟨M, T, rfl, hT, hG, hmo, hli, hS, hb1⟩
  have B1 := b1.trans (hb1.mono b1.size)
  have rx1 := rx.below hb1 rx.lt
  have hT := hT.down b1.size
  obtain ⟨g, hgM⟩ : ∃ g, M.g = g := ⟨_, rfl⟩
  obtain ⟨z0, hz0⟩ : ∃ z0, max 0 x0 = z0 := ⟨_, rfl⟩
  have hzz0 : 0 ≤ z0 := by omega
  have em : 1 + z0 % 20 = (most : Int) := by rw [← hz0]; exact HML.out.1.symm
  have hL1 := Len_any w1 hT hG
  obtain ⟨c, hc⟩ : ∃ c, c = T.plain.length + T.dear.length := ⟨_, rfl⟩
  rw [← hc] at hL1
  obtain ⟨d, hd⟩ : ∃ d, d = T.dear.length := ⟨_, rfl⟩
  rw [← hd] at hL1
  have hcm : c ≤ most := by rw [hc, ← hmo]; exact hG.len
  have hdl : d ≤ limit := by rw [hd, ← hli]; exact hG.dlen
  have hm20 : most ≤ 20 := by omega
  have f1 : (limit < d) = False := eq_false (by omega)
  have f2 : (most < c) = False := eq_false (by omega)
  have hKc : T.keys.length = c := by rw [hc]; exact keys_len T
  have hKn : T.keys.Nodup := hG.nodup
  have hKi : ∀ k ∈ T.keys, In64 k := hG.in64
  rw [hgM] at hL1 ⊢
  clear b1 rx hb1 hc hd hmo hli hS HML HC
  go_wp2_with fail
  refine Calls.pure_to hL1 ?_
  intro w2 hb2
  have hT2 := hT.below' hb2
  have rx2 := rx1.below hb2 rx1.lt
  have B2 := B1.trans (hb2.mono B1.size)
  clear hL1 hT rx1 B1 hb2
  go_wp2_with fail
  refine Calls.pure_to (wakes_any _) ?_
  intro w3 hb3
  have hT3 := hT2.below' hb3
  have rx3 := rx2.below hb3 rx2.lt
  have B3 := B2.trans (hb3.mono B2.size)
  obtain ⟨c0, c1, cz⟩ := rx3.two
  have hO := Order_any w3 hT3 hG
  obtain ⟨K, hK⟩ : ∃ K, K = T.keys := ⟨_, rfl⟩
  rw [hgM, ← hK] at hO
  rw [← hK] at hKc hKn hKi
  have HK := Lib.hid (And.intro hK (And.intro hKc (And.intro hKn hKi)))
  clear hT2 rx2 B2 hb3 hK hKc hKn hKi
  go_wp2_with fail
  refine hO.mono ?_
  rintro e w4 ⟨⟨v, rfl, hv⟩, hb4⟩
  have hT4 := hT3.below' hb4
  have B4 := B3.trans (hb4.mono B3.size)
  obtain ⟨a', c', rfl⟩ := irow_shape hv
  rw [HK.out.2.1]
  clear hO hv hT3 hb4 B3 c0 c1 cz rx3
  have hmm := @run_makeMap Try.prog
  go_wp2_with fail
  have ba : Below w4.heap.size w4 (w4.alloc (.map #[] 0)) := (Below.refl _ _).alloc (Nat.le_refl _) _
  have hO := Order_any (w4.alloc (.map #[] 0)) (hT4.below' ba) hG
  rw [hgM, ← HK.out.1] at hO
  refine hO.mono ?_
  rintro e w5 ⟨⟨v, rfl, hv⟩, hb5⟩
  have hmp := (World.bmap_made w4 Try.prog tI 4).same (hb5.block w4.heap.size (by simp))
  have b45 := ba.trans (hb5.mono ba.size)
  obtain ⟨mb, hmb⟩ : ∃ mb, mb = w4.heap.size := ⟨_, rfl⟩
  obtain ⟨q, hq⟩ : ∃ q, q = (w4.alloc (.map #[] 0)).heap.size := ⟨_, rfl⟩
  have hmq : mb < q := by rw [hmb, hq]; simp
  have hmw : w4.heap.size ≤ mb := by rw [hmb]; exact Nat.le_refl _
  rw [← hmb] at hmp
  rw [← hq] at hv
  simp only [← hmb]
  obtain ⟨a2, c2, rfl⟩ := irow_shape hv
  rw [HK.out.2.1] at hv ⊢
  have HT4 := Lib.hid (And.intro hT4 (And.intro hG B4))
  have hle4 := hT4.le
  clear hO hb5 ba hmb hq hT4 hG B4 hmm
  go_wp2_with fail
  go_loopw [66] (fun x wr => ∃ (i : Nat), i ≤ c ∧ x = .int .i64 i ∧ wr.bmap Try.prog tI 4 mb i (K.take i) ∧ Below w4.heap.size w4 wr ∧ wr.irow q tI (.slice a2 c c2) K) (fun x _ => c - (intOf x).toNat)
  case atStart => exact ⟨0, by omega, rfl, hmp, b45, hv⟩
  case round =>
    clear hmp b45 hv
    obtain ⟨i, hi, rfl, hmp, hB, hv⟩ := hrel
    by_cases hlt : i < c
    · have hil : i < K.length := by rw [HK.out.2.1]; exact hlt
      obtain ⟨y, hy⟩ : ∃ y, K[i]? = some y := ⟨K[i], List.getElem?_eq_getElem hil⟩
      obtain ⟨g1, cap1, ev, hqg, hg1, hg2, hg3, hcell⟩ := hv.form.resolve_left (fun e => by rw [e.2] at hil; simp at hil)
      have cy := hcell i y hy
      have hyin := HK.out.2.2.2 y (List.mem_of_getElem? hy)
      obtain ⟨rfl, hmL, rfl⟩ := Value.slice.inj ev
      have hTr := HT4.out.1.below' hB
      have hH := Has_any y wr hTr
      have hyT : (T.dear.contains y || T.plain.contains y) = true := (has_iff T y).2 (by have := List.mem_of_getElem? hy; rw [HK.out.1] at this; exact this)
      rw [hyT, hgM] at hH
      obtain ⟨dy, hdy⟩ : ∃ d, d = T.dear.contains y := ⟨_, rfl⟩
      rw [← hdy] at hH
      obtain ⟨hnc, hadd⟩ := take_add HK.out.2.2.1 hy
      have HY := Lib.hid (And.intro hy (And.intro hyin (And.intro hqg (And.intro hB (And.intro hv (And.intro hnc hadd))))))
      have hmz : ∀ w, (zeroValue 4).run Try.prog w = .ok (.bool false) w := fun w => by kernel_rfl
      have HZ := Lib.hid hmz
      clear hmL hcell ev hy hyin hil hqg hB hv hg1 hg2 hg3 hyT hdy hnc hadd hmz hTr
      go_wp2_with fail
      refine hH.mono ?_
      rintro e w7 ⟨rfl, rfl⟩
      go_wp2_with (first
        | (at_lookup; refine wpList_lookup_bmr rfl _ _ 50 rfl Try.underlying3 Try.underlying50 Try.underlying4 HZ.out rfl hmp y rfl HY.out.2.1 false HY.out.2.2.2.2.2.1 ?_)
        | (at_mapUpdate; refine wpList_mapUpdate_bm rfl _ _ _ 50 rfl Try.underlying3 Try.underlying50 Try.underlying4 rfl hmp (by omega) y rfl HY.out.2.1 rfl ?_; intro w6 hmp6 hg6))
      go_roundw
      case rel =>
        rw [HY.out.2.2.2.2.2.2] at hmp6
        exact ⟨i + 1, by omega, by go_num, hmp6, below_grown HY.out.2.2.2.1 hg6 hmw HY.out.2.2.2.1.size, irow_same HY.out.2.2.2.2.1 fun k hk => hg6.block k (HY.out.2.2.2.2.1.lt k hk).2 (fun e => by have h1 := (HY.out.2.2.2.2.1.lt k hk).1; have := Option.some.inj e; omega)⟩
      case measure => simp [intOf] <;> omega
    · obtain rfl : i = c := by omega
      have hTr := HT4.out.1.below' hB
      have Br := HT4.out.2.2.trans (hB.mono hle4)
      rw [List.take_of_length_le (by rw [HK.out.2.1]; exact Nat.le_refl _)] at hmp
      have hout : ¬ M.foot mb := fun hf => by have := (HT4.out.1.lts mb hf).2; omega
      have HS := Lib.hid (And.intro hTr (And.intro Br (And.intro hmp hout)))
      clear hTr Br hmp hout hB hv
      go_wp2_with fail
      go_loopw [87] (fun x wr => ∃ (j : Nat) (M' : TM) (T' : TS) (L' : List Int), j ≤ i ∧ x = .int .i64 j ∧ TurnAt w.heap.size 80 wr M' T' ∧ Good T' ∧ M'.g = g ∧ wr.bmap Try.prog tI 4 mb i L' ∧ L'.Perm T'.keys ∧ ¬ M'.foot mb ∧ T'.keys.length + j ≤ i ∧ Below w.heap.size w wr) (fun x _ => i - (intOf x).toNat)
      case atStart => exact ⟨0, M, T, K, by omega, rfl, HS.out.1, HT4.out.2.1, hgM, HS.out.2.2.1, by rw [HK.out.1], HS.out.2.2.2, by rw [← HK.out.1, HK.out.2.1]; exact Nat.le_refl _, HS.out.2.1⟩
      case round =>
        obtain ⟨j, M', T', L', hj, rfl, hT', hG', hg', hm', hP', hf', hl', hB'⟩ := hrel
        have hV := Victim_any wr hT' hG'
        rw [hg'] at hV
        have HR := Lib.hid (And.intro hT' (And.intro hG' (And.intro hm' (And.intro hP' (And.intro hf' (And.intro hl' hB'))))))
        clear hT' hG' hm' hP' hf' hB'
        by_cases hlt2 : j < i
        · clear hl'
          have hTr := HR.out.1
          cases hvv : T'.victim with
          | none =>
            rw [hvv] at hV
            go_wp2_with fail
            refine hV.mono ?_
            rintro e w5 ⟨rfl, hb5⟩
            have hT5 := HR.out.1.below' hb5
            have hV5 := Victim_any w5 hT5 HR.out.2.1
            rw [hg', hvv] at hV5
            have HR5 := Lib.hid (And.intro hT5 (And.intro HR.out.2.1 (And.intro (HR.out.2.2.1.same (hb5.block mb HR.out.2.2.1.lt)) (And.intro HR.out.2.2.2.1 (And.intro HR.out.2.2.2.2.1 (And.intro trivial (HR.out.2.2.2.2.2.2.trans (hb5.mono HR.out.2.2.2.2.2.2.size))))))))
            clear hT5 hb5 hV hTr
            go_wp2_with fail
            refine hV5.mono ?_
            rintro e w7 ⟨rfl, hb7⟩
            have hT7 := HR5.out.1.below' hb7
            have hL7 := Len_any w7 hT7 HR5.out.2.1
            rw [hg', ← keys_len] at hL7
            have hm7 := HR5.out.2.2.1.same (hb7.block mb HR5.out.2.2.1.lt)
            have B7 := HR5.out.2.2.2.2.2.2.trans (hb7.mono HR5.out.2.2.2.2.2.2.size)
            go_wp2_with fail
            refine Calls.pure_to hL7 ?_
            intro w8 hb8
            have hm8 := hm7.same (hb8.block mb hm7.lt)
            have B8 := B7.trans (hb8.mono B7.size)
            obtain ⟨kl, hkl⟩ : ∃ kl, kl = T'.keys.length := ⟨_, rfl⟩
            rw [← hkl]
            have hLk : L'.length = kl := by rw [hkl]; exact HR5.out.2.2.2.1.length_eq
            have hln := bmap_len (ty := 3) Try.underlying50 hm8
            rw [hLk] at hln
            go_wp2_with fail
            go_returns
            exact ⟨rfl, B8⟩
          | some k =>
            rw [hvv] at hV
            have hkm := (victim_free hvv).1
            have hki := HR.out.2.1.in64 k hkm
            have hkh : T'.has k = true := (has_iff T' k).2 hkm
            have hkb : (T'.dear.contains k || T'.plain.contains k) = true := hkh
            have HKK := Lib.hid (And.intro hkm (And.intro hki (And.intro hkh hkb)))
            clear hkm hki hkh hkb hTr hvv
            go_wp2_with fail
            refine hV.mono ?_
            rintro e w5 ⟨rfl, hb5⟩
            have hT5 := HR.out.1.below' hb5
            have hH := Has_any k w5 hT5
            rw [hg', HKK.out.2.2.2] at hH
            obtain ⟨dk, hdk⟩ : ∃ d, d = T'.dear.contains k := ⟨_, rfl⟩
            rw [← hdk] at hH
            clear hdk hV
            go_wp2_with fail
            refine hH.mono ?_
            rintro e w5 ⟨rfl, rfl⟩
            have hD := Drop_any k w5 hT5 HR.out.2.1 HKK.out.2.1
            rw [hg', HKK.out.2.2.1] at hD
            have hm5 := HR.out.2.2.1.same (hb5.block mb HR.out.2.2.1.lt)
            have B5 := HR.out.2.2.2.2.2.2.trans (hb5.mono HR.out.2.2.2.2.2.2.size)
            clear hH
            go_wp2_with fail
            refine hD.mono ?_
            rintro e w6 ⟨rfl, M6, hT6, st6⟩
            have hm6 := hm5.same (st6.block mb hm5.lt HR.out.2.2.2.2.1)
            have B6 := st6.under hT5 hT5.le B5
            have hf6 : ¬ M6.foot mb := st6.out hm5.lt HR.out.2.2.2.2.1
            have HT6 := Lib.hid (And.intro hT6 (And.intro B6 (And.intro hf6 st6.g)))
            clear hD hm5 B5 hT5 hb5 hT6 st6 B6 hf6
            go_wp2_with (at_delete; refine wpList_delete_bm rfl _ _ 50 rfl Try.underlying3 Try.underlying50 rfl hm6 k rfl HKK.out.2.1 ?_; intro w9 hm9 hg9)
            go_roundw
            case rel =>
              have hk2 := drop_keys HR.out.2.1 k
              have hl2 := List.length_erase_of_mem HKK.out.1
              have hl3 := HR.out.2.2.2.2.2.1
              have hl4 : 0 < T'.keys.length := List.length_pos_of_mem HKK.out.1
              exact ⟨j + 1, M6, T'.dropT k, L'.erase k, by omega, by go_num, HT6.out.1.grown hg9 HT6.out.2.2.1, HR.out.2.1.drop k, HT6.out.2.2.2.trans hg', hm9, by rw [hk2]; exact HR.out.2.2.2.1.erase k, HT6.out.2.2.1, by rw [hk2, hl2]; omega, below_grown HT6.out.2.1 hg9 (Nat.le_trans hle4 hmw) HT6.out.2.1.size⟩
            case measure => simp [intOf] <;> omega
        · have hnil : T'.keys = [] := List.length_eq_zero_iff.1 (by omega)
          rw [victim_nil hnil] at hV
          clear hl'
          go_wp2_with fail
          refine hV.mono ?_
          rintro e w7 ⟨rfl, hb7⟩
          have hT7 := HR.out.1.below' hb7
          have hL7 := Len_any w7 hT7 HR.out.2.1
          rw [hg', ← keys_len] at hL7
          have hm7 := HR.out.2.2.1.same (hb7.block mb HR.out.2.2.1.lt)
          have B7 := HR.out.2.2.2.2.2.2.trans (hb7.mono HR.out.2.2.2.2.2.2.size)
          go_wp2_with fail
          refine Calls.pure_to hL7 ?_
          intro w8 hb8
          have hm8 := hm7.same (hb8.block mb hm7.lt)
          have B8 := B7.trans (hb8.mono B7.size)
          obtain ⟨kl, hkl⟩ : ∃ kl, kl = T'.keys.length := ⟨_, rfl⟩
          rw [← hkl]
          have hLk : L'.length = kl := by rw [hkl]; exact HR.out.2.2.2.1.length_eq
          have hln := bmap_len (ty := 3) Try.underlying50 hm8
          rw [hLk] at hln
          go_wp2_with fail
          go_returns
          exact ⟨rfl, B8⟩
end Go.Proofs.Ytfbcgnehpkffeaa
