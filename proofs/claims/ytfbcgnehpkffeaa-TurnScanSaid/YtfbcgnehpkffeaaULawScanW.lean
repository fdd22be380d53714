/- TurnScan: its walk. -/
import Derived.Test.YtfbcgnehpkffeaaULawScan
import Derived.Deep.LoopGhost
namespace Go.Proofs.Ytfbcgnehpkffeaa
open Go Go.RowKit
set_option maxRecDepth 100000
set_option maxHeartbeats 4000000 in
theorem scan_walk (x0 x1 nn : Int) (a : Option Addr) (len cap : Nat) (l : List (Int × Int × Bool)) (w : World) (h0 : In64 x0) (h1 : In64 x1) (hl : l.length = len) (hcap : len ≤ cap) (hna : a = none → len = 0 ∧ cap = 0)
    (hc : l = [] ∨ ∃ b o, a = some ⟨b, o, none⟩ ∧ ∀ i x, l[i]? = some x → ∀ j u, (act3 x)[j]? = some u → w.cell? ⟨b, o + i * 3 + j, none⟩ = some u) :
    Calls Try.prog 5 #[.agg #[.int .i64 x0, .int .i64 x1], .slice a len cap, .int .i64 nn] w fun e w' => e = .returned (.bool true) ∧ Below w.heap.size w w' := by
  obtain ⟨most, hmost⟩ : ∃ most : Nat, (most : Int) = 1 + (max 0 x0) % 20 := ⟨(1 + (max 0 x0) % 20).toNat, by omega⟩
  obtain ⟨limit, hlimit⟩ : ∃ limit : Nat, (limit : Int) = (max 0 x1) % most := ⟨((max 0 x1) % most).toNat, Int.toNat_of_nonneg (Int.emod_nonneg _ (by omega))⟩
  obtain ⟨N, hN⟩ : ∃ N : Nat, (N : Int) = (max 0 nn) % 60 := ⟨((max 0 nn) % 60).toNat, by omega⟩
  obtain ⟨zn, hzn⟩ : ∃ zn, max 0 nn = zn := ⟨_, rfl⟩
  have hzz : 0 ≤ zn := by omega
  rw [hzn] at hN
  have hN60 : N < 60 := by omega
  have eN : zn % 60 = (N : Int) := hN.symm
  have eT : zn.tmod 60 = (N : Int) := by rw [Int.tmod_eq_emod_of_nonneg hzz]; exact eN
  have HML := Lib.hid (And.intro hmost hlimit)
  have HC := Lib.hid (And.intro hl (And.intro hcap (And.intro hna hc)))
  clear hmost hlimit hl hcap hna hc hN
  go_enter Try.func5, Try.ntmps5
  go_wp2_with fail
  have b1 : Below w.heap.size w (w.alloc (.cells #[.int .i64 x0, .int .i64 x1] 45)) := (by repeat' (first | (with_reducible exact Below.refl _ _) | (with_reducible assumption) | (with_reducible refine Below.setCell ?_ ?_ _) | (with_reducible refine Below.ext ?_ _ ?_) | (with_reducible refine Below.alloc ?_ ?_ _) | (with_reducible refine Below.drew ?_) | (with_reducible refine Below.drewN ?_ _) | (with_reducible exact Nat.le_refl _) | (dsimp only; omega) | (simp <;> omega)))
  refine (run_any x0 x1 a len cap l _ h0 h1 HC.out.1 HC.out.2.1 HC.out.2.2.1 ?hcells most limit HML.out.1 HML.out.2).mono ?_
  case hcells =>
    refine HC.out.2.2.2.imp id ?_
    rintro ⟨b, o, ha, hcell⟩
    exact ⟨b, o, ha, fun i x hx j u hu => (b1.cell (p := ⟨b, o + i * 3 + j, none⟩) (block_lt_of_cell (hcell i x hx j u hu))).trans (hcell i x hx j u hu)⟩
  rintro e w1 ⟨M, T, rfl, hT, hG, hmo, hli, hS, hb1⟩
  have B1 := b1.trans (hb1.mono b1.size)
  have hT := hT.down b1.size
  obtain ⟨g, hgM⟩ : ∃ g, M.g = g := ⟨_, rfl⟩
  rw [hgM]
  clear b1 hb1 HML HC
  go_wp2_with fail
  refine Calls.pure_to (wakes_any _) ?_
  intro w2 hb2
  have hT2 := hT.below' hb2
  have B2 := B1.trans (hb2.mono B1.size)
  obtain ⟨K, hK⟩ : ∃ K, K = T.keys := ⟨_, rfl⟩
  have HS := Lib.hid (And.intro hT2 (And.intro hG (And.intro hS (And.intro hK (And.intro hmo (And.intro hli B2))))))
  clear hT hb2 B1 hT2 hG hS hK hmo hli B2
  go_wp2_with fail
  go_loopw [40] (fun x wr => ∃ (k : Nat) (T' : TS), k ≤ 32 ∧ x = .int .i64 k ∧ TurnAt w.heap.size (80 + k) wr M T' ∧ Good T' ∧ T'.most = T.most ∧ T'.limit = T.limit ∧ T'.plain = T.plain ∧ T'.dear = T.dear ∧ (∀ x ∈ T'.pins, (k : Int) ≤ x ∧ x ∈ K) ∧ Below w.heap.size w wr) (fun x _ => 32 - (intOf x).toNat)
  case atStart => exact ⟨0, T, by omega, rfl, HS.out.1, HS.out.2.1, rfl, rfl, rfl, rfl, fun x hx => by rw [HS.out.2.2.2.1]; have h1 := HS.out.2.2.1.pins x hx; exact ⟨(HS.out.2.2.1.keys x h1).1, h1⟩, HS.out.2.2.2.2.2.2⟩
  case round =>
    obtain ⟨k, T', hk, rfl, hT', hG', hm', hl', hp', hd', hpins, hB'⟩ := hrel
    by_cases hlt : k < 32
    · have hc := Pin_any (k : Int) false _ hT' (by omega) ⟨by omega, by omega⟩
      rw [hgM] at hc
      have HR := Lib.hid (And.intro hT' (And.intro hG' (And.intro hm' (And.intro hl' (And.intro hp' (And.intro hd' (And.intro hpins hB')))))))
      clear hT' hG' hm' hl' hp' hd' hpins hB'
      go_wp2_with fail
      refine hc.mono ?_
      rintro e w3 ⟨rfl, hT3, st3⟩
      have B3 := st3.under HR.out.1 HR.out.1.le HR.out.2.2.2.2.2.2.2
      clear hc
      go_wp2_with fail
      go_roundw
      case rel =>
        have hKeq : K = T'.keys := by rw [HS.out.2.2.2.1]; unfold TS.keys; rw [HR.out.2.2.2.2.1, HR.out.2.2.2.2.2.1]
        refine ⟨k + 1, T'.pinT k false, by omega, by go_num, hT3, HR.out.2.1.pin k false, (pin_same T' k false).1.trans HR.out.2.2.1, (pin_same T' k false).2.1.trans HR.out.2.2.2.1, (pin_lists T' k false).1.trans HR.out.2.2.2.2.1, (pin_lists T' k false).2.trans HR.out.2.2.2.2.2.1, fun x hx => ?_, B3⟩
        have h1 := pins_step HR.out.1.pnodup hKeq HR.out.2.2.2.2.2.2.1 x hx
        exact ⟨by omega, h1.2⟩
      case measure => simp [intOf] <;> omega
    · obtain rfl : k = 32 := by omega
      have hpn : T'.pins = [] := by
        cases e : T'.pins with
        | nil => rfl
        | cons x xs =>
          obtain ⟨h1, h2⟩ := hpins x (by rw [e]; exact List.mem_cons_self)
          rw [HS.out.2.2.2.1] at h2
          have := (HS.out.2.2.1.keys x h2).2
          omega
      have hkeys : ∀ x ∈ T'.keys, x < 1000 + ((0 : Nat) : Int) := fun x hx => by
        have h2 : x ∈ T.keys := by unfold TS.keys at hx ⊢; rw [hp', hd'] at hx; exact hx
        have := (HS.out.2.2.1.keys x h2).2
        omega
      have hm2 := hm'.trans HS.out.2.2.2.2.1
      have hl2 := hl'.trans HS.out.2.2.2.2.2.1
      obtain ⟨D, hD⟩ : ∃ D, T'.dear = D := ⟨_, rfl⟩
      have hL := Len_any wr hT' hG'
      rw [hgM, hD] at hL
      have hdl : D.length ≤ limit := by rw [← hD, ← hl2]; exact hG'.dlen
      obtain ⟨d, hd⟩ : ∃ d, d = D.length := ⟨_, rfl⟩
      obtain ⟨c, hc⟩ : ∃ c, c = T'.plain.length + d := ⟨_, rfl⟩
      rw [← hd, ← hc] at hL
      have hc64 : c ≤ 64 := by have h1 := hG'.len; have h2 := hG'.m64; rw [hc, hd, ← hD]; omega
      rw [← hd] at hdl
      have hKc : T'.keys.length = c := by rw [keys_len, hc, hd, hD]
      have HR := Lib.hid (And.intro hT' (And.intro hG' (And.intro hpn (And.intro hD (And.intro hm2 (And.intro hl2 (And.intro hkeys (And.intro hB' hKc))))))))
      clear hT' hG' hm' hl' hp' hd' hpins hB' hpn hkeys hm2 hl2 hD hKc hc hd HS hlt hk
      go_wp2_with fail
      refine Calls.pure_to hL ?_
      intro w3 hb3
      have hT3 := HR.out.1.below' hb3
      have hO := Order_any w3 hT3 HR.out.2.1
      obtain ⟨K2, hK2⟩ : ∃ K2, K2 = T'.keys := ⟨_, rfl⟩
      rw [hgM, ← hK2] at hO
      clear hL
      go_wp2_with fail
      refine hO.mono ?_
      rintro e w4 ⟨⟨v, rfl, hv⟩, hb4⟩
      obtain ⟨a2, c2, rfl⟩ := irow_shape hv
      rw [show K2.length = c by rw [hK2]; exact HR.out.2.2.2.2.2.2.2.2] at hv ⊢
      have hT4 := hT3.below' hb4
      have B4 := (HR.out.2.2.2.2.2.2.2.1.trans (hb3.mono HR.out.2.2.2.2.2.2.2.1.size)).trans (hb4.mono (Nat.le_trans HR.out.2.2.2.2.2.2.2.1.size hb3.size))
      have HK := Lib.hid (And.intro hK2 (And.intro hv (And.intro hT4 B4)))
      clear hT3 hb3 hO hK2 hb4 hv hT4 B4
      go_wp2_with fail
      obtain ⟨i0, hi, hz0, hz1, hz2⟩ := info_parts infoInt
      have HI : Hid (Try.prog.info? tI = some i0 ∧ i0.zero = some (.int .i64 0) ∧ i0.size = 1 ∧ i0.bytes = 8) := ⟨hi, hz0, hz1, hz2⟩
      clear hi hz0 hz1 hz2
      go_loopw [13, 55] (fun v x wr => ∃ (i : Nat) (X : List Int), i ≤ c ∧ x = .int .i64 i ∧ wr.irow w4.heap.size tI v X ∧ (∀ z ∈ X, D.contains z = true) ∧ X.length ≤ i ∧ Below w4.heap.size w4 wr) (fun _ x _ => c - (intOf x).toNat)
      case atStart => exact ⟨0, [], by omega, rfl, World.irow.nil _ _ _, (fun z hz => by cases hz), by simp, Below.refl _ _⟩
      case round =>
        obtain ⟨i, X, hi, rfl, hX, hall, hXl, hB⟩ := hrel
        obtain ⟨a3, c3, rfl⟩ := irow_shape hX
        obtain ⟨xl, hxl⟩ : ∃ xl, xl = X.length := ⟨_, rfl⟩
        have HX := Lib.hid (And.intro hX (And.intro hall (And.intro hB hxl)))
        rw [← hxl] at hXl ⊢
        clear hX hall hB hxl
        by_cases hlt : i < c
        · have hvr := irow_below HK.out.2.1 HX.out.2.2.1
          have hil : i < K2.length := by rw [HK.out.1]; exact Nat.lt_of_lt_of_le hlt (Nat.le_of_eq HR.out.2.2.2.2.2.2.2.2.symm)
          obtain ⟨y, hy⟩ : ∃ y, K2[i]? = some y := ⟨K2[i], List.getElem?_eq_getElem hil⟩
          obtain ⟨g1, cap1, ev, hqg, hg1, hg2, hg3, hcell⟩ := hvr.form.resolve_left (fun e => by rw [e.2] at hil; simp at hil)
          have cy := hcell i y hy
          obtain ⟨rfl, hmL, rfl⟩ := Value.slice.inj ev
          have hTr := HK.out.2.2.1.below' HX.out.2.2.1
          have hH := Has_any y wr hTr
          have hyT : (T'.dear.contains y || T'.plain.contains y) = true := (has_iff T' y).2 (by have := List.mem_of_getElem? hy; rw [HK.out.1] at this; exact this)
          rw [hyT, hgM, HR.out.2.2.2.1] at hH
          clear hmL hcell ev hy hil hqg hg1 hg2 hg3 hyT hTr hvr
          cases hdy : D.contains y with
          | false =>
            rw [hdy] at hH
            clear hdy
            go_wp2_with fail
            refine hH.mono ?_
            rintro e w7 ⟨rfl, rfl⟩
            go_wp2_with fail
            go_roundw
            case rel => exact ⟨i + 1, X, by omega, by go_num, by rw [HX.out.2.2.2]; exact HX.out.1, HX.out.2.1, by rw [← HX.out.2.2.2]; omega, HX.out.2.2.1⟩
            case measure => simp [intOf] <;> omega
          | true =>
            rw [hdy] at hH
            have HDY := Lib.hid hdy
            clear hdy
            have hXr := HX.out.1
            rw [← HX.out.2.2.2] at hXr
            have hbs := HX.out.2.2.1.size
            have HXR : Hid (wr.ownsRow w4.heap.size tI 1 (.slice a3 xl c3) xl (ints X)) := by
              have h9 := HX.out.1
              unfold World.irow at h9
              rw [← HX.out.2.2.2] at h9
              exact h9
            clear hXr
            go_wp2_with fail
            refine hH.mono ?_
            rintro e w7 ⟨rfl, rfl⟩
            go_wp2_with (at_builtin; refine wpList_append_own_at _ rfl _ _ 34 rfl w4.heap.size tI i0 (.int .i64 0) 1 8 Try.underlying34 HI.out.1 HI.out.2.1 HI.out.2.2.1 HI.out.2.2.2 rfl (by decide) _ _ _ rfl (HXR.out.alloc _) ⟨wr.heap.size, 0, none⟩ 1 1 [.int .i64 y] rfl rfl ?c1 ?c2 ?c3 ?c4 ?c5 ?_)
            case c1 => exact cellOne _ _ _
            case c2 => simp [Value.oneCell']
            case c3 => unfold maxLen; omega
            case c4 => omega
            case c5 => simp; omega
            intro v' w8 ho hgr _ hloc
            obtain ⟨av, mv, cv, rfl⟩ := own_shape ho
            have hgr2 := (World.grownBy_alloc wr (.cells #[.int .i64 y] tI) (Value.slice a3 xl c3).ownBlock).trans hgr
            have B8 : Below w4.heap.size w4 w8 := HX.out.2.2.1.trans ⟨hgr2.os, hgr2.tape, hgr2.output, hgr2.size, fun k hk => hgr2.block k (Nat.lt_of_lt_of_le hk hbs) fun e => by have := (HXR.out.lt k e.symm).1; omega⟩
            rw [HX.out.2.2.2] at ho
            have ho2 := irow_snoc ho
            have HO2 := Lib.hid (And.intro ho2 B8)
            clear ho hgr hgr2 hloc ho2 B8
            go_wp2_with fail
            go_roundw
            case rel =>
              refine ⟨i + 1, X ++ [y], by omega, by go_num, HO2.out.1, fun z hz => ?_, by have := HX.out.2.2.2; simp; omega, HO2.out.2⟩
              rcases List.mem_append.1 hz with h | h
              · exact HX.out.2.1 z h
              · rw [List.mem_singleton.1 h]; exact HDY.out
            case measure => simp [intOf] <;> omega
        · have hTr := HK.out.2.2.1.below' HX.out.2.2.1
          have hle4 := HK.out.2.2.1.le
          have S0 : ScanAt w.heap.size w4.heap.size w g most limit D (.slice a3 xl c3) X 0 wr M T' := ⟨hTr, HR.out.2.1, HR.out.2.2.1, HR.out.2.2.2.1, HR.out.2.2.2.2.1, HR.out.2.2.2.2.2.1, HR.out.2.2.2.2.2.2.1, hgM, by rw [HX.out.2.2.2]; exact HX.out.1, fun k hk hf => by
            have h1 := (HX.out.1.lt k (by rw [← HX.out.2.2.2]; exact hk)).1
            have h2 := (HK.out.2.2.1.lts k hf).2
            omega, HK.out.2.2.2.trans (HX.out.2.2.1.mono hle4)⟩
          have HXD := Lib.hid (And.intro HX.out.2.1 HX.out.2.2.2)
          obtain ⟨C, hC⟩ : ∃ C, C = w4.heap.size := ⟨_, rfl⟩
          rw [← hC] at S0
          have HS0 := Lib.hid S0
          clear hTr hle4 S0 HX HR HK hC hgM HI
          go_wp2_with fail
          go_loopw [74] (fun x wr => ∃ (i : Nat) (M : TM) (T : TS), i ≤ N ∧ x = .int .i64 i ∧ ScanAt w.heap.size C w g most limit D (.slice a3 xl c3) X i wr M T) (fun x _ => N - (intOf x).toNat)
          case atStart => exact ⟨0, M, T', by omega, rfl, HS0.out⟩
          case round =>
            clear HS0
            obtain ⟨i2, M3, T3, hi2, rfl, hS3⟩ := hrel
            have HS3 := Lib.hid hS3
            clear hS3
            by_cases hlt2 : i2 < N
            · have f3 : (i2 < N) = True := eq_true hlt2
              go_wp2_with fail
              go_loopg [] T3.keys.length (fun gk wr => ∃ (M : TM) (T : TS), gk = T.keys.length ∧ ScanAt w.heap.size C w g most limit D (.slice a3 xl c3) X i2 wr M T)
              case atStart => exact ⟨M3, T3, rfl, HS3.out⟩
              case round =>
                obtain ⟨M4, T4, hgk, hS4⟩ := hrel
                have hF := Full_any _ hS4.tat hS4.good
                rw [hS4.g] at hF
                have HS4 := Lib.hid (And.intro hS4 hgk)
                clear hS4 hgk HS3
                rw [show decide (T4.most ≤ T4.plain.length + T4.dear.length) = T4.full from rfl] at hF
                cases hf : T4.full with
                | true =>
                  rw [hf] at hF
                  obtain ⟨p, ps, hp1, hp2, hp3, hp4, hp5⟩ := full_victim HS4.out.1.good HS4.out.1.pins hf
                  have hpi := HS4.out.1.good.in64 p hp4
                  have hph : T4.has p = true := (has_iff T4 p).2 hp4
                  have hpb : (T4.dear.contains p || T4.plain.contains p) = true := hph
                  have HPP := Lib.hid (And.intro hp2 (And.intro hp3 (And.intro hpi (And.intro hph (And.intro hpb hf)))))
                  clear hp1 hp2 hp3 hp4 hp5 hpi hph hpb hf
                  go_wp2_with fail
                  refine Calls.pure_to hF ?_
                  intro w5 hb5
                  have HS5 := Lib.hid (HS4.out.1.next hb5)
                  have hV := Victim_any w5 HS5.out.tat HS5.out.good
                  rw [HS5.out.g, HPP.out.1] at hV
                  clear hF hb5
                  go_wp2_with fail
                  refine hV.mono ?_
                  rintro e w6 ⟨rfl, hb6⟩
                  have HS6 := Lib.hid (HS5.out.next hb6)
                  have hH := Has_any p w6 HS6.out.tat
                  rw [HS6.out.g, HPP.out.2.2.2.2.1, HPP.out.2.1] at hH
                  clear hV hb6 HS5
                  go_wp2_with fail
                  refine hH.mono ?_
                  rintro e w7 ⟨rfl, rfl⟩
                  have hD := Drop_any p w6 HS6.out.tat HS6.out.good HPP.out.2.2.1
                  rw [HS6.out.g, HPP.out.2.2.2.1] at hD
                  clear hH
                  go_wp2_with fail
                  refine hD.mono ?_
                  rintro e w8 ⟨rfl, M8, hT8, st8⟩
                  obtain ⟨hS8, hlt8⟩ := HS6.out.gone HPP.out.2.2.2.2.2 HPP.out.1 st8 hT8
                  have HS8 := Lib.hid (And.intro hS8 hlt8)
                  clear hD hT8 st8 hS8 hlt8 HS6
                  go_wp2_with fail
                  go_roundg (T4.dropT p).keys.length
                  case measure => rw [HS4.out.2]; exact HS8.out.2
                  case rel => exact ⟨M8, _, rfl, HS8.out.1⟩
                | false =>
                  rw [hf] at hF
                  have HFF := Lib.hid hf
                  clear hf
                  obtain ⟨ki, hki⟩ : ∃ ki : Int, 1000 + (i2 : Int) = ki := ⟨_, rfl⟩
                  have HKI := Lib.hid hki
                  have hki1 : 1000 ≤ ki := by omega
                  have hki2 : ki ≤ 1100 := by omega
                  go_wp2_with fail
                  refine Calls.pure_to hF ?_
                  intro w5 hb5
                  have HS5 := Lib.hid (HS4.out.1.next hb5)
                  have hA := Add_any ki w5 HS5.out.tat HS5.out.good
                  obtain ⟨ha0, hcome⟩ := HS5.out.come HFF.out (by omega)
                  rw [HKI.out] at ha0 hcome
                  rw [HS5.out.g, ha0] at hA
                  have HCM := Lib.hid hcome
                  clear hF hb5 ha0 hcome
                  go_wp2_with fail
                  refine hA.mono ?_
                  rintro e w6 ⟨rfl, M6, hT6, st6⟩
                  have HS6 := Lib.hid (HCM.out _ _ st6 hT6)
                  clear hA hT6 st6 HCM
                  go_wp2_with fail
                  go_roundw
                  case rel => exact ⟨i2 + 1, M6, _, by omega, by go_num, HS6.out⟩
                  case measure => simp [intOf] <;> omega
            · obtain rfl : i2 = N := by omega
              have hXm := HXD.out.2
              have HXM := Lib.hid hXm
              clear hXm
              go_wp2_with fail
              go_loopw [118] (fun x wr => ∃ (j : Nat), j ≤ xl ∧ x = .int .i64 j ∧ ScanAt w.heap.size C w g most limit D (.slice a3 xl c3) X i2 wr M3 T3) (fun x _ => xl - (intOf x).toNat)
              case atStart => exact ⟨0, by omega, rfl, HS3.out⟩
              case round =>
                clear HS3
                obtain ⟨j, hj, rfl, hS5⟩ := hrel
                have HS5 := Lib.hid hS5
                clear hS5
                by_cases hlt3 : j < xl
                · have hil : j < X.length := by rw [← HXM.out]; exact hlt3
                  obtain ⟨y, hy⟩ : ∃ y, X[j]? = some y := ⟨X[j], List.getElem?_eq_getElem hil⟩
                  obtain ⟨g1, cap1, ev, hqg, hg1, hg2, hg3, hcell⟩ := HS5.out.row.form.resolve_left (fun e => by rw [e.2] at hil; simp at hil)
                  have cy := hcell j y hy
                  obtain ⟨rfl, hmL, rfl⟩ := Value.slice.inj ev
                  have hyD := HXD.out.1 y (List.mem_of_getElem? hy)
                  have hH := Has_any y wr HS5.out.tat
                  rw [HS5.out.dear, hyD, HS5.out.g] at hH
                  clear hmL hcell ev hy hil hqg hg1 hg2 hg3 hyD
                  go_wp2_with fail
                  refine hH.mono ?_
                  rintro e w7 ⟨rfl, rfl⟩
                  go_wp2_with fail
                  go_roundw
                  case rel => exact ⟨j + 1, by omega, by go_num, HS5.out⟩
                  case measure => simp [intOf] <;> omega
                · go_wp2_with fail
                  go_returns
                  exact ⟨rfl, HS5.out.below⟩
end Go.Proofs.Ytfbcgnehpkffeaa
