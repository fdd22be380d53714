/- Several texts in one: CLawKeeps LCacheKeeps. -/
import Derived.Test.YtijagdpkclghnaaDoorKckg
import Derived.Deep.CutBlock
/- CacheKeeps: the walk. -/
namespace Go.Proofs.YtijagdpkclghnaaDoor
open Go Go.RowKit
set_option maxRecDepth 100000
theorem mask15 (x : Int) : 0 ≤ bits .and .i64 x 15 ∧ bits .and .i64 x 15 ≤ 15 := by
  have h : ((BitVec.ofInt 64 x) &&& (BitVec.ofInt 64 15)).toNat ≤ 15 := by
    rw [BitVec.toNat_and]
    exact Nat.le_trans Nat.and_le_right (by decide)
  obtain ⟨m, hm⟩ : ∃ m, m = ((BitVec.ofInt 64 x) &&& (BitVec.ofInt 64 15)).toNat := ⟨_, rfl⟩
  have e : bits .and .i64 x 15 = IntKind.i64.wrap (m : Int) := by rw [hm]; rfl
  rw [← hm] at h
  rw [e, show IntKind.i64.wrap (m : Int) = (m : Int) from by
    unfold IntKind.wrap
    simp [IntKind.bits, IntKind.signed]
    omega]
  omega
theorem mask7 (x : Int) : 0 ≤ bits .and .i64 x 7 ∧ bits .and .i64 x 7 ≤ 7 := by
  have h : ((BitVec.ofInt 64 x) &&& (BitVec.ofInt 64 7)).toNat ≤ 7 := by
    rw [BitVec.toNat_and]
    exact Nat.le_trans Nat.and_le_right (by decide)
  obtain ⟨m, hm⟩ : ∃ m, m = ((BitVec.ofInt 64 x) &&& (BitVec.ofInt 64 7)).toNat := ⟨_, rfl⟩
  have e : bits .and .i64 x 7 = IntKind.i64.wrap (m : Int) := by rw [hm]; rfl
  rw [← hm] at h
  rw [e, show IntKind.i64.wrap (m : Int) = (m : Int) from by
    unfold IntKind.wrap
    simp [IntKind.bits, IntKind.signed]
    omega]
  omega
set_option maxHeartbeats 8000000 in
theorem keeps_walk (x0 x1 x2 : Int) (a : Option Addr) (len cap : Nat) (l : List Ac) (w : World) (hT : Tab w) (hl : l.length = len) (hcap : len ≤ cap) (hna : a = none → len = 0 ∧ cap = 0)
    (hc : l = [] ∨ ∃ b o, a = some ⟨b, o, none⟩ ∧ ∀ i x, l[i]? = some x → ∀ j u, (act5 x)[j]? = some u → w.cell? ⟨b, o + i * 5 + j, none⟩ = some u) :
    Calls Tryd.prog 4 #[.agg #[.int .i64 x0, .int .i64 x1, .int .i64 x2], .slice a len cap] w fun e w' => e = .returned (.bool true) ∧ Below w.heap.size w w' := by
  have hmm := @run_makeMap Tryd.prog
  have HT := Lib.hid hT
  have HC := Lib.hid (And.intro hc hl)
  have HNA := Lib.hid hna
  clear hc hna hT
  obtain ⟨z0, hz0⟩ : ∃ z0, max 0 x0 = z0 := ⟨_, rfl⟩
  obtain ⟨z1, hz1⟩ : ∃ z1, max 0 x1 = z1 := ⟨_, rfl⟩
  obtain ⟨z2, hz2⟩ : ∃ z2, max 0 x2 = z2 := ⟨_, rfl⟩
  have hzz0 : 0 ≤ z0 := by omega
  have hzz1 : 0 ≤ z1 := by omega
  have hzz2 : 0 ≤ z2 := by omega
  obtain ⟨most, em⟩ : ∃ most : Nat, 1 + z0 % 8 = (most : Int) := ⟨(1 + z0 % 8).toNat, by omega⟩
  obtain ⟨data, ed⟩ : ∃ data : Nat, 2 + z2 % 5 = (data : Int) := ⟨(2 + z2 % 5).toNat, by omega⟩
  have hm1 : 1 ≤ most := by omega
  have hm8 : most ≤ 8 := by omega
  have hd2 : 2 ≤ data := by omega
  have hd6 : data ≤ 6 := by omega
  obtain ⟨limit, el⟩ : ∃ limit : Nat, z1 % (most : Int) = (limit : Int) := ⟨(z1 % (most : Int)).toNat, (Int.toNat_of_nonneg (Int.emod_nonneg _ (by omega))).symm⟩
  have hlm : limit < most := by
    have : z1 % (most : Int) < most := Int.emod_lt_of_pos _ (by omega)
    omega
  obtain ⟨n, hn⟩ : ∃ n, n = min len 80 := ⟨_, rfl⟩
  have hn1 : min (len : Int) 80 = (n : Int) := by omega
  have hn80 : n ≤ 80 := by omega
  have hnl : n ≤ len := by omega
  have HQ := Lib.hid (And.intro hm1 (And.intro hm8 (And.intro hd2 (And.intro hd6 (And.intro hlm (And.intro hn80 hnl))))))
  clear hn
  go_enter Tryd.func4, Tryd.ntmps4
  go_upto_region 1 with fail
  obtain ⟨gx, hgx⟩ : ∃ g, g = w.heap.size := ⟨_, rfl⟩
  refine wp_world (fun w0 => w0.row gx [.int .i64 x0, .int .i64 x1, .int .i64 x2] 37 ∧ Below w.heap.size w w0) ⟨World.row.new' hgx.symm, (by repeat' (first | (with_reducible exact Below.refl _ _) | (with_reducible assumption) | (with_reducible refine Below.setCell ?_ ?_ _) | (with_reducible refine Below.ext ?_ _ ?_) | (with_reducible refine Below.alloc ?_ ?_ _) | (with_reducible refine Below.drew ?_) | (with_reducible refine Below.drewN ?_ _) | (with_reducible exact Nat.le_refl _) | (dsimp only; omega) | (simp <;> omega)))⟩ ?_
  simp only [← hgx]
  have hgl : w.heap.size ≤ gx := Nat.le_of_eq hgx.symm
  rintro w0 ⟨rx, B0⟩
  rw [hgx] at B0
  clear hgx
  have k0 := rx.cell 0 rfl
  have k1 := rx.cell 1 rfl
  have k2 := rx.cell 2 rfl
  have H0 := Lib.hid B0
  clear rx B0
  go_wp2_with fail
  refine (CNew_ok (B := w0.heap.size) most limit data w0 (Nat.le_refl _) hm1 (by omega) hlm hd2 (by omega)).mono ?_
  rintro e w1 ⟨C1, rfl, hA1, hb1, hf1⟩
  obtain ⟨g, hg⟩ : ∃ g, C1.g = g := ⟨_, rfl⟩
  rw [hg]
  have H1 := Lib.hid (And.intro hA1 (And.intro hb1 hg))
  clear hA1 hb1 hf1 hg k0 k1 k2 em el ed hz0 hz1 hz2 hzz0 hzz1 hzz2
  go_wp2_with fail
  refine Calls.pure_to (wakes_any w1 (HT.out.below (H0.out.trans (H1.out.2.1.mono H0.out.size)) HT.out.lt)) ?_
  intro w2 b2
  have hA2 := H1.out.1.below b2
  have H2 := Lib.hid (And.intro hA2 (H1.out.2.1.trans (b2.mono H1.out.2.1.size)))
  clear hA2 b2
  go_upto_region 7 with fail
  obtain ⟨mb, hmb⟩ : ∃ g, g = w2.heap.size := ⟨_, rfl⟩
  refine wp_world (fun w3 => KB w0.heap.size 0 0 data w0 w3 g mb C1 ⟨most, limit, [], [], []⟩ [] (fun _ => none) (fun _ _ _ => False)) ?_ ?_
  · have hb : Below w2.heap.size w2 (w2.alloc (.map #[] 0)) := (Below.refl _ _).alloc (Nat.le_refl _) _
    exact ⟨H2.out.1.below hb, H1.out.2.2, H2.out.2.trans (hb.mono H2.out.2.size), by rw [hmb]; exact World.kmap_made w2, fun hf => by have := (H2.out.1.lts mb hf).2; omega, by rw [hmb]; exact H2.out.2.size⟩
  simp only [← hmb]
  clear hmb
  rintro w3 hcb
  have hcl : Keep ⟨most, limit, [], [], []⟩ (fun _ => none) (fun _ _ _ => False) := ⟨(fun _ _ h => by cases h), (fun _ _ _ h => h.elim)⟩
  have H3 := Lib.hid (And.intro hcb hcl)
  clear hcb hcl
  go_wp2_with fail
  go_loopw [54] (fun i wr => ∃ (k nm : Nat) (C : CM) (T : TS) (L : List Int) (f : Int → Option Ent) (p : Int → Int → ByteArray → Prop), k ≤ n ∧ i = .int .i64 k ∧ KB w0.heap.size (2 * k) nm data w0 wr g mb C T L f p ∧ Keep T f p ∧ nm ≤ k) (fun i _ => n - (intOf i).toNat)
  case atStart => exact ⟨0, 0, _, _, _, _, _, Nat.zero_le _, rfl, H3.out.1, H3.out.2, Nat.le_refl _⟩
  case round =>
    obtain ⟨k, nm, C, T, L, f, p, hk, rfl, hR, hcl, hnm⟩ := hrel
    by_cases hlt : k < n
    · have hne : l ≠ [] := by intro e; have := HC.out.2; rw [e] at this; simp at this; omega
      obtain ⟨b, o, rfl, hcell⟩ := HC.out.1.resolve_left hne
      obtain ⟨y, hy⟩ : ∃ y, l[k]? = some y := ⟨l[k]'(by have := HC.out.2; omega), by rw [List.getElem?_eq_getElem]⟩
      have Bw := H0.out.trans (hR.b.mono H0.out.size)
      have bcell := fun (p : Addr) v (hp : w.cell? p = some v) => (Bw.cell (p := p) (block_lt_of_cell hp)).trans hp
      have j0 := bcell _ _ (hcell k y hy 0 _ rfl)
      have j1 := bcell _ _ (hcell k y hy 1 _ rfl)
      have j2 := bcell _ _ (hcell k y hy 2 _ rfl)
      have j3 := bcell _ _ (hcell k y hy 3 _ rfl)
      have j4 := bcell _ _ (hcell k y hy 4 _ rfl)
      rw [Nat.add_zero] at j0
      have hbw : b < wr.heap.size := block_lt_of_cell j1
      clear hcell hy hne bcell Bw
      obtain ⟨yd, ys, yc, yb, yo⟩ := y
      simp only at j0 j1 j2 j3 j4
      have HR := Lib.hid (And.intro hR (And.intro hcl hnm))
      clear hR hcl hnm
      go_upto_region 10 with fail
      obtain ⟨ga, hga⟩ : ∃ g, g = wr.heap.size := ⟨_, rfl⟩
      refine wp_world (fun w5 => w5.row ga [.int .i64 yd, .int .i64 ys, .int .i64 yc, .int .u8 yb, .bool yo] tAct ∧ Below wr.heap.size wr w5) ⟨World.row.new' hga.symm, (Below.refl _ _).alloc (Nat.le_refl _) _⟩ ?_
      simp only [← hga]
      rintro w5 ⟨ra, b5⟩
      rw [hga] at b5
      clear hga j0 j1 j2 j3 j4 hbw
      have k1 := ra.cell 1 rfl
      have k2 := ra.cell 2 rfl
      have k3 := ra.cell 3 rfl
      have gal := ra.lt
      have R5 := HR.out.1.below b5
      have H5 := Lib.hid (And.intro R5 ra)
      obtain ⟨t, et⟩ : ∃ t, bits .and .i64 ys 15 = t := ⟨_, rfl⟩
      have htt := Lib.hid (et ▸ mask15 ys)
      obtain ⟨zc, hzc⟩ : ∃ z, max 0 yc = z := ⟨_, rfl⟩
      have hzz : 0 ≤ zc := by omega
      obtain ⟨c, ec⟩ : ∃ c : Nat, zc % (data : Int) = (c : Int) := ⟨(zc % (data : Int)).toNat, (Int.toNat_of_nonneg (Int.emod_nonneg _ (by omega))).symm⟩
      have hcd : c < data := by
        have : zc % (data : Int) < data := Int.emod_lt_of_pos _ (by omega)
        omega
      have hB0 : w5.heap.size ≤ w5.heap.size := Nat.le_refl _
      clear R5 ra b5
      go_wp2_with fail
      refine wp_region_ext w5.heap.size hB0 (by kernel_rfl) (by kernel_rfl) ?_
      intro _
      repeat (go_big_quiet_step (first | with_reducible exact Calls.ext_of (sec_any yb _)))
      refine wpQuiet_nil ?_
      intro zx
      have bw6 := World.ext_below zx
      generalize World.ext w5 w5.heap.size zx = w6 at *
      clear zx
      simp only [ec]
      have R6 := H5.out.1.below bw6
      have k0 := (H5.out.2.below bw6 H5.out.2.lt).cell 0 rfl
      have H6 := Lib.hid R6
      have hsz := Lib.hid (secB_size yb)
      obtain ⟨s, hs⟩ : ∃ s, s = secB yb := ⟨_, rfl⟩
      rw [← hs] at hsz ⊢
      obtain ⟨v, hve⟩ : ∃ v, bits .and .i64 yd 7 = v := ⟨_, rfl⟩
      have hv : 0 ≤ v ∧ v ≤ 7 := hve ▸ mask7 yd
      have hcc := Lib.hid (And.intro hcd (And.intro (show In64 t from ⟨by have := htt.out; omega, by have := htt.out; omega⟩) (show In64 (c : Int) from ⟨by omega, by omega⟩)))
      clear R6 bw6 k1 k2 k3 gal hB0 et ec hzc hzz hs hcd
      go_upto_block 2 with fail
      go_cut [15, 54] from 54 to 140 (fun _ y wc => y = .int .i64 k ∧ ∃ (nm' : Nat) (C' : CM) (T' : TS) (L' : List Int) (f' : Int → Option Ent) (p' : Int → Int → ByteArray → Prop), nm' ≤ k + 1 ∧ KB w0.heap.size (2 * k + 2) nm' data w0 wc g mb C' T' L' f' p' ∧ Keep T' f' p')
      case first =>
        have hv8 : v = 0 ∨ v = 1 ∨ v = 2 ∨ v = 3 ∨ v = 4 ∨ v = 5 ∨ v = 6 ∨ v = 7 := by omega
        have hkn : nm ≤ k := HR.out.2.2
        clear hv hve
        rcases hv8 with rfl | rfl | rfl | rfl | rfl | rfl | rfl | rfl
        · go_wp2_with fail
          refine (putKB H6.out HR.out.2.1 htt.out.1 (by have := htt.out.2; omega) hcc.out.1 hsz.out (by omega)).mono ?_
          rintro e w7 ⟨b, rfl, C7, T7, L7, f7, R7, hcl7⟩
          have hkm := R7.km
          have H7 := Lib.hid (And.intro R7 hcl7)
          clear R7 hcl7
          cases b
          · clear hkm
            go_wp2_with fail
            go_meet
            case rel => exact ⟨rfl, nm, C7, T7, L7, f7, p, by omega, H7.out.1, H7.out.2⟩
          · go_wp2_with (at_mapUpdate; refine wpList_mapUpdate_km rfl _ _ _ rfl rfl hkm (by omega) t c rfl hcc.out.2.1 hcc.out.2.2 s rfl (by have := hsz.out; unfold maxLen; omega) ?_; intro w9 hkm9 hg9; refine wpList_world (fun w10 => KB w0.heap.size (2 * k + 2) (nm + 1) data w0 w10 g mb C7 T7 L7 f7 (pSet p t c s)) (H7.out.1.set hg9 hkm9) ?_; clear hkm9 hg9 hkm w9; rintro w9 R9)
            go_meet
            case rel => exact ⟨rfl, nm + 1, C7, T7, L7, f7, _, by omega, R9, H7.out.2⟩
        · go_wp2_with fail
          refine (putKB H6.out HR.out.2.1 htt.out.1 (by have := htt.out.2; omega) hcc.out.1 hsz.out (by omega)).mono ?_
          rintro e w7 ⟨b, rfl, C7, T7, L7, f7, R7, hcl7⟩
          have hkm := R7.km
          have H7 := Lib.hid (And.intro R7 hcl7)
          clear R7 hcl7
          cases b
          · clear hkm
            go_wp2_with fail
            go_meet
            case rel => exact ⟨rfl, nm, C7, T7, L7, f7, p, by omega, H7.out.1, H7.out.2⟩
          · go_wp2_with (at_mapUpdate; refine wpList_mapUpdate_km rfl _ _ _ rfl rfl hkm (by omega) t c rfl hcc.out.2.1 hcc.out.2.2 s rfl (by have := hsz.out; unfold maxLen; omega) ?_; intro w9 hkm9 hg9; refine wpList_world (fun w10 => KB w0.heap.size (2 * k + 2) (nm + 1) data w0 w10 g mb C7 T7 L7 f7 (pSet p t c s)) (H7.out.1.set hg9 hkm9) ?_; clear hkm9 hg9 hkm w9; rintro w9 R9)
            go_meet
            case rel => exact ⟨rfl, nm + 1, C7, T7, L7, f7, _, by omega, R9, H7.out.2⟩
        · go_wp2_with fail
          refine (fillKB H6.out HR.out.2.1 htt.out.1 (by have := htt.out.2; omega) hcc.out.1 hsz.out (by omega)).mono ?_
          rintro e w7 ⟨b, rfl, C7, T7, L7, f7, R7, hcl7⟩
          have H7 := Lib.hid (And.intro R7 hcl7)
          clear R7 hcl7
          go_wp2_with fail
          go_meet
          case rel => exact ⟨rfl, nm, C7, T7, L7, f7, p, by omega, H7.out.1, H7.out.2⟩
        · go_wp2_with fail
          refine (fillKB H6.out HR.out.2.1 htt.out.1 (by have := htt.out.2; omega) hcc.out.1 hsz.out (by omega)).mono ?_
          rintro e w7 ⟨b, rfl, C7, T7, L7, f7, R7, hcl7⟩
          have H7 := Lib.hid (And.intro R7 hcl7)
          clear R7 hcl7
          go_wp2_with fail
          go_meet
          case rel => exact ⟨rfl, nm, C7, T7, L7, f7, p, by omega, H7.out.1, H7.out.2⟩
        · go_wp2_with fail
          refine (getKB H6.out HR.out.2.1 htt.out.1 (by have := htt.out.2; omega) hcc.out.1).mono ?_
          rintro e w7 ⟨v7, b, rfl, C7, T7, R7, hcl7⟩
          have H7 := Lib.hid (And.intro R7 hcl7)
          clear R7 hcl7
          go_wp2_with fail
          go_meet
          case rel => exact ⟨rfl, nm, C7, T7, L, f, p, by omega, H7.out.1.mono (by omega), H7.out.2⟩
        · go_wp2_with fail
          refine (doneKB H6.out HR.out.2.1 htt.out.1 (by have := htt.out.2; omega) (HT.out.below (H0.out.trans (H6.out.b.mono H0.out.size)) HT.out.lt) (by omega)).mono ?_
          rintro e w7 ⟨b, rfl, C7, T7, f7, R7, hcl7⟩
          have H7 := Lib.hid (And.intro R7 hcl7)
          clear R7 hcl7
          go_wp2_with fail
          go_loopw [104] (fun i wr => ∃ d : Nat, d ≤ data ∧ i = .int .i64 d ∧ KB w0.heap.size (2 * k + 2) nm data w0 wr g mb C7 T7 L f7 (fun i j v => ¬ (i = t ∧ 0 ≤ j ∧ j < (d : Int)) ∧ p i j v)) (fun i _ => data - (intOf i).toNat)
          case atStart => exact ⟨0, Nat.zero_le _, rfl, H7.out.1.imp (fun i j v hp => ⟨fun e => by omega, hp⟩)⟩
          case round =>
            obtain ⟨d, hd, rfl, hK⟩ := hrel
            have hkm := hK.km
            have HK := Lib.hid hK
            clear hK
            by_cases hlt2 : d < data
            · go_wp2_with (at_delete; refine wpList_delete_km rfl _ _ rfl rfl hkm t d rfl hcc.out.2.1 ⟨by omega, by omega⟩ ?_; intro w9 hkm9 hg9; refine wpList_world (fun w10 => KB w0.heap.size (2 * k + 2) nm data w0 w10 g mb C7 T7 L f7 (fun i' j' s' => ¬ (i' = t ∧ j' = (d : Int)) ∧ (¬ (i' = t ∧ 0 ≤ j' ∧ j' < (d : Int)) ∧ p i' j' s'))) (HK.out.set hg9 hkm9) ?_; clear hkm9 hg9 hkm w9; rintro w9 R9)
              refine ⟨⟨d + 1, by omega, by go_num, R9.imp (fun i j v hp => ⟨fun e => ?_, hp.2.2⟩)⟩, ?_⟩
              · rcases Int.lt_or_le j (d : Int) with h1 | h1
                · exact hp.2.1 ⟨e.1, e.2.1, h1⟩
                · exact hp.1 ⟨e.1, by omega⟩
              · simp [intOf] <;> omega
            · obtain rfl : data = d := by omega
              clear hkm
              go_wp2_with fail
              go_meet
              case rel =>
                refine ⟨rfl, nm, C7, T7, L, f7, fun i j v => i ≠ t ∧ p i j v, by omega, HK.out.imp (fun i j v hp => ⟨fun e => hp.1 ?_, hp.2⟩), H7.out.2⟩
                subst e
                obtain ⟨c', rfl, _, _, E, hE, hnt⟩ := HR.out.2.1.get hp.2
                have := (H6.out.at_.ent _ E hE).i1 c' hnt
                exact ⟨rfl, by omega, by omega⟩
        · go_wp2_with fail
          refine (dropKB H6.out HR.out.2.1 htt.out.1 (by have := htt.out.2; omega)).mono ?_
          rintro e w7 ⟨b, rfl, C7, T7, L7, f7, R7, hcl7⟩
          have H7 := Lib.hid (And.intro R7 hcl7)
          clear R7 hcl7
          go_wp2_with fail
          go_meet
          case rel => exact ⟨rfl, nm, C7, T7, L7, f7, p, by omega, H7.out.1.mono (by omega), H7.out.2⟩
        · go_wp2_with fail
          refine (getKB H6.out HR.out.2.1 htt.out.1 (by have := htt.out.2; omega) hcc.out.1).mono ?_
          rintro e w7 ⟨v7, b, rfl, C7, T7, R7, hcl7⟩
          have H7 := Lib.hid (And.intro R7 hcl7)
          clear R7 hcl7
          go_wp2_with fail
          go_meet
          case rel => exact ⟨rfl, nm, C7, T7, L, f, p, by omega, H7.out.1.mono (by omega), H7.out.2⟩
      case rest =>
        obtain ⟨rfl, nm2, C2, T2, L2, f2, p2, hn2, hK2, hcl2⟩ := hcut
        have hkm := hK2.km
        have HK2 := Lib.hid (And.intro hK2 hcl2)
        clear hK2 hcl2 H6 HR hv hve H5
        go_wp2_with (at_range; refine wpList_range_km rfl _ rfl rfl hkm ?_; intro r wr0 cnt hkr hgr hre; refine wpList_world (fun w10 => RB w0.heap.size (2 * k + 2) nm2 data w0 w10 g mb r C2 T2 L2 f2 p2 cnt) (HK2.out.1.range hkr hgr hre) ?_; clear hkr hgr hre hkm wr0; rintro wr0 R8)
        go_frame
        have H8 := Lib.hid R8
        clear R8
        go_loopw [16] (fun _ wr => ∃ (C : CM) (T : TS) (cnt : Nat), RB w0.heap.size (2 * k + 2) nm2 data w0 wr g mb r C T L2 f2 p2 cnt ∧ Keep T f2 p2) (fun _ wr => wr.rangeLeft mb r)
        case atStart => exact ⟨_, _, _, H8.out, HK2.out.2⟩
        case round =>
          obtain ⟨C3, T3, cnt3, hRB, hcl3⟩ := hrel
          have hkr := hRB.kr
          have HB3 := Lib.hid (And.intro hRB hcl3)
          clear hRB hcl3
          go_wp2_with (at_next; refine wpList_next_km rfl _ rfl rfl hkr ?_ ?_)
          · clear hkr
            go_wp2_with fail
            refine ⟨⟨k + 1, nm2, C3, T3, L2, f2, p2, by omega, by go_num, HB3.out.1.kb, HB3.out.2, by omega⟩, ?_⟩
            simp [intOf] <;> omega
          · intro i j v w4 cnt4 hi hj hp hkr4 hlt4 hg4 hsz4 hen
            have R4 := HB3.out.1.next hkr4 hg4
            have H4 := Lib.hid (And.intro R4 (And.intro hi (And.intro hp (And.intro hlt4 hkr.left_eq))))
            clear hkr hkr4 hg4 hsz4 R4 hi hj hp hlt4
            go_upto_region 32 with fail
            obtain ⟨ga, hga⟩ : ∃ g, g = w4.heap.size := ⟨_, rfl⟩
            refine wp_world (fun w5 => w5.row ga [.int .i64 i, .int .i64 j] tK ∧ Below w4.heap.size w4 w5) ⟨World.row.new' hga.symm, (Below.refl _ _).alloc (Nat.le_refl _) _⟩ ?_
            simp only [← hga]
            rintro w5 ⟨ra, b5⟩
            rw [hga] at b5
            clear hga hen
            have R5 := H4.out.1.below b5
            have k0 := ra.cell 0 rfl
            have k1 := ra.cell 1 rfl
            have H5 := Lib.hid R5
            clear R5 ra b5
            go_wp2_with fail
            refine (getRB H5.out HB3.out.2 H4.out.2.1 H4.out.2.2.1).mono ?_
            rintro e w6 ⟨rfl, C6, T6, R6, hcl6⟩
            have H6 := Lib.hid (And.intro R6 hcl6)
            clear R6 hcl6 k0 k1
            go_wp2_with fail
            refine ⟨⟨C6, T6, cnt4, H6.out.1, H6.out.2⟩, ?_⟩
            have e1 := H6.out.1.kr.left_eq
            have e2 := H4.out.2.2.2.2
            have e3 := H4.out.2.2.2.1
            rw [e1, e2]; exact e3
    · obtain rfl : k = n := by omega
      have HB := Lib.hid (H0.out.trans (hR.b.mono H0.out.size))
      clear hR hcl hnm
      go_wp2_with fail
      go_returns
      exact ⟨rfl, HB.out⟩
end Go.Proofs.YtijagdpkclghnaaDoor
/- CacheKeeps: what was put is had, as it was put last, till the stripe is done, whatever else is filled, put, asked for, and dropped: for every input the Go function trunnionlaw24.CacheKeeps returns true and leaves its arguments as they were. The row lists the variable math/bits.deBruijn64tab, which the card ties to the program's text. -/
namespace Go.Proofs.YtijagdpkclghnaaDoor
open Go Go.ChangeShapes Go.WideShapes Go.ChangeAt Go.RowKit
set_option maxRecDepth 100000 in
theorem cacheKeeps_lifted (os : Os) (started : os.Started) (H : Type) (enc : TypeId × Value → H) :
    ReturnsInHanded {} Tryd.checked os 4 .any (fun w args => (Rows.cacheKeepsSpec.pre enc Tryd.prog Tryd.f4 [] false w args ∧ laidMet Tryd.prog [("math/bits.deBruijn64tab", Rows.laid_math_bits_deBruijn64tab)] w) ∧ sizedMet enc Tryd.prog Tryd.f4 (OpenSpec.ofChange Rows.cacheKeepsSpec) false w args)
      (Rows.cacheKeepsSpec.post enc Tryd.prog Tryd.f4 false true false false) := by
  refine law_row Tryd.func4 rfl (by kernel_rfl) (by kernel_rfl) (by rw [Tryd.params4]; intro t ht; simp at ht; rcases ht with rfl | rfl <;> exact ⟨by kernel_rfl, of_decide_eq_true (by kernel_rfl)⟩) os started H enc #[.agg #[.int .i64 0, .int .i64 0, .int .i64 0], .slice none 0 0] (by kernel_rfl) (by kernel_rfl) (by kernel_rfl) (by kernel_rfl) (by kernel_rfl) ?_
  intro W base args ds p hval hA hsz hT
  rw [Tryd.params4] at hA hval
  obtain ⟨v0, vs0, d0, ds0, p0, q0, hargs, rfl, rfl, h0, r0⟩ := trodAll_cons hA
  obtain ⟨v1, vs1, d1, ds1, p1, q1, rfl, rfl, rfl, h1, r1⟩ := trodAll_cons r0
  obtain ⟨rfl, rfl, rfl⟩ := trodAll_nil r1
  obtain rfl : args = #[v0, v1] := by cases args; simp_all
  obtain ⟨x0, y0, z0, rfl, _, _, _⟩ := open_three Tryd.underlying37 Tryd.underlying3 (by kernel_rfl) (by kernel_rfl) (hval 0 _ v0 rfl rfl) h0
  obtain ⟨a1, m1, c1, rfl⟩ := okWide_slice Tryd.underlying23 (hval 1 _ v1 rfl rfl)
  obtain ⟨l1, hl1, hc1, _, hn1, hd1⟩ := open_acts h1
  exact ⟨rfl, keeps_walk x0 y0 z0 a1 m1 c1 l1 W hT hl1 hc1 hn1 hd1⟩
theorem cacheKeeps_said : Rows.CacheKeepsSaid :=
  OpenClaim.holds_of_wide 4 Tryd.f4 rfl rfl rfl rfl rfl rfl rfl ⟨rfl, rfl, rfl, rfl, rfl⟩ rfl rfl rfl rfl rfl (by kernel_rfl) Tryd.func4 (by kernel_rfl)
    (of_decide_eq_true (by kernel_rfl)) (by unfold Func.isWrapper; first | (rw [if_pos (by decide +kernel)]; kernel_rfl) | (rw [if_neg (by decide +kernel)]; exact ⟨rfl, rfl⟩))
    (fun os started H enc _ => cacheKeeps_lifted os started H enc)
theorem cacheKeeps_card : Rows.CacheKeepsCardSaid :=
  Claim7.holds_tied_plain_at .later [] [.data] true Rows.cacheKeepsCard.stood.harness false
    cacheKeeps_said (fun _ h => by cases h) (by kernel_rfl) (fun _ h => by cases h) cacheKeeps_row_tie rfl ⟨rfl, rfl⟩ (by kernel_rfl) rfl
    (fun f fn hf hfn => by
      obtain rfl : f = 4 := Option.some.inj ((show Tryd.prog.funcNamed "trunnion/trunnionlaw24.CacheKeeps" = some 4 by kernel_rfl).symm.trans hf) |>.symm
      obtain rfl : fn = Tryd.f4 := (Option.some.inj (Tryd.func4.symm.trans hfn)).symm
      refine ⟨by kernel_rfl, fun j t ht => ?_⟩
      rw [Tryd.params4] at ht
      have hm : t ∈ [37, 23] := by simpa using Array.mem_of_getElem? ht
      simp at hm
      rcases hm with rfl | rfl <;> exact (show Tryd.prog.wantsStandIn _ = false by kernel_rfl))
    (by kernel_rfl)
#print axioms cacheKeeps_card
end Go.Proofs.YtijagdpkclghnaaDoor
