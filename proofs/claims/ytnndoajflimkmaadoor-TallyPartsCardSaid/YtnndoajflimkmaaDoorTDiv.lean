/- math/bits.Div64: its contract. -/
import Derived.Test.YtnndoajflimkmaaDoorTDivLaw
import Derived.Test.YtnndoajflimkmaaDoorTPart
import Derived.Lib.ItoaNum
import Derived.Deep.CutBlock
import Derived.Deep.DeepCutAuto
namespace Go.Proofs.YtnndoajflimkmaaDoor
open Go Go.RowKit Go.Shelf
set_option maxRecDepth 100000
shelf_lay Lays.n134 Nm 134 at Tryd as lays134
theorem Lead_any (x s : Nat) (w : World) (hx : x < 18446744073709551616) (hs : s + Lib.bitLen x = 64) : Calls Tryd.prog 32 #[.int .u64 (x : Int)] w fun e w' => e = .returned (.int .i64 (s : Int)) ∧ w = w' := by
  have h := Any.bits_LeadingZeros64 lays134 (x : Int) w (by omega) (by omega)
  refine h.mono ?_
  rintro e w' ⟨h1, h2⟩
  refine ⟨?_, h2.symm⟩
  rw [h1]
  congr 2
  have : ((x : Int).toNat) = x := by omega
  rw [this]
  omega
/-- The names of what Div64 reckons, and what each is, in the walk's forms. -/
structure DivAt (hi lo y s Y y1 y0 H u L u1 u0 : Nat) : Prop where
  fs : s ≤ 63
  fY : IntKind.u64.wrap ((y : Int) * 2 ^ s) = (Y : Int)
  fy1 : (Y : Int) / 4294967296 = (y1 : Int)
  fy0 : bits .and .u64 (Y : Int) 4294967295 = (y0 : Int)
  fH : IntKind.u64.wrap ((hi : Int) * 2 ^ s) = (H : Int)
  fu : bits .or .u64 (H : Int) ((lo : Int) / 2 ^ (64 - s)) = (u : Int)
  fL : IntKind.u64.wrap ((lo : Int) * 2 ^ s) = (L : Int)
  fu1 : (L : Int) / 4294967296 = (u1 : Int)
  fu0 : bits .and .u64 (L : Int) 4294967295 = (u0 : Int)
  eY : Y = y1 * 4294967296 + y0
  lY : Y < 18446744073709551616
  gY : 2147483648 ≤ y1
  l0 : y0 < 4294967296
  l1 : u1 < 4294967296
  l2 : u0 < 4294967296
  lu : u < Y
  res : (hi * 18446744073709551616 + lo) / y = (u * 18446744073709551616 + (u1 * 4294967296 + u0)) / Y
theorem wrapN (n : Nat) (h : n < 18446744073709551616) : IntKind.u64.wrap (n : Int) = (n : Int) := IntWalk.u64_in _ (by omega)
theorem divAt (hi lo y s : Nat) (hlo : lo < 18446744073709551616) (hy : y < 18446744073709551616) (hlt : hi < y) (hs : s + Lib.bitLen y = 64) : ∃ Y y1 y0 H u L u1 u0, DivAt hi lo y s Y y1 y0 H u L u1 u0 := by
  obtain ⟨b1, b2, b3⟩ := Lib.bitLenAux_bounds 64 y hy (by omega)
  have b1' : 1 ≤ Lib.bitLen y := b1
  have b2' : 2 ^ (Lib.bitLen y - 1) ≤ y := b2
  have b3' : y < 2 ^ Lib.bitLen y := b3
  have hs63 : s ≤ 63 := by omega
  have p1 : 2 ^ Lib.bitLen y * 2 ^ s = 18446744073709551616 := by rw [← Nat.pow_add, show Lib.bitLen y + s = 64 by omega]
  have p2 : 2 ^ (Lib.bitLen y - 1) * 2 ^ s = 9223372036854775808 := by rw [← Nat.pow_add, show Lib.bitLen y - 1 + s = 63 by omega]
  have p3 : 2 ^ (64 - s) * 2 ^ s = 18446744073709551616 := by rw [← Nat.pow_add, show 64 - s + s = 64 by omega]
  have hp : 0 < 2 ^ s := Nat.pow_pos (by decide)
  have hq : 0 < 2 ^ (64 - s) := Nat.pow_pos (by decide)
  have y_lt : y * 2 ^ s < 18446744073709551616 := by rw [← p1]; exact Nat.mul_lt_mul_of_pos_right b3' hp
  have y_ge : 9223372036854775808 ≤ y * 2 ^ s := by rw [← p2]; exact Nat.mul_le_mul_right _ b2'
  have h_lt : hi * 2 ^ s + 2 ^ s ≤ y * 2 ^ s := by rw [← Nat.succ_mul]; exact Nat.mul_le_mul_right _ hlt
  have q_lt : lo / 2 ^ (64 - s) < 2 ^ s := (Nat.div_lt_iff_lt_mul hq).2 (by rw [Nat.mul_comm, p3]; exact hlo)
  have l_div : lo * 2 ^ s / 18446744073709551616 = lo / 2 ^ (64 - s) := by rw [← p3, Nat.mul_div_mul_right _ _ hp]
  have l_mod := Nat.div_add_mod (lo * 2 ^ s) 18446744073709551616
  rw [l_div] at l_mod
  have hL : lo * 2 ^ s % 18446744073709551616 < 18446744073709551616 := Nat.mod_lt _ (by decide)
  refine ⟨y * 2 ^ s, y * 2 ^ s / 4294967296, y * 2 ^ s % 4294967296, hi * 2 ^ s, hi * 2 ^ s + lo / 2 ^ (64 - s), lo * 2 ^ s % 18446744073709551616,
    lo * 2 ^ s % 18446744073709551616 / 4294967296, lo * 2 ^ s % 18446744073709551616 % 4294967296, ?_⟩
  have hres : (hi * 18446744073709551616 + lo) / y = ((hi * 2 ^ s + lo / 2 ^ (64 - s)) * 18446744073709551616 + lo * 2 ^ s % 18446744073709551616) / (y * 2 ^ s) := by
    rw [← Nat.mul_div_mul_right _ y hp]
    congr 1
    rw [Nat.add_mul, Nat.add_mul, Nat.mul_assoc, Nat.mul_assoc, Nat.mul_comm 18446744073709551616 (2 ^ s)]
    omega
  have e2 : ((2 : Int) ^ s) = ((2 ^ s : Nat) : Int) := by rw [Int.natCast_pow]; rfl
  have e3 : ((2 : Int) ^ (64 - s)) = ((2 ^ (64 - s) : Nat) : Int) := by rw [Int.natCast_pow]; rfl
  have eor : hi * 2 ^ s ||| lo / 2 ^ (64 - s) = hi * 2 ^ s + lo / 2 ^ (64 - s) := by
    rw [Nat.mul_comm hi, Nat.two_pow_add_eq_or_of_lt q_lt]
  have fH : IntKind.u64.wrap ((hi : Int) * 2 ^ s) = ((hi * 2 ^ s : Nat) : Int) := by rw [e2, ← Int.natCast_mul]; exact wrapN _ (by omega)
  have fu : bits .or .u64 ((hi * 2 ^ s : Nat) : Int) ((lo : Int) / 2 ^ (64 - s)) = ((hi * 2 ^ s + lo / 2 ^ (64 - s) : Nat) : Int) := by
    rw [e3, ← Int.natCast_ediv, u64_or_nat _ _ (by omega) (by omega), eor]
  have fY : IntKind.u64.wrap ((y : Int) * 2 ^ s) = ((y * 2 ^ s : Nat) : Int) := by rw [e2, ← Int.natCast_mul]; exact wrapN _ y_lt
  have fL : IntKind.u64.wrap ((lo : Int) * 2 ^ s) = ((lo * 2 ^ s % 18446744073709551616 : Nat) : Int) := by rw [e2, ← Int.natCast_mul, IntKind.wrap_u64, Int.natCast_emod]; rfl
  have lu : hi * 2 ^ s + lo / 2 ^ (64 - s) < y * 2 ^ s := by omega
  clear e2 e3 eor h_lt q_lt l_div l_mod hq hp p1 p2 p3 b1 b2 b3 b1' b2' b3'
  obtain ⟨Y, hY⟩ : ∃ Y, Y = y * 2 ^ s := ⟨_, rfl⟩
  obtain ⟨L, hLe⟩ : ∃ L, L = lo * 2 ^ s % 18446744073709551616 := ⟨_, rfl⟩
  rw [← hY] at hres fY lu y_lt y_ge ⊢
  rw [← hLe] at hres fL hL ⊢
  have aY : Y &&& 4294967295 = Y % 4294967296 := Nat.and_two_pow_sub_one_eq_mod Y 32
  have aL : L &&& 4294967295 = L % 4294967296 := Nat.and_two_pow_sub_one_eq_mod L 32
  exact ⟨hs63, fY, by omega, by rw [show (4294967295 : Int) = ((4294967295 : Nat) : Int) from rfl, u64_and_nat _ _ y_lt (by decide), aY], fH, fu, fL, by omega,
    by rw [show (4294967295 : Int) = ((4294967295 : Nat) : Int) from rfl, u64_and_nat _ _ hL (by decide), aL], (Nat.div_add_mod' Y 4294967296).symm, y_lt, by omega, by omega, by omega, by omega, lu,
    by rw [hres, Nat.div_add_mod' L 4294967296]⟩
theorem guessFacts (u y1 : Nat) (hu : u < 18446744073709551616) : ∃ q r, q = u / y1 ∧ r = u % y1 ∧ IntKind.u64.wrap ((u : Int) / (y1 : Int)) = (q : Int) ∧ IntKind.u64.wrap ((q : Int) * (y1 : Int)) = (q : Int) * (y1 : Int) ∧
    IntKind.u64.wrap ((u : Int) - (q : Int) * (y1 : Int)) = (r : Int) := by
  have e := Nat.div_add_mod' u y1
  refine ⟨u / y1, u % y1, rfl, rfl, ?_, ?_, ?_⟩
  · exact wrapN _ (Nat.lt_of_le_of_lt (Nat.div_le_self _ _) hu)
  · rw [(Int.natCast_mul _ _).symm]
    exact wrapN _ (by omega)
  · rw [(Int.natCast_mul _ _).symm, show (u : Int) - ((u / y1 * y1 : Nat) : Int) = ((u % y1 : Nat) : Int) by omega]
    exact wrapN _ (by omega)
set_option maxHeartbeats 2000000 in
theorem Div_any (hi lo y s : Nat) (w : World) (hhi : 0 < hi) (hlo : lo < 18446744073709551616) (hy : y < 18446744073709551616) (hlt : hi < y) (hs : s + Lib.bitLen y = 64) :
    Calls Tryd.prog 25 #[.int .u64 hi, .int .u64 lo, .int .u64 y] w fun e w' => (∃ r, e = .returned (.tuple #[.int .u64 (((hi * 18446744073709551616 + lo) / y : Nat) : Int), r])) ∧ w = w' := by
  obtain ⟨Y, y1, y0, H, u, L, u1, u0, D⟩ := divAt hi lo y s hlo hy hlt hs
  rw [D.res]
  go_enter Tryd.func25, Tryd.ntmps25
  have e0 : (y = 0) = False := eq_false (by omega)
  have e1 : (y ≤ hi) = False := eq_false (by omega)
  have e2 : (hi = 0) = False := eq_false (by omega)
  go_wp2_with fail
  refine (Lead_any y s _ hy hs).mono ?_
  rintro e w' ⟨rfl, rfl⟩
  have fs := D.fs
  have fY := D.fY
  have fy1 := D.fy1
  have fy0 := D.fy0
  have fH := D.fH
  have fu := D.fu
  have fL := D.fL
  have fu1 := D.fu1
  have fu0 := D.fu0
  have e3 : (y1 = 0) = False := eq_false (by have := D.gY; omega)
  obtain ⟨q, r, hq, hr, fq, fqy, fr⟩ := guessFacts u y1 (Nat.lt_trans D.lu D.lY)
  have G0 : Guess u u1 y1 y0 q r := by rw [hq, hr]; exact Guess.start u u1 y1 y0 (by have := D.gY; omega) D.l1
  have r0 : r < 4294967296 := by rw [hr]; exact Nat.lt_of_lt_of_le (Nat.mod_lt _ (by have := D.gY; omega)) (by have := D.eY; have := D.lY; omega)
  have DD := Lib.hid D
  have huY : u < y1 * 4294967296 + y0 := by have := D.lu; have := D.eY; omega
  have hy1 : 0 < y1 := by have := D.gY; omega
  clear hq hr D
  go_upto_block 0 with fail
  go_cut [15, 16] (fun q' r' wc => ∃ r : Nat, q' = .int .u64 (((u * 4294967296 + u1) / (y1 * 4294967296 + y0) : Nat) : Int) ∧ r' = .int .u64 (r : Int) ∧ w = wc)
  case first =>
    have HU := Lib.hid (And.intro huY hy1)
    have HR := Lib.hid r0
    clear huY hy1 r0
    go_wp2_with fail
    go_loopw [15, 16] (fun q' r' wr => ∃ q r : Nat, q' = .int .u64 q ∧ r' = .int .u64 r ∧ Guess u u1 y1 y0 q r ∧ r < 4294967296 ∧ w = wr) (fun q' _ _ => (intOf q').toNat)
    case atStart => exact ⟨q, r, rfl, rfl, G0, HR.out, rfl⟩
    case round =>
      clear G0 HR fq fqy fr fY fy1 fy0 fH fu fL fu1 fu0 e0 e1 e2 e3 hs fs hlt hy hlo hhi
      obtain ⟨q, r, rfl, rfl, G, hr, rfl⟩ := hrel
      have hqb := guess_bound G (Nat.lt_trans DD.out.lu DD.out.lY) DD.out.gY
      have hy1b : y1 < 4294967296 := by have := DD.out.eY; have := DD.out.lY; omega
      have iqb : (q : Int) ≤ 8589934592 := by omega
      have iyb : (y1 : Int) < 4294967296 := by omega
      have irb : (r : Int) < 4294967296 := by omega
      have iu1 : (u1 : Int) < 4294967296 := by have := DD.out.l1; omega
      obtain ⟨p, hp⟩ : ∃ p, p = q * y0 := ⟨_, rfl⟩
      have HP := Lib.hid hp
      have HG := Lib.hid G
      have HB := Lib.hid (And.intro hqb (And.intro hr hy1b))
      clear hqb hr hy1b G hp
      by_cases hA : (4294967296 : Int) ≤ (q : Int)
      · obtain ⟨hq1, G'⟩ := HG.out.step HU.out.2 DD.out.l1 HU.out.1 (.inl (by omega))
        have HG' := Lib.hid G'
        clear G'
        by_cases hB : (4294967296 : Int) ≤ (r : Int) + (y1 : Int)
        · go_wp2_with fail
          go_meet
          case rel => exact ⟨r + y1, by rw [← HG'.out.out HU.out.2 DD.out.l0 HU.out.1 (by omega)]; go_num, by go_num, rfl⟩
        · go_wp2_with fail
          go_roundw
          case rel => exact ⟨q - 1, r + y1, by go_num, by go_num, HG'.out, by omega, trivial⟩
          case measure => simp [intOf] <;> omega
      · have hpl : p ≤ 4294967295 * 4294967295 := by rw [HP.out]; exact Nat.mul_le_mul (by omega) (by have := DD.out.l0; omega)
        have fp : IntKind.u64.wrap ((q : Int) * (y0 : Int)) = (p : Int) := by rw [HP.out, ← Int.natCast_mul]; exact wrapN _ (by rw [← HP.out]; omega)
        clear hpl
        by_cases hC : 4294967296 * (r : Int) + (u1 : Int) < (p : Int)
        · obtain ⟨hq1, G'⟩ := HG.out.step HU.out.2 DD.out.l1 HU.out.1 (.inr (by rw [← HP.out]; omega))
          have HG' := Lib.hid G'
          clear G'
          by_cases hB : (4294967296 : Int) ≤ (r : Int) + (y1 : Int)
          · go_wp2_with fail
            go_meet
            case rel => exact ⟨r + y1, by rw [← HG'.out.out HU.out.2 DD.out.l0 HU.out.1 (by omega)]; go_num, by go_num, rfl⟩
          · go_wp2_with fail
            go_roundw
            case rel => exact ⟨q - 1, r + y1, by go_num, by go_num, HG'.out, by omega, trivial⟩
            case measure => simp [intOf] <;> omega
        · go_wp2_with fail
          go_meet
          case rel => exact ⟨r, by rw [← HG.out.stop HU.out.2 (by rw [← HP.out]; omega)], by go_num, rfl⟩
  case rest =>
    obtain ⟨r', rfl, rfl, rfl⟩ := hcut
    obtain ⟨N, hN⟩ : ∃ N, N = u * 4294967296 + u1 := ⟨_, rfl⟩
    have eY : y1 * 4294967296 + y0 = Y := DD.out.eY.symm
    rw [← hN, eY]
    obtain ⟨d, hd⟩ : ∃ d, d = N / Y := ⟨_, rfl⟩
    obtain ⟨R, hR⟩ : ∃ R, R = N % Y := ⟨_, rfl⟩
    rw [← hd]
    have hRY : R < Y := by rw [hR]; exact Nat.mod_lt _ (by omega)
    obtain ⟨P, hP⟩ : ∃ P, P = d * Y := ⟨_, rfl⟩
    have hNP : P + R = N := by rw [hP, hd, hR]; exact Nat.div_add_mod' N Y
    have hd2 : d < 4294967296 := by rw [hd, hN, ← eY]; exact digit_lt u u1 y1 y0 DD.out.l1 huY
    have lY := DD.out.lY
    obtain ⟨m1, hm1⟩ : ∃ m1 : Nat, IntKind.u64.wrap ((u : Int) * 4294967296) = (m1 : Int) := ⟨(IntKind.u64.wrap ((u : Int) * 4294967296)).toNat, (Int.toNat_of_nonneg (by rw [IntKind.wrap_u64]; exact Int.emod_nonneg _ (by decide))).symm⟩
    obtain ⟨m2, hm2⟩ : ∃ m2 : Nat, IntKind.u64.wrap ((m1 : Int) + (u1 : Int)) = (m2 : Int) := ⟨(IntKind.u64.wrap ((m1 : Int) + (u1 : Int))).toNat, (Int.toNat_of_nonneg (by rw [IntKind.wrap_u64]; exact Int.emod_nonneg _ (by decide))).symm⟩
    obtain ⟨m3, hm3⟩ : ∃ m3 : Nat, IntKind.u64.wrap ((d : Int) * (Y : Int)) = (m3 : Int) := ⟨(IntKind.u64.wrap ((d : Int) * (Y : Int))).toNat, (Int.toNat_of_nonneg (by rw [IntKind.wrap_u64]; exact Int.emod_nonneg _ (by decide))).symm⟩
    have hm4 : IntKind.u64.wrap ((m2 : Int) - (m3 : Int)) = (R : Int) := by
      rw [IntKind.wrap_u64] at hm1 hm2 hm3 ⊢
      rw [← Int.natCast_mul, ← hP] at hm3
      omega
    obtain ⟨q2, r2, hq2, hr2, gq, gqy, gr⟩ := guessFacts R y1 (Nat.lt_trans hRY lY)
    have G0' : Guess R u0 y1 y0 q2 r2 := by rw [hq2, hr2]; exact Guess.start R u0 y1 y0 hy1 DD.out.l2
    have r0' : r2 < 4294967296 := by rw [hr2]; exact Nat.lt_of_lt_of_le (Nat.mod_lt _ hy1) (by have := DD.out.eY; have := DD.out.lY; omega)
    have HU := Lib.hid (And.intro (show R < y1 * 4294967296 + y0 by omega) hy1)
    have HR := Lib.hid r0'
    have HF := Lib.hid (And.intro hN (And.intro hd (And.intro hR (And.intro hRY hd2))))
    clear hN hd hR hRY hP hNP hd2 lY hq2 hr2 r0' huY hy1 r0 G0 fq fqy fr
    go_upto_block 2 with fail
    go_cut [18, 16] (fun q' r' wc => ∃ r : Nat, q' = .int .u64 (((R * 4294967296 + u0) / (y1 * 4294967296 + y0) : Nat) : Int) ∧ r' = .int .u64 (r : Int) ∧ w = wc)
    case first =>
      go_wp2_with fail
      go_loopw [18, 16] (fun q' r' wr => ∃ q r : Nat, q' = .int .u64 q ∧ r' = .int .u64 r ∧ Guess R u0 y1 y0 q r ∧ r < 4294967296 ∧ w = wr) (fun q' _ _ => (intOf q').toNat)
      case atStart => exact ⟨q2, r2, rfl, rfl, G0', HR.out, rfl⟩
      case round =>
        clear G0' HR gq gqy gr fY fy1 fy0 fH fu fL fu1 fu0 e0 e1 e2 e3 hs fs hlt hy hlo hhi hm1 hm2 hm3 hm4
        obtain ⟨q, r, rfl, rfl, G, hr, rfl⟩ := hrel
        have hqb := guess_bound G (Nat.lt_trans HF.out.2.2.2.1 DD.out.lY) DD.out.gY
        have hy1b : y1 < 4294967296 := by have := DD.out.eY; have := DD.out.lY; omega
        have iqb : (q : Int) ≤ 8589934592 := by omega
        have iyb : (y1 : Int) < 4294967296 := by omega
        have irb : (r : Int) < 4294967296 := by omega
        have iu1 : (u0 : Int) < 4294967296 := by have := DD.out.l2; omega
        obtain ⟨p, hp⟩ : ∃ p, p = q * y0 := ⟨_, rfl⟩
        have HP := Lib.hid hp
        have HG := Lib.hid G
        have HB := Lib.hid (And.intro hqb (And.intro hr hy1b))
        clear hqb hr hy1b G hp
        by_cases hA : (4294967296 : Int) ≤ (q : Int)
        · obtain ⟨hq1, G'⟩ := HG.out.step HU.out.2 DD.out.l2 HU.out.1 (.inl (by omega))
          have HG' := Lib.hid G'
          clear G'
          by_cases hB : (4294967296 : Int) ≤ (r : Int) + (y1 : Int)
          · go_wp2_with fail
            go_meet
            case rel => exact ⟨r + y1, by rw [← HG'.out.out HU.out.2 DD.out.l0 HU.out.1 (by omega)]; go_num, by go_num, rfl⟩
          · go_wp2_with fail
            go_roundw
            case rel => exact ⟨q - 1, r + y1, by go_num, by go_num, HG'.out, by omega, trivial⟩
            case measure => simp [intOf] <;> omega
        · have hpl : p ≤ 4294967295 * 4294967295 := by rw [HP.out]; exact Nat.mul_le_mul (by omega) (by have := DD.out.l0; omega)
          have fp : IntKind.u64.wrap ((q : Int) * (y0 : Int)) = (p : Int) := by rw [HP.out, ← Int.natCast_mul]; exact wrapN _ (by rw [← HP.out]; omega)
          clear hpl
          by_cases hC : 4294967296 * (r : Int) + (u0 : Int) < (p : Int)
          · obtain ⟨hq1, G'⟩ := HG.out.step HU.out.2 DD.out.l2 HU.out.1 (.inr (by rw [← HP.out]; omega))
            have HG' := Lib.hid G'
            clear G'
            by_cases hB : (4294967296 : Int) ≤ (r : Int) + (y1 : Int)
            · go_wp2_with fail
              go_meet
              case rel => exact ⟨r + y1, by rw [← HG'.out.out HU.out.2 DD.out.l0 HU.out.1 (by omega)]; go_num, by go_num, rfl⟩
            · go_wp2_with fail
              go_roundw
              case rel => exact ⟨q - 1, r + y1, by go_num, by go_num, HG'.out, by omega, trivial⟩
              case measure => simp [intOf] <;> omega
          · go_wp2_with fail
            go_meet
            case rel => exact ⟨r, by rw [← HG.out.stop HU.out.2 (by rw [← HP.out]; omega)], by go_num, rfl⟩
    case rest =>
      obtain ⟨r3, rfl, rfl, rfl⟩ := hcut
      obtain ⟨d2, hd2⟩ : ∃ d2, d2 = (R * 4294967296 + u0) / (y1 * 4294967296 + y0) := ⟨_, rfl⟩
      have hd2l : d2 < 4294967296 := by rw [hd2]; exact digit_lt R u0 y1 y0 DD.out.l2 HU.out.1
      rw [← hd2]
      have hdl := HF.out.2.2.2.2
      have id1 : (d : Int) < 4294967296 := by omega
      have id2 : (d2 : Int) < 4294967296 := by omega
      have hres : (u * 18446744073709551616 + (u1 * 4294967296 + u0)) / Y = d * 4294967296 + d2 := by
        rw [two_digits, HF.out.2.1, HF.out.1, hd2, eY, HF.out.2.2.1, HF.out.1]
      have HRES := Lib.hid hres
      clear hd2 hd2l hdl hres
      go_wp2_with fail
      go_ret2
      rw [HRES.out, show ((d * 4294967296 + d2 : Nat) : Int) = (d : Int) * 4294967296 + (d2 : Int) by omega]
      exact ⟨⟨_, rfl⟩, rfl⟩
end Go.Proofs.YtnndoajflimkmaaDoor
