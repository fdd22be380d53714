/- The law's good: its contract. -/
import Derived.Test.YtdmbenhhjpeepaaDoorPStates
namespace Go.Proofs.YtdmbenhhjpeepaaDoor
open Go Go.RowKit
set_option maxRecDepth 100000
/-- The first two of a number's bits below k, and how many. -/
def pick2 (L : Nat) : Nat → Nat × Nat
  | 0 => (0, 0)
  | k + 1 => if L.testBit k && decide ((pick2 L k).2 < 2) then ((pick2 L k).1 ||| 2 ^ k, (pick2 L k).2 + 1) else pick2 L k
theorem pick2_le (L : Nat) : ∀ k, (pick2 L k).2 ≤ 2
  | 0 => by simp [pick2]
  | k + 1 => by
    have := pick2_le L k
    unfold pick2
    split
    · rename_i h
      simp at h
      show (pick2 L k).2 + 1 ≤ 2
      omega
    · exact this
theorem pick2_lt (L : Nat) : ∀ k, (pick2 L k).1 < 2 ^ k
  | 0 => by simp [pick2]
  | k + 1 => by
    have := pick2_lt L k
    have h2 : (pick2 L k).1 < 2 ^ (k + 1) := by rw [Nat.pow_succ]; omega
    unfold pick2
    split
    · exact Nat.or_lt_two_pow h2 (Nat.pow_lt_pow_right (by omega) (by omega))
    · exact h2
/-- How many data columns. -/
def Raw.dn (x : Raw) : Nat := (2 + (if 0 < x.data then x.data else 0) % 6).toNat
theorem Raw.dn_le (x : Raw) : 2 ≤ x.dn ∧ x.dn ≤ 7 := by unfold Raw.dn; constructor <;> (split <;> omega)
theorem Raw.dn_eq (x : Raw) : (2 + (if 0 < x.data then x.data else 0) % 6) = (x.dn : Int) := by unfold Raw.dn; split <;> omega
theorem and_small {a m : Nat} (h : m < 18446744073709551616) : a &&& m < 18446744073709551616 := Nat.lt_of_le_of_lt Nat.and_le_right h
theorem ones_lt {n : Nat} (h : n ≤ 7) : 2 ^ n - 1 < 18446744073709551616 := by
  have : 2 ^ n ≤ 2 ^ 7 := Nat.pow_le_pow_right (by decide) h
  omega
def dirt (D m : Nat) : Nat := if D &&& m = 0 then 1 else D &&& m
theorem dirt_lt {D m : Nat} (h : m < 18446744073709551616) : dirt D m < 18446744073709551616 := by
  unfold dirt
  split
  · decide
  · exact and_small h
/-- The law's good. -/
def Raw.gd (x : Raw) : Raw where
  data := x.dn
  D := dirt x.D (2 ^ x.dn - 1)
  H := x.H &&& (2 ^ x.dn - 1) ||| dirt x.D (2 ^ x.dn - 1)
  K := x.K &&& (2 ^ x.dn - 1)
  L := (pick2 x.L (x.dn + 2)).1
  hD := dirt_lt (ones_lt x.dn_le.2)
  hH := Nat.or_lt_two_pow (n := 64) (and_small (ones_lt x.dn_le.2)) (dirt_lt (ones_lt x.dn_le.2))
  hK := and_small (ones_lt x.dn_le.2)
  hL := Nat.lt_of_lt_of_le (pick2_lt _ _) (by have := x.dn_le.2; exact Nat.pow_le_pow_right (by decide) (show x.dn + 2 ≤ 64 by omega))
theorem Raw.cells_one (x : Raw) : ∀ v ∈ x.cells, v.oneCell' = true := by
  intro v hv
  simp only [Raw.cells, List.mem_cons, List.not_mem_nil, or_false] at hv
  rcases hv with rfl | rfl | rfl | rfl | rfl <;> rfl
theorem rtW : RowTy Tryd.prog 24 5 := ⟨_, Tryd.underlying24, rfl, by kernel_rfl⟩
theorem ones_word {n : Nat} (h : n ≤ 7) : IntKind.u64.wrap (IntKind.u64.wrap (2 ^ n) - 1) = ((2 ^ n - 1 : Nat) : Int) := by
  have h1 : 2 ^ n ≤ 2 ^ 7 := Nat.pow_le_pow_right (by decide) h
  have h2 : 0 < 2 ^ n := Nat.two_pow_pos n
  rw [pow_wrap n (by omega), IntKind.wrap_u64]
  omega
set_option maxHeartbeats 4000000 in
theorem gd_any (x : Raw) (w : World) : Calls Tryd.prog 5 #[x.val] w fun e w' => e = .returned x.gd.val ∧ Below w.heap.size w w' := by
  go_enter Tryd.func5, Tryd.ntmps5
  go_upto_region 1 with fail
  obtain ⟨g, hg⟩ : ∃ g, g = w.heap.size := ⟨_, rfl⟩
  refine wp_world (fun w1 => w1.row g x.cells 24 ∧ w1.row (g + 1) [.int .i64 0, .int .u64 0, .int .u64 0, .int .u64 0, .int .u64 0] 24 ∧ Below g w w1) ⟨(World.row.new' (cs := x.cells) hg.symm).alloc _, World.row.new' (by simp [hg]), by rw [hg]; exact (by repeat' (first | (with_reducible exact Below.refl _ _) | (with_reducible assumption) | (with_reducible refine Below.setCell ?_ ?_ _) | (with_reducible refine Below.ext ?_ _ ?_) | (with_reducible refine Below.alloc ?_ ?_ _) | (with_reducible refine Below.drew ?_) | (with_reducible refine Below.drewN ?_ _) | (with_reducible exact Nat.le_refl _) | (dsimp only; omega) | (simp <;> omega)))⟩ ?_
  rintro w1 ⟨r1, r2, B1⟩
  simp only [← hg]
  have hgl : w.heap.size ≤ g := Nat.le_of_eq hg.symm
  have hgu : g ≤ w.heap.size := Nat.le_of_eq hg
  clear hg
  obtain ⟨x0, x1, x2, x3, x4⟩ := five r1
  have z1 := r1.free
  go_upto_region 2 with fail
  obtain ⟨n, hn⟩ : ∃ n : Nat, n = x.dn := ⟨_, rfl⟩
  have hn7 : n ≤ 7 := by rw [hn]; exact x.dn_le.2
  have HG : Hid (x.gd.cells = [.int .i64 (n : Int), .int .u64 (dirt x.D (2 ^ n - 1) : Nat), .int .u64 (x.H &&& (2 ^ n - 1) ||| dirt x.D (2 ^ n - 1) : Nat), .int .u64 (x.K &&& (2 ^ n - 1) : Nat), .int .u64 ((pick2 x.L (n + 2)).1 : Nat)]) := Lib.hid (by rw [hn]; rfl)
  refine wp_world (fun w2 => w2.row g [.int .i64 (n : Int), .int .u64 (x.D : Int), .int .u64 (x.H : Int), .int .u64 (x.K : Int), .int .u64 (x.L : Int)] 24 ∧ w2.row (g + 1) [.int .i64 0, .int .u64 0, .int .u64 0, .int .u64 0, .int .u64 0] 24 ∧ Below g w w2) ⟨by rw [hn, ← x.dn_eq]; exact r1.set 0 _, r2.other _ _ (by simp), (by repeat' (first | (with_reducible exact Below.refl _ _) | (with_reducible assumption) | (with_reducible refine Below.setCell ?_ ?_ _) | (with_reducible refine Below.ext ?_ _ ?_) | (with_reducible refine Below.alloc ?_ ?_ _) | (with_reducible refine Below.drew ?_) | (with_reducible refine Below.drewN ?_ _) | (with_reducible exact Nat.le_refl _) | (dsimp only; omega) | (simp <;> omega)))⟩ ?_
  clear hn x0 x1 x2 x3 x4 z1 r1 r2 B1
  generalize (if 0 < x.data then x.data else 0) = v0
  rintro w2 ⟨r1, r2, B1⟩
  obtain ⟨x0, x1, x2, x3, x4⟩ := five r1
  go_upto_region 3 with fail
  rw [ones_word hn7]
  obtain ⟨m, hm⟩ : ∃ m, m = 2 ^ n - 1 := ⟨_, rfl⟩
  have hml : m < 18446744073709551616 := by rw [hm]; exact ones_lt hn7
  rw [← hm] at HG ⊢
  clear hm
  have z1 := r1.free
  go_upto_if 24 with fail
  rw [u64_and_nat x.D m x.hD hml]
  have q1 := r1.set 1 (.int .u64 (x.D &&& m : Nat))
  have q2 := r2.other ⟨g, 1, none⟩ (.int .u64 (x.D &&& m : Nat)) (by simp)
  have qB : Below g w (w2.setCell ⟨g, 1, none⟩ (.int .u64 (x.D &&& m : Nat))) := (by repeat' (first | (with_reducible exact Below.refl _ _) | (with_reducible assumption) | (with_reducible refine Below.setCell ?_ ?_ _) | (with_reducible refine Below.ext ?_ _ ?_) | (with_reducible refine Below.alloc ?_ ?_ _) | (with_reducible refine Below.drew ?_) | (with_reducible refine Below.drewN ?_ _) | (with_reducible exact Nat.le_refl _) | (dsimp only; omega) | (simp <;> omega)))
  generalize w2.setCell ⟨g, 1, none⟩ (.int .u64 (x.D &&& m : Nat)) = w3 at *
  clear r1 r2 x0 x1 x2 x3 x4 B1 z1
  go_cut [] (fun wc => wc.row g [.int .i64 (n : Int), .int .u64 (dirt x.D m : Nat), .int .u64 (x.H : Int), .int .u64 (x.K : Int), .int .u64 (x.L : Int)] 24 ∧ wc.row (g + 1) [.int .i64 0, .int .u64 0, .int .u64 0, .int .u64 0, .int .u64 0] 24 ∧ Below g w wc)
  case first =>
    by_cases h0 : x.D &&& m = 0
    · have hb : (((x.D &&& m : Nat) : Int) == 0) = true := by simp [h0]
      obtain ⟨_, c1, _⟩ := five q1
      have z1 := q1.free
      have hd : dirt x.D m = 1 := by unfold dirt; rw [if_pos h0]
      have HQ := Lib.hid (And.intro hd (And.intro q1 (And.intro q2 qB)))
      clear hd q1 q2 qB h0
      go_wp2_with fail
      go_meet
      case rel => exact ⟨by rw [HQ.out.1]; exact HQ.out.2.1.set 1 _, HQ.out.2.2.1.other _ _ (by simp), HQ.out.2.2.2.setCell (by simp) _⟩
    · have hb : (((x.D &&& m : Nat) : Int) == 0) = false := by simp [h0]
      have hd : dirt x.D m = x.D &&& m := by unfold dirt; rw [if_neg h0]
      have HQ := Lib.hid (And.intro hd (And.intro q1 (And.intro q2 qB)))
      clear hd q1 q2 qB h0
      go_wp2_with fail
      go_meet
      case rel => exact ⟨by rw [HQ.out.1]; exact HQ.out.2.1, HQ.out.2.2⟩
  case rest =>
    obtain ⟨r1, r2, B1⟩ := hcut
    clear q1 q2 qB
    obtain ⟨x0, x1, x2, x3, x4⟩ := five r1
    have z1 := r1.free
    have hdl : dirt x.D m < 18446744073709551616 := dirt_lt hml
    generalize dirt x.D m = D' at *
    go_upto_region 8 with fail
    rw [u64_and_nat x.H m x.hH hml, u64_and_nat x.K m x.hK hml, u64_or_nat (x.H &&& m) D' (and_small hml) hdl]
    refine wp_world (fun w2 => w2.row g [.int .i64 (n : Int), .int .u64 (D' : Int), .int .u64 (x.H &&& m ||| D' : Nat), .int .u64 (x.K &&& m : Nat), .int .u64 (x.L : Int)] 24 ∧ w2.row (g + 1) [.int .i64 0, .int .u64 0, .int .u64 0, .int .u64 0, .int .u64 0] 24 ∧ Below g w w2) ⟨(r1.set 2 _).set 3 _, (r2.other _ _ (by simp)).other _ _ (by simp), (by repeat' (first | (with_reducible exact Below.refl _ _) | (with_reducible assumption) | (with_reducible refine Below.setCell ?_ ?_ _) | (with_reducible refine Below.ext ?_ _ ?_) | (with_reducible refine Below.alloc ?_ ?_ _) | (with_reducible refine Below.drew ?_) | (with_reducible refine Below.drewN ?_ _) | (with_reducible exact Nat.le_refl _) | (dsimp only; omega) | (simp <;> omega)))⟩ ?_
    clear x0 x1 x2 x3 x4 z1 r1 r2 B1 hdl
    generalize hH : x.H &&& m ||| D' = H' at *
    generalize hK : x.K &&& m = K' at *
    clear hH hK
    rintro w4 ⟨r1, r2, B1⟩
    obtain ⟨x0, x1, x2, x3, x4⟩ := five r1
    have z1 := r1.free
    have HR := Lib.hid (And.intro r1 (And.intro r2 B1))
    clear r1 r2 B1
    obtain ⟨N, hN⟩ : ∃ N, N = n + 2 := ⟨_, rfl⟩
    have hN9 : N ≤ 9 := by omega
    have hNi : (n : Int) + 2 = (N : Int) := by omega
    rw [← hN] at HG
    clear hN
    go_wp2_with fail
    clear hNi
    go_loopw [4, 5, 42] (fun l c i wr => ∃ k : Nat, k ≤ N ∧ l = .int .u64 ((pick2 x.L k).1 : Nat) ∧ c = .int .i64 ((pick2 x.L k).2 : Nat) ∧ i = .int .i64 k ∧ w4 = wr) (fun _ _ i _ => N - (intOf i).toNat)
    case atStart => exact ⟨0, by omega, rfl, rfl, rfl, rfl⟩
    case round =>
      obtain ⟨k, hk, rfl, rfl, rfl, rfl⟩ := hrel
      have hc2 := pick2_le x.L k
      have hll := pick2_lt x.L k
      have HP := Lib.hid (show pick2 x.L (k + 1) = if x.L.testBit k && decide ((pick2 x.L k).2 < 2) then ((pick2 x.L k).1 ||| 2 ^ k, (pick2 x.L k).2 + 1) else pick2 x.L k from rfl)
      have HQ : Hid (k = N → (pick2 x.L (N)).1 = (pick2 x.L k).1) := Lib.hid (fun h => by rw [h])
      have HE : Hid (pick2 x.L k = ((pick2 x.L k).1, (pick2 x.L k).2)) := Lib.hid rfl
      generalize (pick2 x.L k).1 = l at *
      generalize (pick2 x.L k).2 = c at *
      by_cases hlt : k < N
      · have hlw : l < 18446744073709551616 := Nat.lt_of_lt_of_le hll (Nat.pow_le_pow_right (n := 2) (by decide) (show k ≤ 64 by omega))
        have HW := Lib.hid (And.intro hll hlw)
        clear hll hlw HQ
        have hb' := bit_of x.L k x.hL
        by_cases hb2 : x.L.testBit k = true
        · rw [hb2] at hb'
          have HB := Lib.hid hb2
          clear hb2
          by_cases hcl : c < 2
          · go_wp2_with fail
            go_roundw
            case rel =>
              refine ⟨k + 1, by omega, ?_, ?_, by go_num, trivial⟩
              · rw [HP.out, HB.out, pow_wrap k (by omega), u64_or_nat l (2 ^ k) HW.out.2 (Nat.pow_lt_pow_right (n := 64) (by decide) (by omega)), if_pos (by simp [hcl])]
              · rw [HP.out, HB.out, if_pos (by simp [hcl])]
                go_num
            case measure => simp [intOf] <;> omega
          · go_wp2_with fail
            go_roundw
            case rel =>
              refine ⟨k + 1, by omega, ?_, ?_, by go_num, trivial⟩
              · rw [HP.out, HB.out, if_neg (by simp; omega), HE.out]
              · rw [HP.out, HB.out, if_neg (by simp; omega), HE.out]
            case measure => simp [intOf] <;> omega
        · rw [Bool.not_eq_true] at hb2
          rw [hb2] at hb'
          have HB := Lib.hid hb2
          clear hb2
          go_wp2_with fail
          go_roundw
          case rel =>
            refine ⟨k + 1, by omega, ?_, ?_, by go_num, trivial⟩
            · rw [HP.out, HB.out, if_neg (by simp), HE.out]
            · rw [HP.out, HB.out, if_neg (by simp), HE.out]
          case measure => simp [intOf] <;> omega
      · have hke : k = N := by omega
        have HL := Lib.hid (HQ.out hke)
        clear HQ hke
        go_upto_region 18 with fail
        have G := HG.out
        rw [HL.out] at G
        refine wp_world (fun w2 => w2.row g x.gd.cells 24 ∧ w2.row (g + 1) [.int .i64 0, .int .u64 0, .int .u64 0, .int .u64 0, .int .u64 0] 24 ∧ Below g w w2) ⟨by rw [G]; exact HR.out.1.set 4 _, HR.out.2.1.other _ _ (by simp), HR.out.2.2.setCell (by simp) _⟩ ?_
        clear HG G HL HP HE HR x0 x1 x2 x3 x4 z1
        rintro w5 ⟨r1, r2, B1⟩
        have m1 := r1.range
        go_wp2_with (first | ((with_reducible apply op_ld); (case hw => rfl); (case hx => rfl); (case hc => assumption); (case ht => exact rtW); simp only [Act.put, List.setIfInBounds_toArray, List.set_cons_zero, List.set_cons_succ]) | ((with_reducible apply op_st); (case hw => rfl); (case hx => rfl); (case hy => rfl); (case hr => exact r2); (case ht => exact rtW); (case hn => rfl); (case hold => rfl); (case h1 => exact x.gd.cells_one); simp only [Act.put]))
        exact bodyPost_c rfl rfl r2.setRow rtW rfl ⟨rfl, (B1.mono hgl).setRow (by omega) _⟩
end Go.Proofs.YtdmbenhhjpeepaaDoor
