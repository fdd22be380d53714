/- The law's set and bits: contracts. -/
import Derived.Test.YtdmbenhhjpeepaaDoorPMin
import Derived.LoopTactic
namespace Go
open Go.RowKit
/-- m cells that say f. -/
def blist (m : Nat) (f : Nat → Bool) : List Value := (List.range m).map fun i => Value.bool (f i)
theorem blist_len (m : Nat) (f : Nat → Bool) : (blist m f).length = m := by simp [blist]
theorem blist_get {m i : Nat} (f : Nat → Bool) (h : i < m) : (blist m f)[i]? = some (.bool (f i)) := by simp [blist, h]
theorem blist_set {m k : Nat} (f g : Nat → Bool) (b : Bool) (hk : g k = b) (h : ∀ i, i ≠ k → g i = f i) : (blist m f).set k (.bool b) = blist m g := by
  apply List.ext_getElem?
  intro i
  by_cases hi : i < m
  · by_cases e : k = i
    · subst e
      rw [List.getElem?_set_self (by rw [blist_len]; exact hi), blist_get _ hi, hk]
    · rw [List.getElem?_set_ne e, blist_get _ hi, blist_get _ hi, h i (Ne.symm e)]
  · rw [List.getElem?_eq_none (by rw [List.length_set, blist_len]; omega), List.getElem?_eq_none (by rw [blist_len]; omega)]
theorem blist_congr {m : Nat} {f g : Nat → Bool} (h : ∀ i, i < m → f i = g i) : blist m f = blist m g := by
  unfold blist
  exact List.map_congr_left fun i hi => by rw [h i (List.mem_range.1 hi)]
theorem blist_one (m : Nat) (f : Nat → Bool) : ∀ c ∈ blist m f, c.oneCell' = true := by
  intro c hc
  obtain ⟨i, _, rfl⟩ := List.mem_map.1 hc
  rfl
end Go
namespace Go.Proofs.YtdmbenhhjpeepaaDoor
open Go Go.RowKit
set_option maxRecDepth 100000
abbrev tB : TypeId := 31
theorem rtB (f : Nat → Bool) : RowTy Tryd.prog tB (blist 32 f).length := ⟨_, Tryd.underlying31, rfl, by rw [blist_len]; kernel_rfl⟩
theorem zeroB : (Tryd.prog.info? tB).map (·.zero) = some (some (.agg (blist 32 fun _ => false).toArray)) := by kernel_rfl
def Set4.ofNat (n : Nat) (h : n < 18446744073709551616) : Set4 := ⟨n, 0, 0, 0, h, by decide, by decide, by decide⟩
theorem build_set (n : Nat) (h : n < 18446744073709551616) (w : World) : (Instr.build tS #[(0, .int .u64 (n : Int))]).run Tryd.prog w = .ok (Set4.ofNat n h).v w := by kernel_rfl
theorem bit_of (n k : Nat) (h : n < 18446744073709551616) : (bits .and .u64 ((n : Int) / 2 ^ k) 1 == 1) = n.testBit k := by
  have e : ((n : Int) / 2 ^ k) = ((n / 2 ^ k : Nat) : Int) := by simp
  have h1 : n / 2 ^ k < 18446744073709551616 := Nat.lt_of_le_of_lt (Nat.div_le_self _ _) h
  rw [e]
  have h2 := u64_and_nat (n / 2 ^ k) 1 h1 (by decide)
  rw [show ((1 : Nat) : Int) = 1 by rfl] at h2
  rw [h2, Nat.testBit_eq_decide_div_mod_eq, Nat.and_one_is_mod]
  rw [Bool.eq_iff_iff]
  simp
  omega
theorem set_any (n : Nat) (h : n < 18446744073709551616) (w : World) : Calls Tryd.prog 19 #[.int .u64 (n : Int)] w fun e w' => e = .returned (Set4.ofNat n h).v ∧ Below w.heap.size w w' := by
  go_enter Tryd.func19, Tryd.ntmps19
  go_upto_region 1 with fail
  refine wp_world (fun w1 => w1.row w.heap.size Set4.zero.cs tS ∧ Below w.heap.size w w1) ⟨World.row.new' rfl, (by repeat' (first | (with_reducible exact Below.refl _ _) | (with_reducible assumption) | (with_reducible refine Below.setCell ?_ ?_ _) | (with_reducible refine Below.ext ?_ _ ?_) | (with_reducible refine Below.alloc ?_ ?_ _) | (with_reducible refine Below.drew ?_) | (with_reducible refine Below.drewN ?_ _) | (with_reducible exact Nat.le_refl _) | (dsimp only; omega) | (simp <;> omega)))⟩ ?_
  rintro w1 ⟨r1, B1⟩
  go_step
  with_reducible apply op_mv
  (case hw => rfl)
  simp only [Act.put, Act.eval, List.setIfInBounds_toArray, List.set_cons_zero, List.set_cons_succ]
  with_reducible apply op_build1
  (case hw => rfl)
  (case hx => rfl)
  (case hb => exact build_set n h)
  simp only [Act.put, List.setIfInBounds_toArray, List.set_cons_zero, List.set_cons_succ]
  ((with_reducible apply op_st); (case hw => rfl); (case hx => rfl); (case hy => rfl); (case hr => exact r1); (case ht => exact rtS Set4.zero); (case hn => rfl); (case hold => rfl); (case h1 => exact Set4.cs_one _); simp only [Act.put])
  go_wp2_with fail
  exact bodyPost_c rfl rfl r1.setRow (rtS _) rfl ⟨rfl, B1.setRow (Nat.le_refl _) _⟩
theorem bits_any (n : Nat) (h : n < 18446744073709551616) (w : World) : Calls Tryd.prog 20 #[.int .u64 (n : Int)] w fun e w' => e = .returned (.tuple #[.agg (blist 32 n.testBit).toArray, .bool (decide (4294967296 ≤ n))]) ∧ Below w.heap.size w w' := by
  go_enter Tryd.func20, Tryd.ntmps20
  go_upto_region 2 with ((with_reducible apply op_alloc); (case hw => rfl); (case hz => exact zeroB); (case hzs => rfl); simp only [Act.put, List.setIfInBounds_toArray, List.set_cons_zero, List.set_cons_succ])
  refine wp_world (fun w1 => w1.row w.heap.size (blist 32 fun _ => false) tB ∧ w1.row (w.heap.size + 1) (blist 32 fun _ => false) tB ∧ Below w.heap.size w w1) ⟨World.row.alloc (World.row.new' rfl) _, World.row.new' (by simp), (by repeat' (first | (with_reducible exact Below.refl _ _) | (with_reducible assumption) | (with_reducible refine Below.setCell ?_ ?_ _) | (with_reducible refine Below.ext ?_ _ ?_) | (with_reducible refine Below.alloc ?_ ?_ _) | (with_reducible refine Below.drew ?_) | (with_reducible refine Below.drewN ?_ _) | (with_reducible exact Nat.le_refl _) | (dsimp only; omega) | (simp <;> omega)))⟩ ?_
  rintro w1 ⟨r1, r2, B1⟩
  have HS := Lib.hid (And.intro r1 (And.intro r2 B1))
  clear r1 r2 B1
  go_wp2_with fail
  go_loopw [6] (fun i wr => ∃ (k : Nat), k ≤ 32 ∧ i = .int .i64 k ∧ wr.row w.heap.size (blist 32 fun _ => false) tB ∧ wr.row (w.heap.size + 1) (blist 32 fun i => decide (i < k) && n.testBit i) tB ∧ Below w.heap.size w wr) (fun i _ => 32 - (intOf i).toNat)
  case atStart => exact ⟨0, by omega, rfl, HS.out.1, by rw [blist_congr (g := fun _ => false) (fun i _ => by simp)]; exact HS.out.2.1, HS.out.2.2⟩
  case round =>
    obtain ⟨k, hk, rfl, hq, hr, hB⟩ := hrel
    by_cases hlt : k < 32
    · have c := hr.cell k (blist_get _ hlt)
      have z := hr.free k
      have hsz := hB.size
      have HR := Lib.hid (And.intro hq (And.intro hr hB))
      clear hq hr hB
      go_wp2_with fail
      go_roundw
      case rel =>
        refine ⟨k + 1, by omega, by go_num, HR.out.1.other _ _ (by simp), ?_, HR.out.2.2.setCell (by simp) _⟩
        have := HR.out.2.1.set k (.bool (bits .and .u64 ((n : Int) / 2 ^ k) 1 == 1))
        rw [blist_set (fun i => decide (i < k) && n.testBit i) (fun i => decide (i < k + 1) && n.testBit i) _ (by rw [bit_of n k h]; simp) (fun i hi => by
          have e : decide (i < k + 1) = decide (i < k) := decide_eq_decide.2 (by omega)
          rw [e])] at this
        exact this
      case measure => simp [intOf] <;> omega
    · rw [blist_congr (g := n.testBit) (fun i hi => by simp; intro h2; omega)] at hr
      have hm := hr.range
      have hsz := hB.size
      have hlt2 : ((n : Int) / 4294967296 != 0) = decide (4294967296 ≤ n) := by
        rw [Bool.eq_iff_iff]; simp; omega
      have HE := Lib.hid hlt2
      clear hlt2
      go_wp2_with (first | ((with_reducible apply op_ld); (case hw => rfl); (case hx => rfl); (case hc => assumption); (case ht => exact rtB _); simp only [Act.put, List.setIfInBounds_toArray, List.set_cons_zero, List.set_cons_succ]) | ((with_reducible apply op_st); (case hw => rfl); (case hx => rfl); (case hy => rfl); (case hr => exact hq); (case ht => exact rtB (fun _ => false)); (case hn => rfl); (case hold => rfl); (case h1 => exact blist_one _ _); simp only [Act.put]))
      rw [HE.out]
      exact bodyPost_ct rfl rfl hq.setRow (rtB _) rfl ⟨rfl, hB.setRow (Nat.le_refl _) _⟩
end Go.Proofs.YtdmbenhhjpeepaaDoor
