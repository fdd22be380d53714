/- The law's sector: contract. -/
import Derived.Test.YtijagdpkclghnaaDoorMEach
import Derived.Test.YtijagdpkclghnaaDoorExt2
import Derived.Test.YtijagdpkclghnaaDoorArr
import Derived.Deep.OwnRows
import Derived.Laws.BytesArg
import Derived.Laws.Concat
namespace Go.Proofs.YtijagdpkclghnaaDoor
open Go Go.RowKit
set_option maxRecDepth 100000
abbrev tU8 : TypeId := 5
theorem infoU8 : (Tryd.prog.info? tU8).map (fun i => (i.zero, i.size, i.bytes)) = some (some (.int .u8 0), 1, 1) := by kernel_rfl
def zs63 : Array Value := madeCells #[.int .u8 0] 63
def Z63 (w : World) (g : Nat) : Prop := w.heap[g]? = some (.cells zs63 tU8 (0, 0))
@[go_sem] theorem Z63.alloc (w : World) (n : Nat) (o : Obj) : Z63 (w.alloc o) n = (if n = w.heap.size then o = .cells zs63 tU8 else Z63 w n) := by
  unfold Z63 World.alloc
  by_cases e : n = w.heap.size
  · simp [e]
  · simp [e, Array.getElem?_push]
@[go_sem] theorem Z63.drew (w : World) (n : Nat) : Z63 w.drew n = Z63 w n := propext Iff.rfl
/-- The bytes of a sector. -/
def zer63 : ByteArray := strOfNums (List.replicate 63 0)
def one8 (b : Int) : ByteArray := strOfNums [b]
def secB (b : Int) : ByteArray := one8 b ++ zer63
@[go_sem] theorem conv_1 (w : World) (g : Nat) (b : Int) (h : w.cell? ⟨g, 0, none⟩ = some (.int .u8 b)) : (convert 57 9 (.slice (some ⟨g, 0, none⟩) 1 1)).run Tryd.prog w = .ok (.string (one8 b)) w :=
  run_convert_bytes_arg w 57 tU8 Tryd.underlying57 Tryd.underlying5 g 0 1 1 [b] rfl (fun i hi => (by
    have e : i = 0 := by omega
    subst e
    exact h)) 9 Tryd.underlying9
theorem zs63_at : ∀ i, i < 63 → zs63[i]? = some (.int .u8 ((List.replicate 63 (0 : Int)).getD i 0)) := fun i hi => by
  have h1 : ∀ n : Nat, i < n → (List.replicate n (0 : Int)).getD i 0 = 0 := fun n hn => by simp [List.getD, hn]
  have h2 : ∀ n : Nat, i < n → (madeCells #[Value.int .u8 0] n)[i]? = some (.int .u8 0) := fun n hn => by
    unfold madeCells
    simp [hn, Nat.mod_one]
  rw [h1 63 hi]
  exact h2 63 hi
@[go_sem] theorem conv_z (w : World) (g : Nat) (h : Z63 w g) : (convert 57 9 (.slice (some ⟨g, 0, none⟩) 63 63)).run Tryd.prog w = .ok (.string zer63) w :=
  run_convert_bytes_arg w 57 tU8 Tryd.underlying57 Tryd.underlying5 g 0 63 63 (List.replicate 63 0) (by simp) (fun i hi => by
    unfold Z63 at h
    rw [Nat.zero_add]
    simp only [World.cell?, h]
    exact zs63_at i hi) 9 Tryd.underlying9
theorem sec_any (b : Int) (w : World) : Calls Tryd.prog 9 #[.int .u8 b, .bool false] w fun e w' => e = .returned (.string (secB b)) ∧ Below w.heap.size w w' := by
  have hmk : ∀ w, (Instr.makeSlice 57 (.int .i64 63) (.int .i64 63)).run Tryd.prog w = .ok (.slice (some ⟨w.heap.size, 0, none⟩) 63 63) (w.alloc (.cells zs63 tU8)) := fun w => run_make_row' (P := Tryd.prog) 57 tU8 (.int .u8 0) 1 Tryd.underlying57 infoU8 rfl .i64 .i64 63 (by decide) (by decide) w
  have hadd : ∀ w, (Op.stringOp .add (one8 b) zer63).run Tryd.prog w = .ok (.string (secB b)) w := fun w => run_string_add_sum w _ _ (by unfold one8 zer63; rw [strOfNums_size, strOfNums_size]; simp)
  go_enter Tryd.func9, Tryd.ntmps9
  go_wp2_with fail
  go_region
  all_goals
    go_wp2_with fail
    go_returns
    exact ⟨rfl, (by repeat' (first | (with_reducible exact Below.refl _ _) | (with_reducible assumption) | (with_reducible refine Below.setCell ?_ ?_ _) | (with_reducible refine Below.ext ?_ _ ?_) | (with_reducible refine Below.alloc ?_ ?_ _) | (with_reducible refine Below.drew ?_) | (with_reducible refine Below.drewN ?_ _) | (with_reducible exact Nat.le_refl _) | (dsimp only; omega) | (simp <;> omega)))⟩
theorem one8_size (b : Int) : (one8 b).size = 1 := by unfold one8; rw [strOfNums_size]; rfl
theorem zer63_size : zer63.size = 63 := by unfold zer63; rw [strOfNums_size]; simp
theorem secB_size (b : Int) : (secB b).size = 64 := by unfold secB; rw [ByteArray.size_append, one8_size, zer63_size]
end Go.Proofs.YtijagdpkclghnaaDoor
