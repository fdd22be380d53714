/- The document's Way: contracts, by kind. -/
import Derived.Test.YtdmbenhhjpeepaaDoorRGood
namespace Go.Proofs.YtdmbenhhjpeepaaDoor
open Go Go.RowKit
set_option maxRecDepth 100000
def qcs (k : Int) (f : Nat → Bool) : List Value := [.int .i64 k] ++ blist 32 f
abbrev qv (k : Int) (f : Nat → Bool) : Value := .agg (qcs k f).toArray
abbrev tQ : TypeId := 49
theorem qcs_len (k : Int) (f : Nat → Bool) : (qcs k f).length = 33 := by simp [qcs, blist_len]
theorem rtQ (k : Int) (f : Nat → Bool) : RowTy Tryd.prog tQ (qcs k f).length := ⟨_, Tryd.underlying49, rfl, by rw [qcs_len]; kernel_rfl⟩
theorem qcs_one (k : Int) (f : Nat → Bool) : ∀ c ∈ qcs k f, c.oneCell' = true := by
  intro c hc
  rcases List.mem_append.1 hc with hc | hc
  · rw [List.mem_singleton.1 hc]; rfl
  · exact blist_one _ _ c hc
abbrev zB : Nat → Bool := fun _ => false
theorem zeroQ : (Tryd.prog.info? tQ).map (·.zero) = some (some (qv 0 zB)) := by kernel_rfl
theorem build_Q (k : Int) (w : World) : (Instr.build tQ #[(0, .int .i64 k)]).run Tryd.prog w = .ok (qv k zB) w := by kernel_rfl
theorem build_Q0 (w : World) : (Instr.build tQ #[]).run Tryd.prog w = .ok (qv 0 zB) w := by kernel_rfl
theorem op_build0 {P : Program} {ops : Array Oper} {rest : List Oper} {d : Option Tmp} {tt : TypeId} {ps : String} {af : Array Edge} {gd : Option (Nat × Bool)} {a : Act} {w : World} {Q : Exit → Act → World → Prop} {t : TypeId} {v : Value}
    (hw : Region.wanted ⟨d, .build t #[], tt, ps, af, gd⟩ (yielded ops a.tmps) = true) (hb : ∀ w, (Instr.build t #[]).run P w = .ok v w) (h : wpList P ops Q rest (a.put d v) w) : wpList P ops Q (⟨d, .build t #[], tt, ps, af, gd⟩ :: rest) a w :=
  wpList_val hw (fun w => by
    unfold execOp
    simp only [Sem.run_bind, List.map_toArray, List.map_nil]
    rw [hb]
    rfl) h
def upTo (f : Nat → Bool) (k : Nat) (i : Nat) : Bool := decide (i < k) && f i
theorem upTo_succ (f : Nat → Bool) (k : Nat) : upTo f (k + 1) k = f k := by simp [upTo]
theorem upTo_other (f : Nat → Bool) (k i : Nat) (h : i ≠ k) : upTo f (k + 1) i = upTo f k i := by
  unfold upTo
  rw [show decide (i < k + 1) = decide (i < k) by simp; omega]
theorem upTo_zero (f : Nat → Bool) : upTo f 0 = zB := by funext i; simp [upTo]
theorem qcs_at (x : Int) (f : Nat → Bool) {k : Nat} (h : k < 32) : (qcs x f)[1 + k]? = some (.bool (f k)) := by
  unfold qcs
  rw [List.getElem?_append_right (by simp), show 1 + k - [Value.int .i64 x].length = k by simp, blist_get _ h]
theorem qcs_set (x : Int) (f : Nat → Bool) (k : Nat) (b : Bool) (h : f k = b) : (qcs x (upTo f k)).set (1 + k) (.bool b) = qcs x (upTo f (k + 1)) := by
  unfold qcs
  rw [List.set_append_right _ _ (by simp), show 1 + k - [Value.int .i64 x].length = k by simp, blist_set (upTo f k) (upTo f (k + 1)) b (by rw [upTo_succ, h]) (fun i hi => upTo_other f k i hi)]
theorem qcs_same (x : Int) (f : Nat → Bool) (k : Nat) (h : f k = false) : qcs x (upTo f k) = qcs x (upTo f (k + 1)) := by
  unfold qcs
  rw [blist_congr (g := upTo f (k + 1)) fun i _ => ?_]
  by_cases e : i = k
  · subst e; rw [upTo_succ, h]; simp [upTo]
  · rw [upTo_other f k i e]
/-- What a plan of a kind reads. -/
def RSt.rd (r : RSt) (kind : Nat) (i : Nat) : Bool := match kind with
  | 0 => false
  | 1 => !decide (r.data ≤ (i : Int)) && !r.H i
  | 2 => (decide (r.data ≤ (i : Int)) && !r.L i) || (r.D i && !r.K i)
  | _ => !r.L i
/-- Does it stop there? -/
def RSt.ba (r : RSt) (kind : Nat) (i : Nat) : Bool := match kind with
  | 0 => !decide (r.data ≤ (i : Int)) && !r.H i
  | _ => r.rd kind i && r.L i
theorem RSt.rd_0 (r : RSt) (i : Nat) : r.rd 0 i = false := rfl
theorem RSt.rd_1 (r : RSt) (i : Nat) : r.rd 1 i = (!decide (r.data ≤ (i : Int)) && !r.H i) := rfl
theorem RSt.rd_2 (r : RSt) (i : Nat) : r.rd 2 i = ((decide (r.data ≤ (i : Int)) && !r.L i) || (r.D i && !r.K i)) := rfl
theorem RSt.rd_3 (r : RSt) (i : Nat) : r.rd 3 i = !r.L i := rfl
theorem RSt.ba_0 (r : RSt) (i : Nat) : r.ba 0 i = (!decide (r.data ≤ (i : Int)) && !r.H i) := rfl
theorem RSt.ba_1 (r : RSt) (i : Nat) : r.ba 1 i = ((!decide (r.data ≤ (i : Int)) && !r.H i) && r.L i) := rfl
theorem RSt.ba_2 (r : RSt) (i : Nat) : r.ba 2 i = (((decide (r.data ≤ (i : Int)) && !r.L i) || (r.D i && !r.K i)) && r.L i) := rfl
theorem RSt.ba_3 (r : RSt) (i : Nat) : r.ba 3 i = (!r.L i && r.L i) := rfl
def RSt.n2 (r : RSt) : Nat := (r.data + 2).toNat
def RSt.allOk (r : RSt) (kind : Nat) : Bool := (List.range r.n2).all fun i => !r.ba kind i
def RSt.may (r : RSt) (kind : Nat) : Bool := match kind with
  | 1 => r.allOk 1 && !decide (cnt (r.rd 1) r.n2 = 0)
  | 2 => r.allOk 2 && !(r.L r.data.toNat && r.L (r.data.toNat + 1))
  | k => r.allOk k
def RSt.plan (r : RSt) (kind : Nat) : Int × (Nat → Bool) := if r.may kind = true then ((kind : Int), upTo (r.rd kind) r.n2) else (0, zB)
theorem RSt.notAll {r : RSt} {kind k : Nat} (hk : k < r.n2) (h : r.ba kind k = true) : r.allOk kind = false := by
  cases e : r.allOk kind
  · rfl
  · have := List.all_eq_true.1 e k (List.mem_range.2 hk)
    rw [h] at this
    cases this
theorem RSt.allOk_of {r : RSt} {kind : Nat} (h : ∀ i, i < r.n2 → r.ba kind i = false) : r.allOk kind = true := List.all_eq_true.2 fun i hi => by rw [h i (List.mem_range.1 hi)]; rfl
theorem RSt.may_not {r : RSt} {kind : Nat} (h : r.allOk kind = false) : r.may kind = false := by
  unfold RSt.may
  split
  · rw [h]; rfl
  · rw [h]; rfl
  · exact h
theorem RSt.plan_not {r : RSt} {kind : Nat} (h : r.may kind = false) : r.plan kind = (0, zB) := by unfold RSt.plan; rw [h]; rfl
theorem RSt.plan_yes {r : RSt} {kind : Nat} (h : r.may kind = true) : r.plan kind = ((kind : Int), upTo (r.rd kind) r.n2) := by unfold RSt.plan; rw [h]; rfl
end Go.Proofs.YtdmbenhhjpeepaaDoor
