/- The laws of sets. Plain facts. -/
import Derived.Test.YtdgeobofpnbenaaDoorSetC
import Derived.Test.YtdgeobofpnbenaaDoorPop
namespace Go.Proofs.YtdgeobofpnbenaaDoor
open Go
namespace Set4
theorem or_comm (s t : Set4) : s.or t = t.or s := ext_has fun i _ => by rw [has_or, has_or, Bool.or_comm]
theorem and_comm (s t : Set4) : s.and t = t.and s := ext_has fun i _ => by rw [has_and, has_and, Bool.and_comm]
theorem or_assoc (s t u : Set4) : s.or (t.or u) = (s.or t).or u := ext_has fun i _ => by simp only [has_or, Bool.or_assoc]
theorem and_or (s t u : Set4) : s.and (t.or u) = (s.and t).or (s.and u) := ext_has fun i _ => by simp only [has_or, has_and, Bool.and_or_distrib_left]
theorem less_or_and (s t : Set4) : (s.less t).or (s.and t) = s := ext_has fun i _ => by rw [has_or, has_less, has_and]; cases s.has i <;> cases t.has i <;> rfl
theorem less_and (s t : Set4) : ((s.less t).and t).empty = true := (empty_iff _).2 (ext_has fun i _ => by rw [has_and, has_less, has_zero]; cases s.has i <;> cases t.has i <;> rfl)
theorem pop_add (x y : Nat) : ∀ n, pop (x ||| y) n + pop (x &&& y) n = pop x n + pop y n
  | 0 => rfl
  | n + 1 => by
    have := pop_add x y n
    show pop (x ||| y) n + ((x ||| y).testBit n).toNat + (pop (x &&& y) n + ((x &&& y).testBit n).toNat) = pop x n + (x.testBit n).toNat + (pop y n + (y.testBit n).toNat)
    rw [Nat.testBit_or, Nat.testBit_and]
    cases x.testBit n <;> cases y.testBit n <;> simp <;> omega
theorem count_add (s t : Set4) : (s.or t).count + (s.and t).count = s.count + t.count := by
  unfold count
  have a := pop_add s.a t.a 64; have b := pop_add s.b t.b 64; have c := pop_add s.c t.c 64; have d := pop_add s.d t.d 64
  show pop (s.a ||| t.a) 64 + pop (s.b ||| t.b) 64 + pop (s.c ||| t.c) 64 + pop (s.d ||| t.d) 64 + (pop (s.a &&& t.a) 64 + pop (s.b &&& t.b) 64 + pop (s.c &&& t.c) 64 + pop (s.d &&& t.d) 64) = _
  omega
theorem count_le (s : Set4) : s.count ≤ 256 := by
  unfold count
  simp only [Pop.pop_eq]
  have a := Pop.popR_le 64 s.a; have b := Pop.popR_le 64 s.b; have c := Pop.popR_le 64 s.c; have d := Pop.popR_le 64 s.d
  omega
end Set4
end Go.Proofs.YtdgeobofpnbenaaDoor
