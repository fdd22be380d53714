/- How many bits of a word are set: the way of math/bits.OnesCount64. Plain facts, no program in them. -/
import Derived.Test.YtijagdpkclghnaaDoorSet
namespace Go.Proofs.YtijagdpkclghnaaDoor
open Go
namespace Pop
theorem and_split (c a b m k : Nat) (hb : b < 2 ^ c) (hk : k < 2 ^ c) : (2 ^ c * a + b) &&& (2 ^ c * m + k) = 2 ^ c * (a &&& m) + (b &&& k) := by
  have h1 : ((2 ^ c * a + b) &&& (2 ^ c * m + k)) / 2 ^ c = a &&& m := by
    rw [Nat.and_div_two_pow, Nat.mul_add_div (Nat.two_pow_pos c), Nat.mul_add_div (Nat.two_pow_pos c), Nat.div_eq_of_lt hb, Nat.div_eq_of_lt hk]; simp
  have h2 : ((2 ^ c * a + b) &&& (2 ^ c * m + k)) % 2 ^ c = b &&& k := by
    rw [Nat.and_mod_two_pow, Nat.mul_add_mod, Nat.mul_add_mod, Nat.mod_eq_of_lt hb, Nat.mod_eq_of_lt hk]
  have h3 := Nat.div_add_mod ((2 ^ c * a + b) &&& (2 ^ c * m + k)) (2 ^ c)
  rw [h1, h2] at h3; exact h3.symm
/-- The masks of n digits. -/
def mask (B d : Nat) : Nat → Nat
  | 0 => 0
  | n + 1 => B * mask B d n + d
def F : Nat → Nat → Nat
  | 0, _ => 0
  | n + 1, x => 4 * F n (x / 4) + (x % 4 / 2 + x % 2)
theorem F_s (n x : Nat) : F (n + 1) x = 4 * F n (x / 4) + (x % 4 / 2 + x % 2) := rfl
def G : Nat → Nat → Nat
  | 0, _ => 0
  | n + 1, x => 16 * G n (x / 16) + (x % 16 / 4 + x % 4)
theorem G_s (n x : Nat) : G (n + 1) x = 16 * G n (x / 16) + (x % 16 / 4 + x % 4) := rfl
def K : Nat → Nat → Nat
  | 0, _ => 0
  | n + 1, x => 256 * K n (x / 256) + (x % 256 / 16 + x % 16)
theorem K_s (n x : Nat) : K (n + 1) x = 256 * K n (x / 256) + (x % 256 / 16 + x % 16) := rfl
theorem stageA : ∀ n x, (x / 2 &&& mask 4 1 n) + (x &&& mask 4 1 n) = F n x
  | 0, x => by simp [mask, F]
  | n + 1, x => by
    have ih := stageA n (x / 4)
    have e1 : x / 2 = 2 ^ 2 * (x / 4 / 2) + (2 * (x / 4 % 2) + x % 4 / 2) := by omega
    have e2 : x = 2 ^ 2 * (x / 4) + x % 4 := by omega
    have m : mask 4 1 (n + 1) = 2 ^ 2 * mask 4 1 n + 1 := rfl
    have p1 : (x / 2 &&& mask 4 1 (n + 1)) = 2 ^ 2 * (x / 4 / 2 &&& mask 4 1 n) + x % 4 / 2 := by
      rw [e1, m, and_split _ _ _ _ _ (by omega) (by omega), Nat.and_one_is_mod]; omega
    have p2 : (x &&& mask 4 1 (n + 1)) = 2 ^ 2 * (x / 4 &&& mask 4 1 n) + x % 2 := by
      rw [m]; conv => lhs; rw [e2]
      rw [and_split _ _ _ _ _ (by omega) (by omega), Nat.and_one_is_mod]; omega
    rw [p1, p2, F_s]; omega
theorem and_three (b : Nat) : b &&& 3 = b % 4 := Nat.and_two_pow_sub_one_eq_mod b 2
theorem and_fifteen (b : Nat) : b &&& 15 = b % 16 := Nat.and_two_pow_sub_one_eq_mod b 4
theorem stageB : ∀ n x, (x / 4 &&& mask 16 3 n) + (x &&& mask 16 3 n) = G n x
  | 0, x => by simp [mask, G]
  | n + 1, x => by
    have ih := stageB n (x / 16)
    have e1 : x / 4 = 2 ^ 4 * (x / 16 / 4) + (4 * (x / 16 % 4) + x % 16 / 4) := by omega
    have e2 : x = 2 ^ 4 * (x / 16) + x % 16 := by omega
    have m : mask 16 3 (n + 1) = 2 ^ 4 * mask 16 3 n + 3 := rfl
    have p1 : (x / 4 &&& mask 16 3 (n + 1)) = 2 ^ 4 * (x / 16 / 4 &&& mask 16 3 n) + x % 16 / 4 := by
      rw [e1, m, and_split _ _ _ _ _ (by omega) (by omega), and_three]; omega
    have p2 : (x &&& mask 16 3 (n + 1)) = 2 ^ 4 * (x / 16 &&& mask 16 3 n) + x % 4 := by
      rw [m]; conv => lhs; rw [e2]
      rw [and_split _ _ _ _ _ (by omega) (by omega), and_three]; omega
    rw [p1, p2, G_s]; omega
/-- All of n digits to the base 16 are 4 at most. -/
def Low : Nat → Nat → Prop
  | 0, x => x = 0
  | n + 1, x => x % 16 ≤ 4 ∧ Low n (x / 16)
theorem stageC : ∀ n x, Low (2 * n) x → (x / 16 + x) &&& mask 256 15 n = K n x
  | 0, x, _ => by simp [mask, K]
  | n + 1, x, h => by
    obtain ⟨h0, h1, h2⟩ : x % 16 ≤ 4 ∧ x / 16 % 16 ≤ 4 ∧ Low (2 * n) (x / 16 / 16) := h
    have h3 : x / 16 / 16 % 16 ≤ 4 := by
      cases n with
      | zero => have : x / 16 / 16 = 0 := h2; omega
      | succ n => exact h2.1
    have h4 : Low (2 * n) (x / 256) := by rw [show x / 256 = x / 16 / 16 by omega]; exact h2
    have ih := stageC n (x / 256) h4
    rw [show x / 16 / 16 = x / 256 by omega] at h3
    obtain ⟨q, c, l, hq, hc, hl, hx⟩ : ∃ q c l, q = x / 256 ∧ c = x / 16 % 16 ∧ l = x % 16 ∧ x = 256 * q + 16 * c + l := ⟨_, _, _, rfl, rfl, rfl, by omega⟩
    rw [← hq] at h3 ih
    rw [← hc] at h1
    rw [← hl] at h0
    clear hq hc hl h2 h4
    subst hx
    have d1 : (256 * q + 16 * c + l) / 256 = q := by omega
    have d2 : (256 * q + 16 * c + l) % 256 / 16 = c := by omega
    have d3 : (256 * q + 16 * c + l) % 16 = l := by omega
    have e : (256 * q + 16 * c + l) / 16 + (256 * q + 16 * c + l) = 2 ^ 8 * (q / 16 + q) + (16 * (q % 16) + c + 16 * c + l) := by omega
    have m : mask 256 15 (n + 1) = 2 ^ 8 * mask 256 15 n + 15 := rfl
    rw [e, m, and_split _ _ _ _ _ (by omega) (by omega), and_fifteen, ih, K_s, d1, d2, d3]; omega
def popR : Nat → Nat → Nat
  | 0, _ => 0
  | n + 1, x => x % 2 + popR n (x / 2)
theorem popR_s (n x : Nat) : popR (n + 1) x = x % 2 + popR n (x / 2) := rfl
theorem popR_le : ∀ n x, popR n x ≤ n
  | 0, _ => Nat.le_refl _
  | n + 1, x => by have := popR_le n (x / 2); rw [popR_s]; omega
theorem popR_add : ∀ m n x, popR (m + n) x = popR m x + popR n (x / 2 ^ m)
  | 0, n, x => by simp [popR]
  | m + 1, n, x => by
    have := popR_add m n (x / 2)
    rw [show m + 1 + n = (m + n) + 1 by omega]
    rw [popR_s, popR_s, this, Nat.div_div_eq_div_mul, Nat.pow_succ']; omega
theorem pop_eq (x : Nat) : ∀ n, Set4.pop x n = popR n x
  | 0 => rfl
  | n + 1 => by
    rw [popR_add n 1 x]
    show Set4.pop x n + (x.testBit n).toNat = _
    rw [pop_eq x n]
    have : (x.testBit n).toNat = x / 2 ^ n % 2 := by
      rw [Nat.testBit_eq_decide_div_mod_eq]
      by_cases h : x / 2 ^ n % 2 = 1
      · rw [decide_eq_true h]; show 1 = _; omega
      · rw [decide_eq_false h]; show 0 = _; omega
    rw [this, popR_s]; simp [popR]
/-- Nibble by nibble. -/
def H : Nat → Nat → Nat
  | 0, _ => 0
  | n + 1, x => 16 * H n (x / 16) + popR 4 (x % 16)
theorem H_s (n x : Nat) : H (n + 1) x = 16 * H n (x / 16) + popR 4 (x % 16) := rfl
theorem pop4 : ∀ r, r < 16 → popR 4 r = r % 4 / 2 + r % 2 + (r / 4 % 4 / 2 + r / 4 % 2) := by decide
theorem GF : ∀ n x, G n (F (2 * n) x) = H n x
  | 0, _ => rfl
  | n + 1, x => by
    have ih := GF n (x / 16)
    obtain ⟨q, a, b, hq, ha, hb, hx⟩ : ∃ q a b, q = x / 16 ∧ a < 4 ∧ b < 4 ∧ x = 16 * q + 4 * a + b := ⟨_, x / 4 % 4, x % 4, rfl, by omega, by omega, by omega⟩
    rw [← hq] at ih
    clear hq
    subst hx
    have d1 : (16 * q + 4 * a + b) / 4 = 4 * q + a := by omega
    have d2 : (16 * q + 4 * a + b) % 4 = b := by omega
    have d3 : (4 * q + a) / 4 = q := by omega
    have d4 : (4 * q + a) % 4 = a := by omega
    have d5 : (16 * q + 4 * a + b) % 2 = b % 2 := by omega
    have d6 : (4 * q + a) % 2 = a % 2 := by omega
    have d7 : (16 * q + 4 * a + b) / 16 = q := by omega
    have d8 : (16 * q + 4 * a + b) % 16 = 4 * a + b := by omega
    have e : F (2 * (n + 1)) (16 * q + 4 * a + b) = 16 * F (2 * n) q + (4 * (a / 2 + a % 2) + (b / 2 + b % 2)) := by
      show F (2 * n + 1 + 1) _ = _
      rw [F_s, F_s, d1, d2, d3, d4, d5, d6]; omega
    have hA : a / 2 + a % 2 ≤ 2 := by omega
    have hB : b / 2 + b % 2 ≤ 2 := by omega
    have p : popR 4 (4 * a + b) = (a / 2 + a % 2) + (b / 2 + b % 2) := by
      rw [pop4 _ (by omega), show (4 * a + b) % 4 = b by omega, show (4 * a + b) % 2 = b % 2 by omega, show (4 * a + b) / 4 = a by omega, show a % 4 = a by omega]; omega
    rw [e, G_s, H_s, d7, d8, p]
    generalize a / 2 + a % 2 = A at *
    generalize b / 2 + b % 2 = B at *
    rw [show (16 * F (2 * n) q + (4 * A + B)) / 16 = F (2 * n) q by omega, ih, show (16 * F (2 * n) q + (4 * A + B)) % 16 / 4 = A by omega, show (16 * F (2 * n) q + (4 * A + B)) % 4 = B by omega]
theorem low_H : ∀ n x, Low n (H n x)
  | 0, _ => rfl
  | n + 1, x => by
    have := popR_le 4 (x % 16)
    refine ⟨by rw [H_s]; omega, ?_⟩
    rw [show H (n + 1) x / 16 = H n (x / 16) by rw [H_s]; omega]
    exact low_H n _
def L : Nat → Nat → Nat
  | 0, _ => 0
  | n + 1, x => 256 * L n (x / 256) + popR 8 (x % 256)
theorem L_s (n x : Nat) : L (n + 1) x = 256 * L n (x / 256) + popR 8 (x % 256) := rfl
theorem pop8 (x : Nat) : popR 8 (x % 256) = popR 4 (x % 16) + popR 4 (x / 16 % 16) := by
  have h := popR_add 4 4 (x % 256)
  rw [show 4 + 4 = 8 by rfl] at h
  rw [h, show x % 256 / 2 ^ 4 = x / 16 % 16 by omega]
  have h2 := popR_add 4 0 (x % 256)
  have e : popR 4 (x % 256) = popR 4 (x % 16) := by
    simp only [popR]; omega
  rw [e]
theorem KH : ∀ n x, K n (H (2 * n) x) = L n x
  | 0, _ => rfl
  | n + 1, x => by
    have ih := KH n (x / 256)
    have l0 := popR_le 4 (x % 16)
    have l1 := popR_le 4 (x / 16 % 16)
    have e : H (2 * (n + 1)) x = 256 * H (2 * n) (x / 256) + (16 * popR 4 (x / 16 % 16) + popR 4 (x % 16)) := by
      show 16 * (16 * H (2 * n) (x / 16 / 16) + popR 4 (x / 16 % 16)) + popR 4 (x % 16) = _
      rw [show x / 16 / 16 = x / 256 by omega]; omega
    rw [e, K_s, L_s]
    rw [show (256 * H (2 * n) (x / 256) + (16 * popR 4 (x / 16 % 16) + popR 4 (x % 16))) / 256 = H (2 * n) (x / 256) by omega, ih, pop8]
    omega
theorem popR_bytes (n x : Nat) : popR (8 + n) x = popR 8 (x % 256) + popR n (x / 256) := by
  rw [popR_add 8 n x]
  have e : popR 8 (x % 256) = popR 8 x := by simp only [popR]; omega
  rw [e]
theorem div256 (X c : Nat) (h : c < 256) : (256 * X + c) / 256 = X := by omega
theorem mod128 (X c : Nat) (h : c < 128) : (256 * X + c) % 128 = c := by omega
theorem sumY (c0 c1 c2 c3 c4 c5 c6 c7 : Nat) : 256 * (256 * (256 * (256 * (256 * (256 * (256 * (c7) + (c6)) + (c5)) + (c4)) + (c3)) + (c2)) + (c1)) + (c0) + (256 * (256 * (256 * (256 * (256 * (256 * (c7) + (c6)) + (c5)) + (c4)) + (c3)) + (c2)) + (c1)) = 256 * (256 * (256 * (256 * (256 * (256 * (256 * (c7) + (c6+c7)) + (c5+c6)) + (c4+c5)) + (c3+c4)) + (c2+c3)) + (c1+c2)) + (c0+c1) := by omega
theorem sumZ (c0 c1 c2 c3 c4 c5 c6 c7 : Nat) : 256 * (256 * (256 * (256 * (256 * (256 * (256 * (c7) + (c6+c7)) + (c5+c6)) + (c4+c5)) + (c3+c4)) + (c2+c3)) + (c1+c2)) + (c0+c1) + (256 * (256 * (256 * (256 * (256 * (c7) + (c6+c7)) + (c5+c6)) + (c4+c5)) + (c3+c4)) + (c2+c3)) = 256 * (256 * (256 * (256 * (256 * (256 * (256 * (c7) + (c6+c7)) + (c5+c6+c7)) + (c4+c5+c6+c7)) + (c3+c4+c5+c6)) + (c2+c3+c4+c5)) + (c1+c2+c3+c4)) + (c0+c1+c2+c3) := by omega
theorem sumT (c0 c1 c2 c3 c4 c5 c6 c7 : Nat) : 256 * (256 * (256 * (256 * (256 * (256 * (256 * (c7) + (c6+c7)) + (c5+c6+c7)) + (c4+c5+c6+c7)) + (c3+c4+c5+c6)) + (c2+c3+c4+c5)) + (c1+c2+c3+c4)) + (c0+c1+c2+c3) + (256 * (256 * (256 * (c7) + (c6+c7)) + (c5+c6+c7)) + (c4+c5+c6+c7)) = 256 * (256 * (256 * (256 * (256 * (256 * (256 * (c7) + (c6+c7)) + (c5+c6+c7)) + (c4+c5+c6+c7)) + (c3+c4+c5+c6+c7)) + (c2+c3+c4+c5+c6+c7)) + (c1+c2+c3+c4+c5+c6+c7)) + (c0+c1+c2+c3+c4+c5+c6+c7) := by omega
theorem lt63 (a7 a6 a5 a4 a3 a2 a1 a0 : Nat) (h7 : a7 ≤ 64) (h6 : a6 ≤ 64) (h5 : a5 ≤ 64) (h4 : a4 ≤ 64) (h3 : a3 ≤ 64) (h2 : a2 ≤ 64) (h1 : a1 ≤ 64) (h0 : a0 ≤ 64) : 256 * (256 * (256 * (256 * (256 * (256 * (256 * (a7) + (a6)) + (a5)) + (a4)) + (a3)) + (a2)) + (a1)) + (a0) < 9223372036854775808 := by omega
theorem ends (c0 c1 c2 c3 c4 c5 c6 c7 : Nat) (h0 : c0 ≤ 8) (h1 : c1 ≤ 8) (h2 : c2 ≤ 8) (h3 : c3 ≤ 8) (h4 : c4 ≤ 8) (h5 : c5 ≤ 8) (h6 : c6 ≤ 8) (h7 : c7 ≤ 8) (w y z t : Nat)
    (hw : w = 256 * (256 * (256 * (256 * (256 * (256 * (256 * c7 + c6) + c5) + c4) + c3) + c2) + c1) + c0)
    (hy : y = w + w / 256) (hz : z = y + y / 65536) (ht : t = z + z / 4294967296) : t % 128 = c0 + c1 + c2 + c3 + c4 + c5 + c6 + c7 ∧ t < 9223372036854775808 ∧ z < 9223372036854775808 ∧ y < 9223372036854775808 ∧ w < 9223372036854775808 := by
  have e1 : w / 256 = 256 * (256 * (256 * (256 * (256 * (256 * (c7) + (c6)) + (c5)) + (c4)) + (c3)) + (c2)) + (c1) := by rw [hw, div256 _ _ (by clear hw hy hz ht; omega)]
  have y1 : y = 256 * (256 * (256 * (256 * (256 * (256 * (256 * (c7) + (c6+c7)) + (c5+c6)) + (c4+c5)) + (c3+c4)) + (c2+c3)) + (c1+c2)) + (c0+c1) := by rw [hy, e1, hw]; exact sumY _ _ _ _ _ _ _ _
  have e2 : y / 65536 = 256 * (256 * (256 * (256 * (256 * (c7) + (c6+c7)) + (c5+c6)) + (c4+c5)) + (c3+c4)) + (c2+c3) := by rw [y1, show 65536 = 256 * 256 by rfl, ← Nat.div_div_eq_div_mul, div256 _ _ (by clear hw hy hz ht e1 y1; omega), div256 _ _ (by clear hw hy hz ht e1 y1; omega)]
  have z1 : z = 256 * (256 * (256 * (256 * (256 * (256 * (256 * (c7) + (c6+c7)) + (c5+c6+c7)) + (c4+c5+c6+c7)) + (c3+c4+c5+c6)) + (c2+c3+c4+c5)) + (c1+c2+c3+c4)) + (c0+c1+c2+c3) := by rw [hz, e2, y1]; exact sumZ _ _ _ _ _ _ _ _
  have e3 : z / 4294967296 = 256 * (256 * (256 * (c7) + (c6+c7)) + (c5+c6+c7)) + (c4+c5+c6+c7) := by
    rw [z1, show 4294967296 = 256 * 256 * 256 * 256 by rfl, ← Nat.div_div_eq_div_mul, ← Nat.div_div_eq_div_mul, ← Nat.div_div_eq_div_mul]
    clear hw hy hz ht e1 y1 e2 z1
    rw [div256 _ _ (by omega), div256 _ _ (by omega), div256 _ _ (by omega), div256 _ _ (by omega)]
  have t1 : t = 256 * (256 * (256 * (256 * (256 * (256 * (256 * (c7) + (c6+c7)) + (c5+c6+c7)) + (c4+c5+c6+c7)) + (c3+c4+c5+c6+c7)) + (c2+c3+c4+c5+c6+c7)) + (c1+c2+c3+c4+c5+c6+c7)) + (c0+c1+c2+c3+c4+c5+c6+c7) := by rw [ht, e3, z1]; exact sumT _ _ _ _ _ _ _ _
  rw [t1, z1, y1, hw]
  clear e1 e2 e3 ht hz hy y1 z1 t1 hw
  exact ⟨mod128 _ _ (by omega), lt63 _ _ _ _ _ _ _ _ (by omega) (by omega) (by omega) (by omega) (by omega) (by omega) (by omega) (by omega), lt63 _ _ _ _ _ _ _ _ (by omega) (by omega) (by omega) (by omega) (by omega) (by omega) (by omega) (by omega), lt63 _ _ _ _ _ _ _ _ (by omega) (by omega) (by omega) (by omega) (by omega) (by omega) (by omega) (by omega), lt63 _ _ _ _ _ _ _ _ (by omega) (by omega) (by omega) (by omega) (by omega) (by omega) (by omega) (by omega)⟩
theorem mask0 : mask 4 1 32 = 6148914691236517205 := by decide
theorem mask1 : mask 16 3 16 = 3689348814741910323 := by decide
theorem mask2 : mask 256 15 8 = 1085102592571150095 := by decide
/-- The stages as the walk spells them. -/
def sA (x : Int) : Int := IntKind.u64.wrap (bits .and .u64 (x / 2) 6148914691236517205 + bits .and .u64 x 6148914691236517205)
def sB (x : Int) : Int := IntKind.u64.wrap (bits .and .u64 (x / 4) 3689348814741910323 + bits .and .u64 x 3689348814741910323)
def sC (x : Int) : Int := bits .and .u64 (IntKind.u64.wrap (x / 16 + x)) 1085102592571150095
def sD (k x : Int) : Int := IntKind.u64.wrap (x + x / k)
theorem F_le : ∀ n x, F n x < 4 ^ n
  | 0, _ => by simp [F]
  | n + 1, x => by have := F_le n (x / 4); rw [F_s, Nat.pow_succ]; omega
theorem G_le : ∀ n x, G n x < 16 ^ n
  | 0, _ => by simp [G]
  | n + 1, x => by have := G_le n (x / 16); rw [G_s, Nat.pow_succ]; omega
theorem sA_eq (x : Nat) (hx : x < 18446744073709551616) : sA (x : Int) = (F 32 x : Nat) := by
  unfold sA
  rw [show (x : Int) / 2 = ((x / 2 : Nat) : Int) by omega, show (6148914691236517205 : Int) = ((6148914691236517205 : Nat) : Int) by rfl, u64_and_nat _ _ (by omega) (by omega), u64_and_nat _ _ hx (by omega), ← mask0]
  have h := stageA 32 x
  have hl : F 32 x < 18446744073709551616 := F_le 32 x
  rw [IntKind.wrap_u64]
  omega
theorem sB_eq (x : Nat) (hx : x < 18446744073709551616) : sB (x : Int) = (G 16 x : Nat) := by
  unfold sB
  rw [show (x : Int) / 4 = ((x / 4 : Nat) : Int) by omega, show (3689348814741910323 : Int) = ((3689348814741910323 : Nat) : Int) by rfl, u64_and_nat _ _ (by omega) (by omega), u64_and_nat _ _ hx (by omega), ← mask1]
  have h := stageB 16 x
  have hl : G 16 x < 18446744073709551616 := G_le 16 x
  rw [IntKind.wrap_u64]
  omega
theorem low_lt : ∀ n x, Low n x → 2 * x < 16 ^ n ∨ x = 0
  | 0, x, h => .inr h
  | n + 1, x, h => by
    rcases low_lt n (x / 16) h.2 with h1 | h1
    · left; have := h.1; rw [Nat.pow_succ]; omega
    · by_cases hx : x = 0
      · exact .inr hx
      · left; have := h.1; have := Nat.one_le_pow n 16 (by omega); rw [Nat.pow_succ]; omega
theorem sC_eq (x : Nat) (h : Low 16 x) : sC (x : Int) = (K 8 x : Nat) := by
  have hl : 2 * x < 18446744073709551616 ∨ x = 0 := low_lt 16 x h
  unfold sC
  rw [show IntKind.u64.wrap ((x : Int) / 16 + x) = ((x / 16 + x : Nat) : Int) by rw [IntKind.wrap_u64]; omega, show (1085102592571150095 : Int) = ((1085102592571150095 : Nat) : Int) by rfl, u64_and_nat _ _ (by omega) (by omega), ← mask2, stageC 8 x h]
theorem sD_eq (k x : Nat) (h : x + x / k < 18446744073709551616) : sD (k : Int) (x : Int) = ((x + x / k : Nat) : Int) := by
  unfold sD; rw [IntKind.wrap_u64, show (x : Int) + (x : Int) / (k : Int) = ((x + x / k : Nat) : Int) by simp]
  generalize x + x / k = y at *
  omega
theorem ones (x : Nat) (hx : x < 18446744073709551616) : bits .and .i64 (RowKit.wrap64 (sD 4294967296 (sD 65536 (sD 256 (sC (sB (sA (x : Int)))))))) 127 = (Set4.pop x 64 : Int) := by
  rw [show ∀ n : Int, RowKit.wrap64 n = IntKind.i64.wrap n from fun n => by rw [IntKind.wrap_i64]; unfold RowKit.wrap64; rfl]
  have hl : F 32 x < 18446744073709551616 := F_le 32 x
  rw [sA_eq x hx, sB_eq _ hl, show F 32 x = F (2 * 16) x by rfl, GF, sC_eq _ (low_H 16 x), show H 16 x = H (2 * 8) x by rfl, KH]
  have lw : L 8 x = 256 * (256 * (256 * (256 * (256 * (256 * (256 * popR 8 (x / 256 / 256 / 256 / 256 / 256 / 256 / 256 % 256) + popR 8 (x / 256 / 256 / 256 / 256 / 256 / 256 % 256)) + popR 8 (x / 256 / 256 / 256 / 256 / 256 % 256)) + popR 8 (x / 256 / 256 / 256 / 256 % 256)) + popR 8 (x / 256 / 256 / 256 % 256)) + popR 8 (x / 256 / 256 % 256)) + popR 8 (x / 256 % 256)) + popR 8 (x % 256) := by simp only [L]; omega
  have pw : popR 64 x = popR 8 (x % 256) + (popR 8 (x / 256 % 256) + (popR 8 (x / 256 / 256 % 256) + (popR 8 (x / 256 / 256 / 256 % 256) + (popR 8 (x / 256 / 256 / 256 / 256 % 256) + (popR 8 (x / 256 / 256 / 256 / 256 / 256 % 256) + (popR 8 (x / 256 / 256 / 256 / 256 / 256 / 256 % 256) + popR 8 (x / 256 / 256 / 256 / 256 / 256 / 256 / 256 % 256))))))) := by
    rw [popR_bytes 56 x, popR_bytes 48, popR_bytes 40, popR_bytes 32, popR_bytes 24, popR_bytes 16, popR_bytes 8]
    have e := popR_bytes 0 (x / 256 / 256 / 256 / 256 / 256 / 256 / 256)
    simp only [popR, Nat.add_zero] at e ⊢
    omega
  have E := ends _ _ _ _ _ _ _ _ (popR_le 8 _) (popR_le 8 _) (popR_le 8 _) (popR_le 8 _) (popR_le 8 _) (popR_le 8 _) (popR_le 8 _) (popR_le 8 _) (L 8 x) _ _ _ lw rfl rfl rfl
  generalize L 8 x = v at *
  obtain ⟨e1, e2, e3, e4, e5⟩ := E
  rw [show (256 : Int) = ((256 : Nat) : Int) by rfl, sD_eq 256 v (by omega), show (65536 : Int) = ((65536 : Nat) : Int) by rfl, sD_eq 65536 _ (by omega), show (4294967296 : Int) = ((4294967296 : Nat) : Int) by rfl, sD_eq 4294967296 _ (by omega)]
  rw [pop_eq, pw]
  generalize (v + v / 256 + (v + v / 256) / 65536 + (v + v / 256 + (v + v / 256) / 65536) / 4294967296) = t at *
  rw [show IntKind.i64.wrap (t : Int) = (t : Int) by rw [IntKind.wrap_i64]; omega]
  have b := bits_mask .i64 63 (by decide) (fun n h0 h1 => by rw [IntKind.wrap_i64]; omega) 7 (by decide) (t : Int) (by omega) (by omega)
  rw [show ((2 : Int) ^ 7 - 1) = 127 by rfl] at b
  rw [b]
  omega
end Pop
end Go.Proofs.YtijagdpkclghnaaDoor
