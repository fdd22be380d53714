/- Structs of four integers among the arguments, and slices of such: laws of my own, no program in them. -/
import Derived.Test.YtijagdpkclghnaaDoorOpen
import Derived.Deep.Slices
namespace Go
open Go.ChangeShapes Go.WideShapes Go.ChangeAt Go.RowKit
section
variable {H : Type} {enc : TypeId × Value → H} {P : Program} {W : World} {held : Bool} {base : Nat} {sp : Nat → Bool}
/-- Four integers of kind i64, as cells. -/
abbrev int4 (x : Int × Int × Int × Int) : List Value := [.int .i64 x.1, .int .i64 x.2.1, .int .i64 x.2.2.1, .int .i64 x.2.2.2]
def In64 (z : Int) : Prop := -9223372036854775808 ≤ z ∧ z ≤ 9223372036854775807
def In4 (x : Int × Int × Int × Int) : Prop := In64 x.1 ∧ In64 x.2.1 ∧ In64 x.2.2.1 ∧ In64 x.2.2.2
theorem in64_of {z : Int} (h : (Lit.int .i64 z).wf = true) : In64 z := by
  exact bounds_i64 h
theorem wf_in64 {z : Int} (h : In64 z) : (Lit.int .i64 z).wf = true := by
  unfold In64 at h
  simp [Lit.wf, IntKind.min, IntKind.max, IntKind.signed, IntKind.bits]
  omega
theorem trod_int4 {t : TypeId} {f0 f1 f2 f3 : Field} {fuel : Nat} {cs : List Value} {x : DataW H × List MemPlace} (ht : P.underlying t = some (.struct #[f0, f1, f2, f3])) (hct : P.cellsOf t = 4)
    (o0 : f0.offset = 0) (o1 : f1.offset = 1) (o2 : f2.offset = 2) (o3 : f3.offset = 3) (c0 : P.cellsOf f0.type = 1) (c1 : P.cellsOf f1.type = 1) (c2 : P.cellsOf f2.type = 1) (c3 : P.cellsOf f3.type = 1)
    (e0 : P.underlying f0.type = some (.int .i64)) (e1 : P.underlying f1.type = some (.int .i64)) (e2 : P.underlying f2.type = some (.int .i64)) (e3 : P.underlying f3.type = some (.int .i64))
    (h : DataW.trod enc P W base sp held fuel t cs = some x) : ∃ y, cs = int4 y ∧ In4 y := by
  obtain ⟨xs, n, _, rfl, hl, hlen, hf⟩ := DataW.trod_struct ht h
  rw [hct] at hl
  match cs, hl, xs, hlen with
  | [v0, v1, v2, v3], _, [y0, y1, y2, y3], _ =>
    have g0 := hf 0 f0 rfl
    have g1 := hf 1 f1 rfl
    have g2 := hf 2 f2 rfl
    have g3 := hf 3 f3 rfl
    rw [o0, c0] at g0; rw [o1, c1] at g1; rw [o2, c2] at g2; rw [o3, c3] at g3
    obtain ⟨z0, h0, _, w0⟩ := DataW.trod_int (x := y0) e0 (by simpa using g0)
    obtain ⟨z1, h1, _, w1⟩ := DataW.trod_int (x := y1) e1 (by simpa using g1)
    obtain ⟨z2, h2, _, w2⟩ := DataW.trod_int (x := y2) e2 (by simpa using g2)
    obtain ⟨z3, h3, _, w3⟩ := DataW.trod_int (x := y3) e3 (by simpa using g3)
    simp at h0 h1 h2 h3
    subst h0; subst h1; subst h2; subst h3
    exact ⟨(z0, z1, z2, z3), rfl, in64_of w0, in64_of w1, in64_of w2, in64_of w3⟩
theorem rows_int4 : ∀ rs : List (List Value), (∀ r ∈ rs, ∃ y, r = int4 y ∧ In4 y) → ∃ l : List (Int × Int × Int × Int), rs = l.map int4 ∧ ∀ x ∈ l, In4 x
  | [], _ => ⟨[], rfl, fun x hx => by cases hx⟩
  | r :: rs, h => by
    obtain ⟨y, rfl, hy⟩ := h r (by simp)
    obtain ⟨l, rfl, hl⟩ := rows_int4 rs fun r' hr' => h r' (by simp [hr'])
    refine ⟨y :: l, rfl, fun x hx => ?_⟩
    rcases List.mem_cons.1 hx with rfl | hx
    · exact hy
    · exact hl x hx
theorem addr_add' (b o j : Nat) : (⟨b, o, none⟩ : Addr).add j = ⟨b, o + j, none⟩ := by
  unfold Addr.add
  split
  · rename_i h; subst h; rfl
  · rfl
/-- A slice of rows of m cells that came in. -/
theorem open_slice_rows {t e : TypeId} {m : Nat} (Q : List Value → Prop) {a : Option Addr} {len cap : Nat} {d : DataW H} {p : List MemPlace} (ht : P.underlying t = some (.slice e)) (hce : P.cellsOf e = m) (hm : 0 < m)
    (hQ : ∀ n cs x, DataW.trod enc P W 0 (fun _ => true) held n e cs = some x → Q cs) (h : DataW.Trod enc P W 0 (fun _ => true) held t (.slice a len cap) d p) :
    ∃ rs : List (List Value), rs.length = len ∧ len ≤ cap ∧ cap ≤ maxLen ∧ (a = none → len = 0 ∧ cap = 0) ∧ (∀ r ∈ rs, Q r) ∧
      (rs = [] ∨ ∃ b o, a = some ⟨b, o, none⟩ ∧ ∀ i r, rs[i]? = some r → ∀ j u, r[j]? = some u → W.cell? ⟨b, o + i * m + j, none⟩ = some u) := by
  obtain ⟨fuel, hf⟩ := h
  rcases Go.Deep.open_slice ht hf with ⟨hcs, _⟩ | ⟨x, l, c, mm, n, D, Pl, hcs, _, hl, hmx, hmm, _, hx⟩
  · simp [Value.cells] at hcs
    obtain ⟨rfl, rfl, rfl⟩ := hcs
    exact ⟨[], rfl, Nat.le_refl _, Nat.zero_le _, fun _ => ⟨rfl, rfl⟩, (fun r hr => by cases hr), .inl rfl⟩
  · simp [Value.cells] at hcs
    obtain ⟨rfl, rfl, rfl⟩ := hcs
    have hmm' : mm = cap := by simpa using hmm
    subst hmm'
    have each : ∀ i, i < len → ∃ r : List Value, Q r ∧ r.length = m ∧ ∀ j u, r[j]? = some u → W.cell? ((x.add (i * m)).add j) = some u := fun i hi => by
      obtain ⟨cs', h1, h2⟩ := hx i (by omega)
      rw [hce] at h1
      obtain ⟨_, hlen, hcell⟩ := World.cells?_some h1
      refine ⟨cs', hQ _ _ _ h2, by simpa using hlen, fun j u hj => ?_⟩
      have hj2 : j < m := by
        have := (List.getElem?_eq_some_iff.1 hj).1
        omega
      rw [hcell j hj2]
      exact hj
    have hch : ∀ k, k ≤ len → ∃ rs : List (List Value), rs.length = k ∧ (∀ r ∈ rs, Q r) ∧ (∀ r ∈ rs, r.length = m) ∧ ∀ i r, rs[i]? = some r → ∀ j u, r[j]? = some u → W.cell? ((x.add (i * m)).add j) = some u := by
      intro k
      induction k with
      | zero => intro _; exact ⟨[], rfl, (fun r hr => by cases hr), (fun r hr => by cases hr), fun i r hr => by simp at hr⟩
      | succ k ih =>
        intro hk
        obtain ⟨rs, h1, h2, h2', h3⟩ := ih (by omega)
        obtain ⟨r, q1, q2, q3⟩ := each k (by omega)
        refine ⟨rs ++ [r], by simp [h1], fun r' hr' => ?_, fun r' hr' => ?_, fun i r' hi => ?_⟩
        · rcases List.mem_append.1 hr' with h | h
          · exact h2 r' h
          · rw [List.mem_singleton.1 h]; exact q1
        · rcases List.mem_append.1 hr' with h | h
          · exact h2' r' h
          · rw [List.mem_singleton.1 h]; exact q2
        · by_cases e : i < k
          · rw [List.getElem?_append_left (by omega)] at hi
            exact h3 i r' hi
          · rw [List.getElem?_append_right (by omega)] at hi
            have e2 : i = k := by
              have := (List.getElem?_eq_some_iff.1 hi).1
              simp at this
              omega
            subst e2
            rw [h1, Nat.sub_self] at hi
            simp at hi
            subst hi
            exact q3
    obtain ⟨rs, h1, h2, h2', h3⟩ := hch len (Nat.le_refl _)
    refine ⟨rs, h1, hl, hmx, (fun h => by cases h), h2, ?_⟩
    by_cases h0 : len = 0
    · left; exact List.length_eq_zero_iff.1 (by omega)
    · right
      obtain ⟨b, o, sp'⟩ := x
      obtain ⟨r0, hr0⟩ : ∃ r0, rs[0]? = some r0 := ⟨rs[0]'(by omega), by rw [List.getElem?_eq_getElem (by omega)]⟩
      have hr0l := h2' r0 (List.mem_of_getElem? hr0)
      have hc0 := h3 0 r0 hr0 0 (r0[0]'(by omega)) (by rw [List.getElem?_eq_getElem (by omega)])
      rw [Nat.zero_mul] at hc0
      have e0 : ((⟨b, o, sp'⟩ : Addr).add 0).add 0 = ⟨b, o, sp'⟩ := rfl
      rw [e0] at hc0
      have h3' : sp' = none := by
        cases sp' with
        | none => rfl
        | some q =>
          unfold World.cell? at hc0
          split at hc0 <;> simp at hc0
      subst h3'
      refine ⟨b, o, rfl, fun i r hi j u hj => ?_⟩
      have := h3 i r hi j u hj
      rw [addr_add', addr_add'] at this
      exact this
end
end Go
