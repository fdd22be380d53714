/- The cache laws' acts among the arguments. -/
import Derived.Test.YtijagdpkclghnaaDoorMRow
import Derived.Test.YtijagdpkclghnaaDoorCLawOld
namespace Go.Proofs.YtijagdpkclghnaaDoor
open Go Go.ChangeShapes Go.WideShapes Go.ChangeAt Go.RowKit
set_option maxRecDepth 100000
def In5 (y : Ac) : Prop := In64 y.1 ∧ In64 y.2.1 ∧ In64 y.2.2.1 ∧ 0 ≤ y.2.2.2.1 ∧ y.2.2.2.1 < 256
theorem trod_act5 {H : Type} {enc : TypeId × Value → H} {P : Program} {W : World} {base : Nat} {sp : Nat → Bool} {held : Bool} {t : TypeId} {f0 f1 f2 f3 f4 : Field} {fuel : Nat} {cs : List Value} {x : DataW H × List MemPlace} (ht : P.underlying t = some (.struct #[f0, f1, f2, f3, f4])) (hct : P.cellsOf t = 5)
    (o0 : f0.offset = 0) (o1 : f1.offset = 1) (o2 : f2.offset = 2) (o3 : f3.offset = 3) (o4 : f4.offset = 4) (c0 : P.cellsOf f0.type = 1) (c1 : P.cellsOf f1.type = 1) (c2 : P.cellsOf f2.type = 1) (c3 : P.cellsOf f3.type = 1) (c4 : P.cellsOf f4.type = 1)
    (e0 : P.underlying f0.type = some (.int .i64)) (e1 : P.underlying f1.type = some (.int .i64)) (e2 : P.underlying f2.type = some (.int .i64)) (e3 : P.underlying f3.type = some (.int .u8)) (e4 : P.underlying f4.type = some .bool)
    (h : DataW.trod enc P W base sp held fuel t cs = some x) : ∃ y, cs = act5 y ∧ In5 y := by
  obtain ⟨xs, n, _, rfl, hl, hlen, hf⟩ := DataW.trod_struct ht h
  rw [hct] at hl
  match cs, hl, xs, hlen with
  | [v0, v1, v2, v3, v4], _, [y0, y1, y2, y3, y4], _ =>
    have g0 := hf 0 f0 rfl
    have g1 := hf 1 f1 rfl
    have g2 := hf 2 f2 rfl
    have g3 := hf 3 f3 rfl
    have g4 := hf 4 f4 rfl
    rw [o0, c0] at g0; rw [o1, c1] at g1; rw [o2, c2] at g2; rw [o3, c3] at g3; rw [o4, c4] at g4
    obtain ⟨z0, h0, _, w0⟩ := DataW.trod_int (x := y0) e0 (by simpa using g0)
    obtain ⟨z1, h1, _, w1⟩ := DataW.trod_int (x := y1) e1 (by simpa using g1)
    obtain ⟨z2, h2, _, w2⟩ := DataW.trod_int (x := y2) e2 (by simpa using g2)
    obtain ⟨z3, h3, _, w3⟩ := DataW.trod_int (x := y3) e3 (by simpa using g3)
    obtain ⟨z4, h4, _⟩ := DataW.trod_bool (x := y4) e4 (by simpa using g4)
    simp at h0 h1 h2 h3 h4
    subst h0; subst h1; subst h2; subst h3; subst h4
    have b3 := bounds_u8 w3
    exact ⟨(z0, z1, z2, z3, z4), rfl, in64_of w0, in64_of w1, in64_of w2, b3.1, by show z3 < 256; omega⟩
theorem rows_act5 : ∀ rs : List (List Value), (∀ r ∈ rs, ∃ y, r = act5 y ∧ In5 y) → ∃ l : List Ac, rs = l.map act5 ∧ ∀ x ∈ l, In5 x
  | [], _ => ⟨[], rfl, fun x hx => by cases hx⟩
  | r :: rs, h => by
    obtain ⟨y, rfl, hy⟩ := h r (by simp)
    obtain ⟨l, rfl, hl⟩ := rows_act5 rs fun r' hr' => h r' (by simp [hr'])
    refine ⟨y :: l, rfl, fun x hx => ?_⟩
    rcases List.mem_cons.1 hx with rfl | hx
    · exact hy
    · exact hl x hx
/-- A list of acts that came in. -/
theorem open_acts {H : Type} {enc : TypeId × Value → H} {W : World} {held : Bool} {a : Option Addr} {len cap : Nat} {d : DataW H} {p : List MemPlace}
    (h : DataW.Trod enc Tryd.prog W 0 (fun _ => true) held 23 (.slice a len cap) d p) :
    ∃ l : List Ac, l.length = len ∧ len ≤ cap ∧ (∀ x ∈ l, In5 x) ∧ (a = none → len = 0 ∧ cap = 0) ∧
      (l = [] ∨ ∃ b o, a = some ⟨b, o, none⟩ ∧ ∀ i x, l[i]? = some x → ∀ j u, (act5 x)[j]? = some u → W.cell? ⟨b, o + i * 5 + j, none⟩ = some u) := by
  obtain ⟨rs, h1, h2, _, h4, h5, h6⟩ := open_slice_rows (m := 5) (e := 30) (fun cs => ∃ y, cs = act5 y ∧ In5 y) Tryd.underlying23 (by kernel_rfl) (by decide)
    (fun n cs x hx => trod_act5 Tryd.underlying30 (by kernel_rfl) rfl rfl rfl rfl rfl (by kernel_rfl) (by kernel_rfl) (by kernel_rfl) (by kernel_rfl) (by kernel_rfl) Tryd.underlying3 Tryd.underlying3 Tryd.underlying3 Tryd.underlying5 Tryd.underlying4 hx) h
  obtain ⟨l, rfl, hl⟩ := rows_act5 rs h5
  refine ⟨l, by simpa using h1, h2, hl, h4, ?_⟩
  rcases h6 with h6 | ⟨b, o, ha, hc⟩
  · left; simpa using h6
  · right
    exact ⟨b, o, ha, fun i x hx j u hu => hc i (act5 x) (by rw [List.getElem?_map, hx]; rfl) j u hu⟩
/-- Two integers that came in. -/
theorem open_two {H : Type} {enc : TypeId × Value → H} {W : World} {base : Nat} {sp : Nat → Bool} {held : Bool} {v : Value} {d : DataW H} {p : List MemPlace} {r : Reach} {t e : TypeId} (ht : Tryd.prog.underlying t = some (.array 2 e)) (he : Tryd.prog.underlying e = some (.int .i64)) (hce : Tryd.prog.cellsOf e = 1) (hct : Tryd.prog.cellsOf t = 2)
    (hv : Value.okWide Tryd.prog W r base t v) (h : DataW.Trod enc Tryd.prog W 0 sp held t v d p) : ∃ a b : Int, v = .agg #[.int .i64 a, .int .i64 b] ∧ In64 a ∧ In64 b := by
  obtain ⟨zs, hl, rfl, hw⟩ := open_array_ints ht he hce hct hv h
  match zs, hl, hw with
  | [a, b], _, hw => exact ⟨a, b, rfl, in64_of (hw a (by simp)), in64_of (hw b (by simp))⟩
end Go.Proofs.YtijagdpkclghnaaDoor
