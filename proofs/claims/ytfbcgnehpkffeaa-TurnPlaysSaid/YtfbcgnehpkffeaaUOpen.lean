/- The laws' acts among the arguments. -/
import Derived.Test.YtfbcgnehpkffeaaPRow
import Derived.Test.YtfbcgnehpkffeaaURun
namespace Go.Proofs.Ytfbcgnehpkffeaa
open Go Go.ChangeShapes Go.WideShapes Go.ChangeAt Go.RowKit
def In3 (x : Int × Int × Bool) : Prop := In64 x.1 ∧ In64 x.2.1
theorem trod_act3 {H : Type} {enc : TypeId × Value → H} {P : Program} {W : World} {base : Nat} {sp : Nat → Bool} {held : Bool} {t : TypeId} {f0 f1 f2 : Field} {fuel : Nat} {cs : List Value} {x : DataW H × List MemPlace} (ht : P.underlying t = some (.struct #[f0, f1, f2])) (hct : P.cellsOf t = 3)
    (o0 : f0.offset = 0) (o1 : f1.offset = 1) (o2 : f2.offset = 2) (c0 : P.cellsOf f0.type = 1) (c1 : P.cellsOf f1.type = 1) (c2 : P.cellsOf f2.type = 1)
    (e0 : P.underlying f0.type = some (.int .i64)) (e1 : P.underlying f1.type = some (.int .i64)) (e2 : P.underlying f2.type = some .bool)
    (h : DataW.trod enc P W base sp held fuel t cs = some x) : ∃ y, cs = act3 y ∧ In3 y := by
  obtain ⟨xs, n, _, rfl, hl, hlen, hf⟩ := DataW.trod_struct ht h
  rw [hct] at hl
  match cs, hl, xs, hlen with
  | [v0, v1, v2], _, [y0, y1, y2], _ =>
    have g0 := hf 0 f0 rfl
    have g1 := hf 1 f1 rfl
    have g2 := hf 2 f2 rfl
    rw [o0, c0] at g0; rw [o1, c1] at g1; rw [o2, c2] at g2
    obtain ⟨z0, h0, _, w0⟩ := DataW.trod_int (x := y0) e0 (by simpa using g0)
    obtain ⟨z1, h1, _, w1⟩ := DataW.trod_int (x := y1) e1 (by simpa using g1)
    obtain ⟨z2, h2, _⟩ := DataW.trod_bool (x := y2) e2 (by simpa using g2)
    simp at h0 h1 h2
    subst h0; subst h1; subst h2
    exact ⟨(z0, z1, z2), rfl, in64_of w0, in64_of w1⟩
theorem rows_act3 : ∀ rs : List (List Value), (∀ r ∈ rs, ∃ y, r = act3 y ∧ In3 y) → ∃ l : List (Int × Int × Bool), rs = l.map act3 ∧ ∀ x ∈ l, In3 x
  | [], _ => ⟨[], rfl, fun x hx => by cases hx⟩
  | r :: rs, h => by
    obtain ⟨y, rfl, hy⟩ := h r (by simp)
    obtain ⟨l, rfl, hl⟩ := rows_act3 rs fun r' hr' => h r' (by simp [hr'])
    refine ⟨y :: l, rfl, fun x hx => ?_⟩
    rcases List.mem_cons.1 hx with rfl | hx
    · exact hy
    · exact hl x hx
/-- A list of acts that came in. -/
theorem open_acts {H : Type} {enc : TypeId × Value → H} {W : World} {held : Bool} {a : Option Addr} {len cap : Nat} {d : DataW H} {p : List MemPlace}
    (h : DataW.Trod enc Try.prog W 0 (fun _ => true) held 22 (.slice a len cap) d p) :
    ∃ l : List (Int × Int × Bool), l.length = len ∧ len ≤ cap ∧ (∀ x ∈ l, In3 x) ∧ (a = none → len = 0 ∧ cap = 0) ∧
      (l = [] ∨ ∃ b o, a = some ⟨b, o, none⟩ ∧ ∀ i x, l[i]? = some x → ∀ j u, (act3 x)[j]? = some u → W.cell? ⟨b, o + i * 3 + j, none⟩ = some u) := by
  obtain ⟨rs, h1, h2, _, h4, h5, h6⟩ := open_slice_rows (m := 3) (e := 37) (fun cs => ∃ y, cs = act3 y ∧ In3 y) Try.underlying22 (by kernel_rfl) (by decide)
    (fun n cs x hx => trod_act3 Try.underlying37 (by kernel_rfl) rfl rfl rfl (by kernel_rfl) (by kernel_rfl) (by kernel_rfl) Try.underlying3 Try.underlying3 Try.underlying4 hx) h
  obtain ⟨l, rfl, hl⟩ := rows_act3 rs h5
  refine ⟨l, by simpa using h1, h2, hl, h4, ?_⟩
  rcases h6 with h6 | ⟨b, o, ha, hc⟩
  · left; simpa using h6
  · right
    exact ⟨b, o, ha, fun i x hx j u hu => hc i (act3 x) (by rw [List.getElem?_map, hx]; rfl) j u hu⟩
end Go.Proofs.Ytfbcgnehpkffeaa
