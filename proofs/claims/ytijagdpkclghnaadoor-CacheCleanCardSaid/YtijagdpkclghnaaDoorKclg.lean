/- Several texts in one: CActs CFull COpenB COpenG CPutG CKeys CDirty CPair CClean. -/
import Derived.Test.YtijagdpkclghnaaDoorKclf
import Derived.Test.YtijagdpkclghnaaDoorRows
import Derived.Test.YtijagdpkclghnaaDoorProg
import Derived.Shelf.SlIterI.Nil
import Derived.Shelf.SortM.Plain
import Derived.Shelf.SortM.SortNone
import Derived.Ground.GgzProg
import Derived.Ground.SlgmProg
import Derived.Maps.OwnOps
import Derived.DeepKeys4
/- The cache laws' acts among the arguments. -/
namespace Go.Proofs.YtijagdpkclghnaaDoor
open Go Go.ChangeShapes Go.WideShapes Go.ChangeAt Go.RowKit
set_option maxRecDepth 100000
def In5 (y : Ac) : Prop := In64 y.1 ∧ In64 y.2.1 ∧ In64 y.2.2.1 ∧ 0 ≤ y.2.2.2.1 ∧ y.2.2.2.1 < 256
theorem trod_act5 {H : Type} {enc : TypeId × Value → H} {P : Program} {W : World} {base : Nat} {sp : Nat → Bool} {held : Bool} {t : TypeId} {f0 f1 f2 f3 f4 : Field} {fuel : Nat} {cs : List Value} {x : DataW H × List MemPlace} (ht : P.underlying t = some (.struct #[f0, f1, f2, f3, f4])) (hct : P.cellsOf t = 5)
    (o0 : f0.offset = 0) (o1 : f1.offset = 1) (o2 : f2.offset = 2) (o3 : f3.offset = 3) (o4 : f4.offset = 4) (c0 : P.cellsOf f0.type = 1) (c1 : P.cellsOf f1.type = 1) (c2 : P.cellsOf f2.type = 1) (c3 : P.cellsOf f3.type = 1) (c4 : P.cellsOf f4.type = 1)
    (e0 : P.underlying f0.type = some (.int .i64)) (e1 : P.underlying f1.type = some (.int .i64)) (e2 : P.underlying f2.type = some (.int .i64)) (e3 : P.underlying f3.type = some (.int .u8)) (e4 : P.underlying f4.type = some .bool)
    (h : DataW.trod enc P W base sp held fuel t cs = some x) : ∃ y, cs = act5 y ∧ In5 y := by
  obtain ⟨xs, n, _, rfl, hl, hlen, hf⟩ := DataW.trod_struct ht h
  rw [hct] at hl
  match cs, hl, xs, hlen with
  | [v0, v1, v2, v3, v4], _, [y0, y1, y2, y3, y4], _ =>
    have g0 := hf 0 f0 rfl
    have g1 := hf 1 f1 rfl
    have g2 := hf 2 f2 rfl
    have g3 := hf 3 f3 rfl
    have g4 := hf 4 f4 rfl
    rw [o0, c0] at g0; rw [o1, c1] at g1; rw [o2, c2] at g2; rw [o3, c3] at g3; rw [o4, c4] at g4
    obtain ⟨z0, h0, _, w0⟩ := DataW.trod_int (x := y0) e0 (by simpa using g0)
    obtain ⟨z1, h1, _, w1⟩ := DataW.trod_int (x := y1) e1 (by simpa using g1)
    obtain ⟨z2, h2, _, w2⟩ := DataW.trod_int (x := y2) e2 (by simpa using g2)
    obtain ⟨z3, h3, _, w3⟩ := DataW.trod_int (x := y3) e3 (by simpa using g3)
    obtain ⟨z4, h4, _⟩ := DataW.trod_bool (x := y4) e4 (by simpa using g4)
    simp at h0 h1 h2 h3 h4
    subst h0; subst h1; subst h2; subst h3; subst h4
    have b3 := bounds_u8 w3
    exact ⟨(z0, z1, z2, z3, z4), rfl, in64_of w0, in64_of w1, in64_of w2, b3.1, by show z3 < 256; omega⟩
theorem rows_act5 : ∀ rs : List (List Value), (∀ r ∈ rs, ∃ y, r = act5 y ∧ In5 y) → ∃ l : List Ac, rs = l.map act5 ∧ ∀ x ∈ l, In5 x
  | [], _ => ⟨[], rfl, fun x hx => by cases hx⟩
  | r :: rs, h => by
    obtain ⟨y, rfl, hy⟩ := h r (by simp)
    obtain ⟨l, rfl, hl⟩ := rows_act5 rs fun r' hr' => h r' (by simp [hr'])
    refine ⟨y :: l, rfl, fun x hx => ?_⟩
    rcases List.mem_cons.1 hx with rfl | hx
    · exact hy
    · exact hl x hx
/-- A list of acts that came in. -/
theorem open_acts {H : Type} {enc : TypeId × Value → H} {W : World} {held : Bool} {a : Option Addr} {len cap : Nat} {d : DataW H} {p : List MemPlace}
    (h : DataW.Trod enc Tryd.prog W 0 (fun _ => true) held 23 (.slice a len cap) d p) :
    ∃ l : List Ac, l.length = len ∧ len ≤ cap ∧ (∀ x ∈ l, In5 x) ∧ (a = none → len = 0 ∧ cap = 0) ∧
      (l = [] ∨ ∃ b o, a = some ⟨b, o, none⟩ ∧ ∀ i x, l[i]? = some x → ∀ j u, (act5 x)[j]? = some u → W.cell? ⟨b, o + i * 5 + j, none⟩ = some u) := by
  obtain ⟨rs, h1, h2, _, h4, h5, h6⟩ := open_slice_rows (m := 5) (e := 30) (fun cs => ∃ y, cs = act5 y ∧ In5 y) Tryd.underlying23 (by kernel_rfl) (by decide)
    (fun n cs x hx => trod_act5 Tryd.underlying30 (by kernel_rfl) rfl rfl rfl rfl rfl (by kernel_rfl) (by kernel_rfl) (by kernel_rfl) (by kernel_rfl) (by kernel_rfl) Tryd.underlying3 Tryd.underlying3 Tryd.underlying3 Tryd.underlying5 Tryd.underlying4 hx) h
  obtain ⟨l, rfl, hl⟩ := rows_act5 rs h5
  refine ⟨l, by simpa using h1, h2, hl, h4, ?_⟩
  rcases h6 with h6 | ⟨b, o, ha, hc⟩
  · left; simpa using h6
  · right
    exact ⟨b, o, ha, fun i x hx j u hu => hc i (act5 x) (by rw [List.getElem?_map, hx]; rfl) j u hu⟩
/-- Two integers that came in. -/
theorem open_two {H : Type} {enc : TypeId × Value → H} {W : World} {base : Nat} {sp : Nat → Bool} {held : Bool} {v : Value} {d : DataW H} {p : List MemPlace} {r : Reach} {t e : TypeId} (ht : Tryd.prog.underlying t = some (.array 2 e)) (he : Tryd.prog.underlying e = some (.int .i64)) (hce : Tryd.prog.cellsOf e = 1) (hct : Tryd.prog.cellsOf t = 2)
    (hv : Value.okWide Tryd.prog W r base t v) (h : DataW.Trod enc Tryd.prog W 0 sp held t v d p) : ∃ a b : Int, v = .agg #[.int .i64 a, .int .i64 b] ∧ In64 a ∧ In64 b := by
  obtain ⟨zs, hl, rfl, hw⟩ := open_array_ints ht he hce hct hv h
  match zs, hl, hw with
  | [a, b], _, hw => exact ⟨a, b, rfl, in64_of (hw a (by simp)), in64_of (hw b (by simp))⟩
/-- Three integers that came in. -/
theorem open_three {H : Type} {enc : TypeId × Value → H} {W : World} {base : Nat} {sp : Nat → Bool} {held : Bool} {v : Value} {d : DataW H} {p : List MemPlace} {r : Reach} {t e : TypeId} (ht : Tryd.prog.underlying t = some (.array 3 e)) (he : Tryd.prog.underlying e = some (.int .i64)) (hce : Tryd.prog.cellsOf e = 1) (hct : Tryd.prog.cellsOf t = 3)
    (hv : Value.okWide Tryd.prog W r base t v) (h : DataW.Trod enc Tryd.prog W 0 sp held t v d p) : ∃ a b c : Int, v = .agg #[.int .i64 a, .int .i64 b, .int .i64 c] ∧ In64 a ∧ In64 b ∧ In64 c := by
  obtain ⟨zs, hl, rfl, hw⟩ := open_array_ints ht he hce hct hv h
  match zs, hl, hw with
  | [a, b, c], _, hw => exact ⟨a, b, c, rfl, in64_of (hw a (by simp)), in64_of (hw b (by simp)), in64_of (hw c (by simp))⟩
end Go.Proofs.YtijagdpkclghnaaDoor
/- place of a full cache; Drop: contracts. -/
namespace Go.Proofs.YtijagdpkclghnaaDoor
open Go Go.RowKit
set_option maxRecDepth 100000
variable {B n data : Nat} {w w' w1 w2 : World} {C C' : CM} {T T' : TS} {M' : TM} {L L' : List Int} {f f' : Int → Option Ent} {E : Ent} {v : Int}
theorem drop_has (hg : Good T) (v k : Int) : (T.dropT v).has k = (T.has k && !(v == k)) := by
  have h1 := (List.nodup_append.1 hg.nodup).1
  have h2 := (List.nodup_append.1 hg.nodup).2.1
  unfold TS.has TS.dropT
  show ((T.dear.erase v).contains k || (T.plain.erase v).contains k) = _
  rw [erase_has h1, erase_has h2]
  cases T.dear.contains k <;> cases T.plain.contains k <;> cases (v == k) <;> rfl
/-- A stripe isn't there any more. -/
theorem CacheAt.dropped (h : CacheAt B n data w C T L f) (hS : Step C.M M' w w1) (hT : TurnAt B n w1 M' (T.dropT v)) (hm : w2.pmap Tryd.prog tI C.m n (L.erase v) (fun y => if y = v then none else (f y).map Ent.g)) (hg : w1.grownBy w2 (some C.m)) :
    CacheAt B n data w2 { C with M := M' } (T.dropT v) (L.erase v) (upd f v none) ∧ CStep C f { C with M := M' } (upd f v none) w w2 := by
  have s1 := hS.size
  have s2 := hg.size
  have hout : ∀ x, x < w.heap.size → ¬ C.M.foot x → ¬ M'.foot x := fun x hx hn => Step.out hS hx hn
  have k02 : ∀ x, x < w.heap.size → ¬ C.M.foot x → x ≠ C.m → w2.heap[x]? = w.heap[x]? := fun x hx hn hne => (hg.block x (by omega) (fun e => hne (Option.some.inj e))).trans (hS.block x hx hn)
  have hmM : ¬ M'.foot C.m := hout _ h.map.lt h.mM
  have hmap : (fun j => (upd f v none j).map Ent.g) = fun y => if y = v then none else (f y).map Ent.g := by
    funext j
    by_cases e : j = v
    · subst e; rw [upd_same, if_pos rfl]; rfl
    · rw [upd_other f _ e, if_neg e]
  have gone : ∀ j F, upd f v none j = some F → j ≠ v ∧ f j = some F := fun j F hF => by
    by_cases e : j = v
    · subst e; rw [upd_same] at hF; cases hF
    · rw [upd_other f _ e] at hF; exact ⟨e, hF⟩
  refine ⟨⟨?_, turnKeep hT fun x hx => hg.block x (hT.lts x hx).2 fun e => hmM (Option.some.inj e ▸ hx), h.good.drop v, by rw [hmap]; exact hm, fun j F hF => ?_, fun j F j' F' hF hF' hne x hx => ?_, fun j F hF x hx => ?_, h.gm, hout _ h.row.lt h.gM, hmM, h.bg, h.bm, fun k => ?_, h.d2, h.d30⟩, ?_⟩
  · have := rowSame h.row (k02 _ h.row.lt h.gM h.gm)
    show w2.row C.g [.pointer (some ⟨M'.g, 0, none⟩), _, _] tC
    rw [hS.g]; exact this
  · have hF := (gone j F hF).2
    exact (h.ent j F hF).same fun x hx => k02 x ((h.ent j F hF).lts x hx).2 (h.off j F hF x hx).2.2 (h.off j F hF x hx).2.1
  · exact h.apart j F j' F' (gone j F hF).2 (gone j' F' hF').2 hne x hx
  · have hF := (gone j F hF).2
    have ho := h.off j F hF x hx
    exact ⟨ho.1, ho.2.1, hout x ((h.ent j F hF).lts x hx).2 ho.2.2⟩
  · rw [drop_has h.good, h.keys, erase_has h.map.nodup]
  · refine ⟨rfl, hg.os.trans hS.os, hg.tape.trans hS.tape, hg.output.trans hS.output, by omega, fun x hx => ?_, fun x hx hn => k02 x hx (fun hf2 => hn (.inr (.inr (.inl hf2)))) fun e => hn (.inr (.inl e))⟩
    rcases hx with hx | hx | hx | ⟨j, F, hF, hx⟩
    · exact .inl (.inl hx)
    · exact .inl (.inr (.inl hx))
    · rcases hS.foot x hx with h1 | h1
      · exact .inl (.inr (.inr (.inl h1)))
      · exact .inr h1
    · exact .inl (.inr (.inr (.inr ⟨j, F, (gone j F hF).2, hx⟩)))
theorem victim_in (hv : T.victim = some v) : T.has v = true ∧ T.pins.contains v = false := by
  unfold TS.victim at hv
  have h1 := List.mem_of_find?_eq_some hv
  have h2 := List.find?_some hv
  exact ⟨(has_iff T v).2 h1, by simpa using h2⟩
theorem place_none (w : World) (h : CacheAt B n data w C T L f) (hn : T.full = true) (hv : T.victim = none) :
    Calls Tryd.prog 50 #[pt C.g] w fun e w' => e = .returned (.int .i64 10) ∧ Below w.heap.size w w' := by
  obtain ⟨c0, c1, c2⟩ := h.three
  have hF := Full_any w h.turn h.good
  rw [show decide (T.most ≤ T.plain.length + T.dear.length) = T.full from rfl, hn] at hF
  have HF := Lib.hid (And.intro hF (And.intro h hv))
  clear hF h hv
  go_enter Tryd.func50, Tryd.ntmps50
  go_wp2_with fail
  refine Calls.pure_to HF.out.1 ?_
  intro w1 b1
  have h1 := HF.out.2.1.below b1
  clear c0 c1 c2
  obtain ⟨c0, c1, c2⟩ := h1.three
  have H1 := Lib.hid (And.intro h1 b1)
  clear h1 b1
  go_wp2_with fail
  have hV := Victim_any w1 H1.out.1.turn H1.out.1.good
  rw [HF.out.2.2] at hV
  refine Calls.pure_to hV ?_
  intro w2 b2
  have B2 := Lib.hid (H1.out.2.trans (b2.mono H1.out.2.size))
  clear hV b2 c0 c1 c2
  go_wp2_with fail
  go_returns
  exact ⟨rfl, B2.out⟩
theorem place_some (w : World) (h : CacheAt B n data w C T L f) (hn : T.full = true) (hv : T.victim = some v) :
    Calls Tryd.prog 50 #[pt C.g] w fun e w' => e = .returned (.int .i64 0) ∧ ∃ M', CacheAt B n data w' { C with M := M' } (T.dropT v) (L.erase v) (upd f v none) ∧ CStep C f { C with M := M' } (upd f v none) w w' := by
  obtain ⟨c0, c1, c2⟩ := h.three
  have hF := Full_any w h.turn h.good
  rw [show decide (T.most ≤ T.plain.length + T.dear.length) = T.full from rfl, hn] at hF
  have hv64 : In64 v := h.good.in64 v ((has_iff T v).1 (victim_in hv).1)
  have HF := Lib.hid (And.intro hF (And.intro h (And.intro hv hv64)))
  clear hF h hv hv64
  go_enter Tryd.func50, Tryd.ntmps50
  go_wp2_with fail
  refine Calls.pure_to HF.out.1 ?_
  intro w1 b1
  have h1 := HF.out.2.1.below b1
  clear c0 c1 c2
  obtain ⟨c0, c1, c2⟩ := h1.three
  have H1 := Lib.hid (And.intro h1 b1)
  clear h1 b1
  go_wp2_with fail
  have hV := Victim_any w1 H1.out.1.turn H1.out.1.good
  rw [HF.out.2.2.1] at hV
  refine Calls.pure_to hV ?_
  intro w2 b2
  have h2 := H1.out.1.below b2
  clear c0 c1 c2
  obtain ⟨c0, c1, c2⟩ := h2.three
  have H2 := Lib.hid (And.intro h2 (H1.out.2.trans (b2.mono H1.out.2.size)))
  clear hV b2 h2
  simp only [Option.getD_some, Option.isSome_some]
  go_wp2_with fail
  refine (Drop_any v w2 H2.out.1.turn H2.out.1.good HF.out.2.2.2).mono ?_
  rintro e w3 ⟨rfl, M', hT3, hS3⟩
  have q2 := hS3.cell c2 H2.out.1.gM
  have hmp := H2.out.1.map.same (hS3.block _ H2.out.1.map.lt H2.out.1.mM)
  have H3 := Lib.hid (And.intro hT3 hS3)
  clear hT3 hS3 c0 c1 c2
  go_wp2_with (at_delete; refine wpList_delete_pm rfl _ _ 54 rfl Tryd.underlying3 Tryd.underlying54 rfl hmp v rfl HF.out.2.2.2 ?_; intro w4 hm4 hg4)
  go_returns
  obtain ⟨A1, A2⟩ := H2.out.1.dropped H3.out.2 H3.out.1 hm4 hg4
  exact ⟨rfl, M', A1, (CStep.of_below C f H2.out.2).trans A2⟩
/-- Drop. -/
def canDrop (f : Int → Option Ent) (i : Int) : Bool := match f i with
  | none => false
  | some E => E.dt.empty
theorem Drop_yes (i : Int) (w : World) (h : CacheAt B n data w C T L f) (hi : In64 i) (hc : canDrop f i = true) :
    Calls Tryd.prog 15 #[pt C.g, .int .i64 i] w fun e w' => e = .returned (.bool true) ∧ ∃ M', CacheAt B n data w' { C with M := M' } (T.dropT i) (L.erase i) (upd f i none) ∧ CStep C f { C with M := M' } (upd f i none) w w' := by
  have hR := row_any i w h hi
  unfold canDrop at hc
  cases hf : f i with
  | none => rw [hf] at hc; cases hc
  | some E =>
    rw [hf] at hc hR
    simp only [Option.map_some, ptrV] at hR hc
    have hM := Empty_any E.dt w
    rw [hc] at hM
    have hE := h.ent i E hf
    have k0 := hE.row.cell 10 rfl
    have k1 := hE.row.cell 11 rfl
    have k2 := hE.row.cell 12 rfl
    have k3 := hE.row.cell 13 rfl
    have HR := Lib.hid (And.intro hR (And.intro hM (And.intro h hi)))
    clear hR hM hE h hi
    go_enter Tryd.func15, Tryd.ntmps15
    go_wp2_with fail
    refine HR.out.1.mono ?_
    rintro e w1 ⟨rfl, rfl⟩
    go_wp2_with fail
    refine Calls.pure_to HR.out.2.1 ?_
    intro w2 b2
    have h2 := HR.out.2.2.1.below b2
    obtain ⟨c0, c1, c2⟩ := h2.three
    have H2 := Lib.hid (And.intro h2 b2)
    clear h2 b2 k0 k1 k2 k3
    go_wp2_with fail
    refine (Drop_any i w2 H2.out.1.turn H2.out.1.good HR.out.2.2.2).mono ?_
    rintro e w3 ⟨rfl, M', hT3, hS3⟩
    have q2 := hS3.cell c2 H2.out.1.gM
    have hmp := H2.out.1.map.same (hS3.block _ H2.out.1.map.lt H2.out.1.mM)
    have H3 := Lib.hid (And.intro hT3 hS3)
    clear hT3 hS3 c0 c1 c2
    go_wp2_with (at_delete; refine wpList_delete_pm rfl _ _ 54 rfl Tryd.underlying3 Tryd.underlying54 rfl hmp i rfl HR.out.2.2.2 ?_; intro w4 hm4 hg4)
    go_returns
    obtain ⟨A1, A2⟩ := H2.out.1.dropped H3.out.2 H3.out.1 hm4 hg4
    exact ⟨rfl, M', A1, (CStep.of_below C f H2.out.2).trans A2⟩
theorem Drop_no (i : Int) (w : World) (h : CacheAt B n data w C T L f) (hi : In64 i) (hc : canDrop f i = false) :
    Calls Tryd.prog 15 #[pt C.g, .int .i64 i] w fun e w' => e = .returned (.bool false) ∧ Below w.heap.size w w' := by
  have hR := row_any i w h hi
  unfold canDrop at hc
  cases hf : f i with
  | none =>
    rw [hf] at hR
    simp only [Option.map_none, ptrV] at hR
    have HR := Lib.hid hR
    clear hR h hi
    go_enter Tryd.func15, Tryd.ntmps15
    go_wp2_with fail
    refine HR.out.mono ?_
    rintro e w1 ⟨rfl, rfl⟩
    go_wp2_with fail
    go_returns
    exact ⟨rfl, Below.refl _ _⟩
  | some E =>
    rw [hf] at hc hR
    simp only [Option.map_some, ptrV] at hR hc
    have hM := Empty_any E.dt w
    rw [hc] at hM
    have hE := h.ent i E hf
    have k0 := hE.row.cell 10 rfl
    have k1 := hE.row.cell 11 rfl
    have k2 := hE.row.cell 12 rfl
    have k3 := hE.row.cell 13 rfl
    have HR := Lib.hid (And.intro hR hM)
    clear hR hM hE h hi
    go_enter Tryd.func15, Tryd.ntmps15
    go_wp2_with fail
    refine HR.out.1.mono ?_
    rintro e w1 ⟨rfl, rfl⟩
    go_wp2_with fail
    refine Calls.pure_to HR.out.2 ?_
    intro w2 b2
    clear k0 k1 k2 k3
    go_wp2_with fail
    go_returns
    exact ⟨rfl, b2⟩
end Go.Proofs.YtijagdpkclghnaaDoor
/- open of a cache, whatever place says: contracts. -/
namespace Go.Proofs.YtijagdpkclghnaaDoor
open Go Go.RowKit
set_option maxRecDepth 100000
variable {B n data : Nat} {w w' : World} {C C' : CM} {T T' : TS} {L L' : List Int} {f f' : Int → Option Ent} {E : Ent}
set_option maxHeartbeats 4000000 in
theorem open_by (i : Int) (c : Nat) (s : ByteArray) (w : World) (h : CacheAt B n data w C T L f) (hi : 0 ≤ i) (hi2 : i < 64) (hc : c < data) (hs : s.size = 64) (hf : f i = none) (hnn : n < 100000) (R : TS → (Int → Option Ent) → Prop)
    (hpl : Calls Tryd.prog 50 #[pt C.g] w fun e w' => e = .returned (.int .i64 0) ∧ ∃ (M0 : TM) (T0 : TS) (L0 : List Int) (f0 : Int → Option Ent), CacheAt B n data w' { C with M := M0 } T0 L0 f0 ∧ CStep C f { C with M := M0 } f0 w w' ∧ T0.full = false ∧ f0 i = none ∧ R T0 f0) :
    Calls Tryd.prog 26 #[pt C.g, .int .i64 i, .int .i64 (c : Int), .string s] w fun e w' => ∃ (C' : CM) (E : Ent), e = .returned (.tuple #[pt E.g, .int .i64 0]) ∧ ∃ (T0 : TS) (L0 : List Int) (f0 : Int → Option Ent), CacheAt B (n + 1) data w' C' (T0.addT i) (addTo L0 i) (upd f0 i (some E)) ∧ CStep C f C' (upd f0 i (some E)) w w' ∧ (T0.full = false ∧ f0 i = none ∧ T0.has i = false ∧ R T0 f0) ∧
      E.nt = Set4.zero ∧ E.ot = Set4.zero ∧ E.dt = Set4.zero ∧ E.nb = List.replicate data noB ∧ E.ob = List.replicate data noB := by
  have hh : T.has i = false := by
    rw [h.keys, ← h.map.some_, hf]; rfl
  obtain ⟨c0, c1, c2⟩ := h.three
  have hi64 : In64 i := ⟨by omega, by omega⟩
  have hcI : (c : Int) < (data : Int) := by omega
  have hsI : (s.size : Int) = 64 := by omega
  have hR := row_any i w h hi64
  rw [hf] at hR
  simp only [Option.map_none, ptrV] at hR
  have HR := Lib.hid (And.intro hR (And.intro hi64 hh))
  have HC := Lib.hid h
  have HPL := Lib.hid hpl
  clear hpl
  have hmk := run_make_row' (P := Tryd.prog) 64 tStr (.string noB) 16 Tryd.underlying64 infoStr rfl .i64 .i64 data (by have := h.d30; omega) (by have := h.d30; omega)
  have HM := Lib.hid hmk
  clear hR hi64 hh hmk
  go_enter Tryd.func26, Tryd.ntmps26
  go_wp2_with fail
  refine HR.out.1.mono ?_
  rintro e w1 ⟨rfl, rfl⟩
  go_wp2_with fail
  refine HPL.out.mono ?_
  rintro e w1 ⟨rfl, M0, T0, L0, f0, h1, hst, hfull, hf0, hRR⟩
  have hh0 : T0.has i = false := by rw [h1.keys, ← h1.map.some_, hf0]; rfl
  have HQ := Lib.hid (And.intro hfull (And.intro hf0 (And.intro hh0 hRR)))
  clear hfull hf0 hh0 hRR
  clear c0 c1 c2
  obtain ⟨c0, c1, c2⟩ := h1.three
  go_wp2_with fail
  refine (Add_any i w1 h1.turn h1.good).mono ?_
  rintro e w2 ⟨rfl, M', hT2, hS2⟩
  have hmk := HM.out
  have c1' := hS2.cell c1 h1.gM
  have c2' := hS2.cell c2 h1.gM
  have hlt : C.g < w2.heap.size := Nat.lt_of_lt_of_le h1.row.lt hS2.size
  clear c0 c1 c2
  go_wp2_with fail
  go_region
  · have hr : ∀ W : World, Below w2.heap.size w2 (((w2.alloc (Obj.cells (madeCells #[Value.string noB] data) tStr)).alloc (Obj.cells (madeCells #[Value.string noB] data) tStr)).alloc (Obj.cells (Ent.cells ⟨w2.heap.size + 1 + 1, w2.heap.size, (w2.heap.size + 1), Set4.zero, Set4.zero, Set4.zero, List.replicate data noB, List.replicate data noB⟩ data).toArray tE)).drew := fun _ => ((((Below.refl _ _).alloc (Nat.le_refl _) _).alloc (by simp) _).alloc (by simp; omega) _).drew
    have hE : EntAt B data (((w2.alloc (Obj.cells (madeCells #[Value.string noB] data) tStr)).alloc (Obj.cells (madeCells #[Value.string noB] data) tStr)).alloc (Obj.cells (Ent.cells ⟨w2.heap.size + 1 + 1, w2.heap.size, (w2.heap.size + 1), Set4.zero, Set4.zero, Set4.zero, List.replicate data noB, List.replicate data noB⟩ data).toArray tE)).drew ⟨w2.heap.size + 1 + 1, w2.heap.size, (w2.heap.size + 1), Set4.zero, Set4.zero, Set4.zero, List.replicate data noB, List.replicate data noB⟩ := by
      have hB2 := Nat.le_trans h1.bg (Nat.le_trans (Nat.le_of_lt h1.row.lt) hS2.size)
      have ra : ((w2.alloc (Obj.cells (madeCells #[Value.string noB] data) tStr)).alloc (Obj.cells (madeCells #[Value.string noB] data) tStr)).row w2.heap.size ((List.replicate data noB).map Value.string) tStr := by rw [made_strs]; exact (World.row.new' rfl).alloc _
      have rb : ((w2.alloc (Obj.cells (madeCells #[Value.string noB] data) tStr)).alloc (Obj.cells (madeCells #[Value.string noB] data) tStr)).row (w2.heap.size + 1) ((List.replicate data noB).map Value.string) tStr := by rw [made_strs]; exact World.row.new' (by simp)
      exact ⟨World.row.new' (by simp), (by first | exact ra.alloc _ | exact rb.alloc _), (by first | exact rb.alloc _ | exact ra.alloc _), by show w2.heap.size + 1 + 1 ≠ w2.heap.size; omega, by show w2.heap.size + 1 + 1 ≠ (w2.heap.size + 1); omega, by show w2.heap.size ≠ (w2.heap.size + 1); omega, by show B ≤ w2.heap.size + 1 + 1; omega, by show B ≤ w2.heap.size; omega, by show B ≤ (w2.heap.size + 1); omega, by simp, by simp, (fun i hi => by rw [Set4.has_zero] at hi; cases hi), (fun i hi => by rw [Set4.has_zero] at hi; cases hi)⟩
    have hnew : ∀ x, Ent.foot ⟨w2.heap.size + 1 + 1, w2.heap.size, (w2.heap.size + 1), Set4.zero, Set4.zero, Set4.zero, List.replicate data noB, List.replicate data noB⟩ x → w2.heap.size ≤ x := fun x hx => by
      rcases hx with e | e | e
      · have e : x = w2.heap.size + 1 + 1 := e; omega
      · have e : x = w2.heap.size := e; omega
      · have e : x = (w2.heap.size + 1) := e; omega
    go_upto_region 16 with fail
    refine wp_world (fun w3 => EntAt B data w3 ⟨w2.heap.size + 1 + 1, w2.heap.size, (w2.heap.size + 1), Set4.zero, Set4.zero, Set4.zero, List.replicate data noB, List.replicate data noB⟩ ∧ Below w2.heap.size w2 w3) ⟨hE, hr w2⟩ ?_
    clear hE hr c1'
    rintro w3 ⟨hE, hr⟩
    obtain ⟨E0, hE0⟩ : ∃ E0 : Ent, E0 = ⟨w2.heap.size + 1 + 1, w2.heap.size, (w2.heap.size + 1), Set4.zero, Set4.zero, Set4.zero, List.replicate data noB, List.replicate data noB⟩ := ⟨_, rfl⟩
    have hg0 : w2.heap.size + 1 + 1 = E0.g := by rw [hE0]
    rw [← hE0] at hE hnew
    rw [hg0]
    have HZ : Hid (E0.nt = Set4.zero ∧ E0.ot = Set4.zero ∧ E0.dt = Set4.zero ∧ E0.nb = List.replicate data noB ∧ E0.ob = List.replicate data noB) := Lib.hid (by rw [hE0]; exact ⟨rfl, rfl, rfl, rfl, rfl⟩)
    clear hg0 hE0
    have q2 := ((hS2.row h1.row h1.gM).below hr hlt).cell 2 rfl
    have hmp := (h1.map.same (hS2.block _ h1.map.lt h1.mM)).same (hr.block _ (Nat.lt_of_lt_of_le h1.map.lt hS2.size))
    have HE := Lib.hid (And.intro hr (And.intro hE (And.intro hnew (And.intro hS2 (And.intro hT2 (And.intro hst h1))))))
    clear hE hr hnew hS2 hT2 hst h1 c2' hmk
    go_wp2_with (at_mapUpdate; refine wpList_mapUpdate_pm rfl _ _ _ 54 rfl Tryd.underlying3 Tryd.underlying54 rfl hmp hnn i rfl HR.out.2.1 E0.g rfl ?_; intro w4 hm4 hg4)
    go_ret2
    obtain ⟨hr, hE, hnew, hS2, hT2, hst, h1⟩ := HE.out
    obtain ⟨A1, A2⟩ := h1.added hS2 hT2 (h1.good.add i HR.out.2.1) (fun k => by rw [add_has HQ.out.1 HQ.out.2.2.1, h1.keys, addTo_has]) hr hE hnew hm4 hg4 HQ.out.2.1
    exact ⟨_, E0, rfl, T0, L0, f0, A1, hst.trans A2, HQ.out, HZ.out⟩
  · have hr : ∀ W : World, Below w2.heap.size w2 (((w2.alloc (Obj.cells (madeCells #[Value.string noB] data) tStr)).alloc (Obj.cells (madeCells #[Value.string noB] data) tStr)).alloc (Obj.cells (Ent.cells ⟨w2.heap.size + 1 + 1, (w2.heap.size + 1), w2.heap.size, Set4.zero, Set4.zero, Set4.zero, List.replicate data noB, List.replicate data noB⟩ data).toArray tE)).drew := fun _ => ((((Below.refl _ _).alloc (Nat.le_refl _) _).alloc (by simp) _).alloc (by simp; omega) _).drew
    have hE : EntAt B data (((w2.alloc (Obj.cells (madeCells #[Value.string noB] data) tStr)).alloc (Obj.cells (madeCells #[Value.string noB] data) tStr)).alloc (Obj.cells (Ent.cells ⟨w2.heap.size + 1 + 1, (w2.heap.size + 1), w2.heap.size, Set4.zero, Set4.zero, Set4.zero, List.replicate data noB, List.replicate data noB⟩ data).toArray tE)).drew ⟨w2.heap.size + 1 + 1, (w2.heap.size + 1), w2.heap.size, Set4.zero, Set4.zero, Set4.zero, List.replicate data noB, List.replicate data noB⟩ := by
      have hB2 := Nat.le_trans h1.bg (Nat.le_trans (Nat.le_of_lt h1.row.lt) hS2.size)
      have ra : ((w2.alloc (Obj.cells (madeCells #[Value.string noB] data) tStr)).alloc (Obj.cells (madeCells #[Value.string noB] data) tStr)).row w2.heap.size ((List.replicate data noB).map Value.string) tStr := by rw [made_strs]; exact (World.row.new' rfl).alloc _
      have rb : ((w2.alloc (Obj.cells (madeCells #[Value.string noB] data) tStr)).alloc (Obj.cells (madeCells #[Value.string noB] data) tStr)).row (w2.heap.size + 1) ((List.replicate data noB).map Value.string) tStr := by rw [made_strs]; exact World.row.new' (by simp)
      exact ⟨World.row.new' (by simp), (by first | exact ra.alloc _ | exact rb.alloc _), (by first | exact rb.alloc _ | exact ra.alloc _), by show w2.heap.size + 1 + 1 ≠ (w2.heap.size + 1); omega, by show w2.heap.size + 1 + 1 ≠ w2.heap.size; omega, by show (w2.heap.size + 1) ≠ w2.heap.size; omega, by show B ≤ w2.heap.size + 1 + 1; omega, by show B ≤ (w2.heap.size + 1); omega, by show B ≤ w2.heap.size; omega, by simp, by simp, (fun i hi => by rw [Set4.has_zero] at hi; cases hi), (fun i hi => by rw [Set4.has_zero] at hi; cases hi)⟩
    have hnew : ∀ x, Ent.foot ⟨w2.heap.size + 1 + 1, (w2.heap.size + 1), w2.heap.size, Set4.zero, Set4.zero, Set4.zero, List.replicate data noB, List.replicate data noB⟩ x → w2.heap.size ≤ x := fun x hx => by
      rcases hx with e | e | e
      · have e : x = w2.heap.size + 1 + 1 := e; omega
      · have e : x = (w2.heap.size + 1) := e; omega
      · have e : x = w2.heap.size := e; omega
    go_upto_region 16 with fail
    refine wp_world (fun w3 => EntAt B data w3 ⟨w2.heap.size + 1 + 1, (w2.heap.size + 1), w2.heap.size, Set4.zero, Set4.zero, Set4.zero, List.replicate data noB, List.replicate data noB⟩ ∧ Below w2.heap.size w2 w3) ⟨hE, hr w2⟩ ?_
    clear hE hr c1'
    rintro w3 ⟨hE, hr⟩
    obtain ⟨E0, hE0⟩ : ∃ E0 : Ent, E0 = ⟨w2.heap.size + 1 + 1, (w2.heap.size + 1), w2.heap.size, Set4.zero, Set4.zero, Set4.zero, List.replicate data noB, List.replicate data noB⟩ := ⟨_, rfl⟩
    have hg0 : w2.heap.size + 1 + 1 = E0.g := by rw [hE0]
    rw [← hE0] at hE hnew
    rw [hg0]
    have HZ : Hid (E0.nt = Set4.zero ∧ E0.ot = Set4.zero ∧ E0.dt = Set4.zero ∧ E0.nb = List.replicate data noB ∧ E0.ob = List.replicate data noB) := Lib.hid (by rw [hE0]; exact ⟨rfl, rfl, rfl, rfl, rfl⟩)
    clear hg0 hE0
    have q2 := ((hS2.row h1.row h1.gM).below hr hlt).cell 2 rfl
    have hmp := (h1.map.same (hS2.block _ h1.map.lt h1.mM)).same (hr.block _ (Nat.lt_of_lt_of_le h1.map.lt hS2.size))
    have HE := Lib.hid (And.intro hr (And.intro hE (And.intro hnew (And.intro hS2 (And.intro hT2 (And.intro hst h1))))))
    clear hE hr hnew hS2 hT2 hst h1 c2' hmk
    go_wp2_with (at_mapUpdate; refine wpList_mapUpdate_pm rfl _ _ _ 54 rfl Tryd.underlying3 Tryd.underlying54 rfl hmp hnn i rfl HR.out.2.1 E0.g rfl ?_; intro w4 hm4 hg4)
    go_ret2
    obtain ⟨hr, hE, hnew, hS2, hT2, hst, h1⟩ := HE.out
    obtain ⟨A1, A2⟩ := h1.added hS2 hT2 (h1.good.add i HR.out.2.1) (fun k => by rw [add_has HQ.out.1 HQ.out.2.2.1, h1.keys, addTo_has]) hr hE hnew hm4 hg4 HQ.out.2.1
    exact ⟨_, E0, rfl, T0, L0, f0, A1, hst.trans A2, HQ.out, HZ.out⟩
end Go.Proofs.YtijagdpkclghnaaDoor
/- open of any cache: contracts. -/
namespace Go.Proofs.YtijagdpkclghnaaDoor
open Go Go.RowKit
set_option maxRecDepth 100000
variable {B n data : Nat} {w w' : World} {C C' : CM} {T T' T0 : TS} {L L' : List Int} {f f' f0 : Int → Option Ent} {E : Ent} {i v : Int}
/-- Where a place is made: of a turn and stripes, what they are then. -/
def RoomOf (T : TS) (f : Int → Option Ent) (T0 : TS) (f0 : Int → Option Ent) : Prop := (T.full = false ∧ T0 = T ∧ f0 = f) ∨ (T.full = true ∧ ∃ v, T.victim = some v ∧ T0 = T.dropT v ∧ f0 = upd f v none)
theorem drop_full (hg : Good T) (hv : T.has v = true) : (T.dropT v).full = false := by
  have hl := hg.len
  have hm := (has_iff T v).1 hv
  unfold TS.full TS.dropT
  show decide (T.most ≤ (T.plain.erase v).length + (T.dear.erase v).length) = false
  have l1 : (T.plain.erase v).length ≤ T.plain.length := List.length_erase_le
  have l2 : (T.dear.erase v).length ≤ T.dear.length := List.length_erase_le
  rcases List.mem_append.1 hm with h | h
  · have := erase_len h
    simp; omega
  · have := erase_len h
    simp; omega
/-- Behind an open: the stripe is there, as it was, or new, where there was a place or one was made. -/
structure OpenedG (B n data : Nat) (w : World) (C : CM) (T : TS) (f : Int → Option Ent) (i : Int) (w' : World) (C' : CM) (E : Ent) (T' : TS) (L' : List Int) (f' : Int → Option Ent) : Prop where
  at_ : CacheAt B (n + 1) data w' C' T' L' f'
  here : f' i = some E
  step : CStep C f C' f' w w'
  how : (f i = some E ∧ f' = f ∧ T' = T.touchT i) ∨ (f i = none ∧ ∃ T0 f0, RoomOf T f T0 f0 ∧ T0.has i = false ∧ T0.full = false ∧ f0 i = none ∧ T' = T0.addT i ∧ f' = upd f0 i (some E) ∧ E.nt = Set4.zero ∧ E.ot = Set4.zero ∧ E.dt = Set4.zero ∧ E.nb = List.replicate data noB ∧ E.ob = List.replicate data noB)
/-- Is there a place for stripe i, or can one be made? -/
def canOpen (T : TS) (f : Int → Option Ent) (i : Int) : Bool := (f i).isSome || (!T.full || T.victim.isSome)
theorem openG_yes (i : Int) (c : Nat) (s : ByteArray) (w : World) (h : CacheAt B n data w C T L f) (hi : 0 ≤ i) (hi2 : i < 64) (hc : c < data) (hs : s.size = 64) (hr : canOpen T f i = true) (hnn : n < 100000) :
    Calls Tryd.prog 26 #[pt C.g, .int .i64 i, .int .i64 (c : Int), .string s] w fun e w' => ∃ (C' : CM) (E : Ent) (T' : TS) (L' : List Int) (f' : Int → Option Ent), e = .returned (.tuple #[pt E.g, .int .i64 0]) ∧ OpenedG B n data w C T f i w' C' E T' L' f' := by
  cases hf : f i with
  | some E =>
    refine (open_here i c s w h hi hi2 hc hs hf).mono ?_
    rintro e w' ⟨M', rfl, A1, A2⟩
    exact ⟨_, E, _, _, _, rfl, A1.mono (by omega), hf, A2, .inl ⟨hf, rfl, rfl⟩⟩
  | none =>
    have key : Calls Tryd.prog 50 #[pt C.g] w fun e w' => e = .returned (.int .i64 0) ∧ ∃ (M0 : TM) (T0 : TS) (L0 : List Int) (f0 : Int → Option Ent), CacheAt B n data w' { C with M := M0 } T0 L0 f0 ∧ CStep C f { C with M := M0 } f0 w w' ∧ T0.full = false ∧ f0 i = none ∧ RoomOf T f T0 f0 := by
      cases hfull : T.full with
      | false =>
        refine (place_no w h hfull).mono ?_
        rintro e w' ⟨rfl, b⟩
        exact ⟨rfl, C.M, T, L, f, h.below b, CStep.of_below C f b, hfull, hf, .inl ⟨hfull, rfl, rfl⟩⟩
      | true =>
        unfold canOpen at hr
        rw [hf, hfull] at hr
        cases hv : T.victim with
        | none => rw [hv] at hr; simp at hr
        | some v =>
          refine (place_some w h hfull hv).mono ?_
          rintro e w' ⟨rfl, M', A1, A2⟩
          refine ⟨rfl, M', _, _, _, A1, A2, drop_full h.good (victim_in hv).1, ?_, .inr ⟨hfull, v, hv, rfl, rfl⟩⟩
          by_cases e : i = v
          · rw [e, upd_same]
          · rw [upd_other f _ e]; exact hf
    refine (open_by i c s w h hi hi2 hc hs hf hnn _ key).mono ?_
    rintro e w' ⟨C', E, rfl, T0, L0, f0, A1, A2, ⟨p1, p2, p3, p4⟩, z⟩
    exact ⟨C', E, _, _, _, rfl, A1, upd_same _ _ _, A2, .inr ⟨hf, T0, f0, p4, p3, p1, p2, rfl, rfl, z⟩⟩
set_option maxHeartbeats 1000000 in
theorem openG_no (i : Int) (c : Nat) (s : ByteArray) (w : World) (h : CacheAt B n data w C T L f) (hi : 0 ≤ i) (hi2 : i < 64) (hc : c < data) (hs : s.size = 64) (hr : canOpen T f i = false) :
    Calls Tryd.prog 26 #[pt C.g, .int .i64 i, .int .i64 (c : Int), .string s] w fun e w' => e = .returned (.tuple #[.pointer none, .int .i64 10]) ∧ Below w.heap.size w w' := by
  unfold canOpen at hr
  obtain ⟨hf, hr2⟩ := Bool.or_eq_false_iff.1 hr
  obtain ⟨hfull, hv⟩ := Bool.or_eq_false_iff.1 hr2
  have hf : f i = none := by simpa using hf
  have hv : T.victim = none := by simpa using hv
  have hfull : T.full = true := by simpa using hfull
  clear hr hr2
  obtain ⟨c0, c1, c2⟩ := h.three
  have hi64 : In64 i := ⟨by omega, by omega⟩
  have hcI : (c : Int) < (data : Int) := by omega
  have hsI : (s.size : Int) = 64 := by omega
  have hR := row_any i w h hi64
  rw [hf] at hR
  simp only [Option.map_none, ptrV] at hR
  have HR := Lib.hid (And.intro hR (place_none w h hfull hv))
  clear hR hi64 h hf hfull hv
  go_enter Tryd.func26, Tryd.ntmps26
  go_wp2_with fail
  refine HR.out.1.mono ?_
  rintro e w1 ⟨rfl, rfl⟩
  go_wp2_with fail
  refine Calls.pure_to HR.out.2 ?_
  intro w1 b1
  go_wp2_with fail
  go_ret2
  exact ⟨rfl, b1⟩
end Go.Proofs.YtijagdpkclghnaaDoor
/- Put, Fill of any cache: contracts. -/
namespace Go.Proofs.YtijagdpkclghnaaDoor
open Go Go.RowKit
set_option maxRecDepth 100000
variable {B n data : Nat} {w w' : World} {C C' : CM} {T T' : TS} {L L' : List Int} {f f' : Int → Option Ent} {E : Ent}
set_option maxHeartbeats 1000000 in
theorem Put_gen (i : Int) (c : Nat) (s : ByteArray) (w : World) (h : CacheAt B n data w C T L f) (hi : 0 ≤ i) (hi2 : i < 64) (hc : c < data) (hs : s.size = 64) (hr : canOpen T f i = true) (hnn : n < 90000) :
    Calls Tryd.prog 10 #[pt C.g, .int .i64 i, .int .i64 (c : Int), .string s] w fun e w' => e = .returned (.int .i64 0) ∧ ∃ (w1 : World) (C1 : CM) (E : Ent) (T1 : TS) (L1 : List Int) (f1 : Int → Option Ent) (C' : CM), OpenedG B n data w C T f i w1 C1 E T1 L1 f1 ∧ CacheAt B (n + 2) data w' C' (T1.pinT i true) L1 (upd f1 i (some (E.put c s))) ∧ CStep C f C' (upd f1 i (some (E.put c s))) w w' := by
  have hO := openG_yes i c s w h hi hi2 hc hs hr (by omega)
  have hc256 : c < 256 := by have := h.d30; omega
  have HO := Lib.hid hO
  have HC := Lib.hid (And.intro h (And.intro hi (And.intro hi2 (And.intro hc (And.intro hs hnn)))))
  clear hO h hi hi2 hs hr hnn
  go_enter Tryd.func10, Tryd.ntmps10
  go_wp2_with fail
  refine HO.out.mono ?_
  rintro e w1 ⟨C1, E, T1, L1, f1, rfl, hop⟩
  have HP := Lib.hid hop
  have hE1 := hop.at_.ent i E hop.here
  clear hop
  go_wp2_with fail
  refine (put_now c s w1 hE1 hc HP.out.at_.d30).mono ?_
  rintro e w2 ⟨rfl, hE2, hS2⟩
  have hA2 := HP.out.at_.entPut (E' := { E with nt := E.nt.with' c, nb := E.nb.set c s }) HP.out.here rfl rfl rfl hE2 hS2.os hS2.tape hS2.output hS2.size hS2.block
  have k0 := hE2.row.cell 10 rfl
  have k1 := hE2.row.cell 11 rfl
  have k2 := hE2.row.cell 12 rfl
  have k3 := hE2.row.cell 13 rfl
  have H2 := Lib.hid (And.intro hE2 hA2)
  clear hE1 hE2 hS2 hA2
  go_wp2_with fail
  refine Calls.pure_to (With_yes E.dt c w2 hc256) ?_
  intro w3 b3
  have hE3 := H2.out.1.below b3
  have hA3 := H2.out.2.1.below b3
  clear k0 k1 k2 k3
  have k0 := hE3.row.cell 10 rfl
  have k1 := hE3.row.cell 11 rfl
  have k2 := hE3.row.cell 12 rfl
  have k3 := hE3.row.cell 13 rfl
  have z0 := hE3.row.free
  have H3 := Lib.hid (And.intro hA3 b3)
  go_upto_region 6 with fail
  have hD := EntAt.dirty (t := E.dt.with' c) hE3
  refine wp_world (fun w4 => EntAt B data w4 { E with nt := E.nt.with' c, nb := E.nb.set c s, dt := E.dt.with' c } ∧ EStep E w3 w4) ⟨hD, EStep.dirty E w3 (E.dt.with' c)⟩ ?_
  clear hE3 hA3 b3 k0 k1 k2 k3 z0 hD
  rintro w4 ⟨hE4, hS4⟩
  replace hS4 := hS4.like (E' := { E with nt := E.nt.with' c, nb := E.nb.set c s }) rfl rfl rfl
  have hA4 := H3.out.1.entPut (E' := { E with nt := E.nt.with' c, nb := E.nb.set c s, dt := E.dt.with' c }) (upd_same f1 i (some { E with nt := E.nt.with' c, nb := E.nb.set c s })) rfl rfl rfl hE4 hS4.os hS4.tape hS4.output hS4.size hS4.block
  rw [upd_upd] at hA4
  obtain ⟨c0, c1, c2⟩ := hA4.1.three
  rw [HP.out.step.g] at c0 c1 c2
  have H4 := Lib.hid hA4
  clear hA4 hE4 hS4
  go_wp2_with fail
  refine (Pin_any i true w4 H4.out.1.turn (by have := HC.out.2.2.2.2.2; omega) ⟨by have := HC.out.2.1; omega, by have := HC.out.2.2.1; omega⟩).mono ?_
  rintro e w5 ⟨rfl, hT5, hS5⟩
  have H5 := Lib.hid (And.intro hT5 hS5)
  clear hT5 hS5 c0 c1 c2
  go_wp2_with fail
  go_returns
  obtain ⟨A1, A2⟩ := H4.out.1.turned H5.out.2 H5.out.1 (by omega) (H4.out.1.good.pin i true) (pin_has T1 i true)
  exact ⟨rfl, w1, C1, E, T1, L1, f1, _, HP.out, A1, HP.out.step.trans (H2.out.2.2.trans ((CStep.of_below _ _ H3.out.2).trans (H4.out.2.trans A2)))⟩
set_option maxHeartbeats 1000000 in
theorem Fill_gen (i : Int) (c : Nat) (s : ByteArray) (w : World) (h : CacheAt B n data w C T L f) (hi : 0 ≤ i) (hi2 : i < 64) (hc : c < data) (hs : s.size = 64) (hr : canOpen T f i = true) (hnn : n < 90000) :
    Calls Tryd.prog 11 #[pt C.g, .int .i64 i, .int .i64 (c : Int), .string s] w fun e w' => e = .returned (.int .i64 0) ∧ ∃ (w1 : World) (C1 : CM) (E : Ent) (T1 : TS) (L1 : List Int) (f1 : Int → Option Ent), OpenedG B n data w C T f i w1 C1 E T1 L1 f1 ∧ CacheAt B (n + 1) data w' C1 T1 L1 (upd f1 i (some (E.fill c s))) ∧ CStep C f C1 (upd f1 i (some (E.fill c s))) w w' := by
  have hO := openG_yes i c s w h hi hi2 hc hs hr (by omega)
  have hc256 : c < 256 := by have := h.d30; omega
  have HO := Lib.hid hO
  clear hO h hi hi2 hs hr hnn
  go_enter Tryd.func11, Tryd.ntmps11
  go_wp2_with fail
  refine HO.out.mono ?_
  rintro e w1 ⟨C1, E, T1, L1, f1, rfl, hop⟩
  have HP := Lib.hid hop
  have hE1 := hop.at_.ent i E hop.here
  clear hop
  go_wp2_with fail
  refine (put_old c s w1 hE1 hc HP.out.at_.d30).mono ?_
  rintro e w2 ⟨rfl, hE2, hS2⟩
  have hA2 := HP.out.at_.entPut (E' := { E with ot := E.ot.with' c, ob := E.ob.set c s }) HP.out.here rfl rfl rfl hE2 hS2.os hS2.tape hS2.output hS2.size hS2.block
  have k0 := hE2.row.cell 10 rfl
  have k1 := hE2.row.cell 11 rfl
  have k2 := hE2.row.cell 12 rfl
  have k3 := hE2.row.cell 13 rfl
  have H2 := Lib.hid (And.intro hE2 hA2)
  clear hE1 hE2 hS2 hA2
  have hH := Lib.hid (Has_yes E.dt c w2 hc256)
  cases e : E.dt.has c
  · rw [e] at hH
    go_wp2_with fail
    refine Calls.pure_to hH.out ?_
    intro w3 b3
    have hE3 := H2.out.1.below b3
    have hA3 := H2.out.2.1.below b3
    have H3 := Lib.hid (And.intro hA3 b3)
    clear k0 k1 k2 k3 hA3 b3
    go_wp2_with fail
    have hP := put_now c s w3 hE3 hc HP.out.at_.d30
    refine hP.mono ?_
    rintro e w4 ⟨rfl, hE4, hS4⟩
    have hA4 := H3.out.1.entPut (E' := { E with ot := E.ot.with' c, ob := E.ob.set c s, nt := E.nt.with' c, nb := E.nb.set c s }) (upd_same f1 i (some { E with ot := E.ot.with' c, ob := E.ob.set c s })) rfl rfl rfl hE4 hS4.os hS4.tape hS4.output hS4.size hS4.block
    rw [upd_upd] at hA4
    have H4 := Lib.hid hA4
    clear hA4 hE4 hS4 hE3 hP
    go_wp2_with fail
    go_returns
    have hfl : E.fill c s = { E with ot := E.ot.with' c, ob := E.ob.set c s, nt := E.nt.with' c, nb := E.nb.set c s } := by unfold Ent.fill; rw [e]; rfl
    rw [← hfl] at H4
    exact ⟨rfl, w1, C1, E, T1, L1, f1, HP.out, H4.out.1, HP.out.step.trans (H2.out.2.2.trans ((CStep.of_below _ _ H3.out.2).trans H4.out.2))⟩
  · rw [e] at hH
    go_wp2_with fail
    refine Calls.pure_to hH.out ?_
    intro w3 b3
    have hA3 := H2.out.2.1.below b3
    have H3 := Lib.hid (And.intro hA3 b3)
    clear k0 k1 k2 k3 hA3 b3
    go_wp2_with fail
    go_returns
    have hfl : E.fill c s = { E with ot := E.ot.with' c, ob := E.ob.set c s } := by unfold Ent.fill; rw [e]; rfl
    rw [← hfl] at H3
    have hS := H2.out.2.2
    rw [← hfl] at hS
    exact ⟨rfl, w1, C1, E, T1, L1, f1, HP.out, H3.out.1, HP.out.step.trans (hS.trans (CStep.of_below _ _ H3.out.2))⟩
theorem Put_no (i : Int) (c : Nat) (s : ByteArray) (w : World) (h : CacheAt B n data w C T L f) (hi : 0 ≤ i) (hi2 : i < 64) (hc : c < data) (hs : s.size = 64) (hr : canOpen T f i = false) :
    Calls Tryd.prog 10 #[pt C.g, .int .i64 i, .int .i64 (c : Int), .string s] w fun e w' => e = .returned (.int .i64 10) ∧ Below w.heap.size w w' := by
  have HO := Lib.hid (openG_no i c s w h hi hi2 hc hs hr)
  clear h hi hi2 hs hr
  go_enter Tryd.func10, Tryd.ntmps10
  go_wp2_with fail
  refine Calls.pure_to HO.out ?_
  intro w1 b1
  go_wp2_with fail
  go_returns
  exact ⟨rfl, b1⟩
theorem Fill_no (i : Int) (c : Nat) (s : ByteArray) (w : World) (h : CacheAt B n data w C T L f) (hi : 0 ≤ i) (hi2 : i < 64) (hc : c < data) (hs : s.size = 64) (hr : canOpen T f i = false) :
    Calls Tryd.prog 11 #[pt C.g, .int .i64 i, .int .i64 (c : Int), .string s] w fun e w' => e = .returned (.int .i64 10) ∧ Below w.heap.size w w' := by
  have HO := Lib.hid (openG_no i c s w h hi hi2 hc hs hr)
  clear h hi hi2 hs hr
  go_enter Tryd.func11, Tryd.ntmps11
  go_wp2_with fail
  refine Calls.pure_to HO.out ?_
  intro w1 b1
  go_wp2_with fail
  go_returns
  exact ⟨rfl, b1⟩
end Go.Proofs.YtijagdpkclghnaaDoor
/- The sorted keys of a map to pointers: contracts over the shelf's. -/
namespace Go.Proofs.YtijagdpkclghnaaDoor
open Go Go.RowKit Go.Maps Go.Sort Go.Shelf
set_option maxRecDepth 100000
shelf_lay_g SlLaysZI.n7 Ggz 7 at Tryd 39 as keysL
shelf_lay_g SlLaysZI.n6 Ggz 6 at Tryd 38 as sortedL
shelf_lay_g SlLaysM.n5 Slgm 5 at Tryd 59 as sortL
theorem sortsL (m : Nat) : AnyZI.SortsIn Tryd.prog sortedL_ren Fence.wide m :=
  ⟨fun blk off cap ss W hH hblk hsz => callsIn_wide.2 (AnyM.slices_Sort_int sortL blk off cap ss W hH hblk hsz),
   fun p cap W => callsIn_wide.2 (AnyM.slices_Sort_int_none sortL p cap W)⟩
theorem keys_any (mb : Option Nat) (w : World) : Calls Tryd.prog 39 #[.map mb] w fun e w' => e = .returned (.func (.func 60) #[] #[.pointer (some ⟨w.heap.size, 0, none⟩)]) ∧ w' = w.alloc (.cells #[.map mb] 54) :=
  callsIn_wide.1 (AnyZI.keys_in keysL Fence.wide 5 trivial rfl mb w)
theorem sorted_any {b n : Nat} {D : DataW Unit} (w : World) (hown : w.ownsMap Tryd.prog 3 ptrElem b n D) (hs : Maps.size D ≤ 100000) :
    Calls Tryd.prog 38 #[.func (.func 60) #[] #[.pointer (some ⟨w.heap.size, 0, none⟩)]] (w.alloc (.cells #[.map (some b)] 54)) fun e w' => ∃ (v : Value) (ss : List Int), e = .returned v ∧ ss.Perm (intKeys D) ∧
      w'.ownsRow (w.heap.size + 1) 3 1 v ss.length ((ss.mergeSort (fun x y => decide (x ≤ y))).map encZ) ∧ Below (w.heap.size + 1) (w.alloc (.cells #[.map (some b)] 54)) w' := by
  have hbl := hown.lt
  have hseq : SeqGives Fence.wide 2 Tryd.prog 60 #[.pointer (some ⟨w.heap.size, 0, none⟩)] encZ (fun ss => ss.Perm (intKeys D)) (Maps.size D) (w.alloc (.cells #[.map (some b)] 54)) :=
    AnyZI.keys_gives (ρ := keysL_ren) { keysL with } Fence.wide _ trivial rfl (by omega) w.heap.size b n D _ (by simp) (by simp) (by
      obtain ⟨es, clock, hb, Ft, hs, hD⟩ := hown
      exact ⟨es, clock, (Below.heap_alloc _ _ b hbl).trans hb, Ft, hs, hD⟩)
  have cS := AnyZI.sorted_in sortedL Fence.wide 5 trivial trivial trivial trivial rfl (by omega) (sortsL _) (enters_of Tryd.func59 (by kernel_rfl) rfl) 60 #[.pointer (some ⟨w.heap.size, 0, none⟩)] trivial (enters_of Tryd.func60 (by kernel_rfl) rfl) _ _ (by unfold maxLen; omega) (by omega) _ hseq
  refine (callsIn_wide.1 cS).mono ?_
  rintro e w' ⟨v, ss, rfl, h1, h2, _, h3⟩
  have e : (w.alloc (.cells #[.map (some b)] 54)).heap.size = w.heap.size + 1 := by simp
  rw [e] at h2 h3
  exact ⟨v, ss, rfl, h1, h2, h3⟩
/-- The keys of L, rising. -/
def rising (L : List Int) : List Int := L.mergeSort fun x y => decide (x ≤ y)
end Go.Proofs.YtijagdpkclghnaaDoor
/- Dirty, Len of a cache: contracts. -/
namespace Go
open Go.RowKit Go.Maps
theorem keys_pm {P : Program} {k : TypeId} {R : Value → Option (DataW Unit × List MemPlace)} {w : World} {b n : Nat} {D : DataW Unit} {L : List Int} {f : Int → Option Nat} (h : PM D L f) (hown : w.ownsMap P k R b n D) (K : Keyed P k) (hk : P.underlying k = some (.int .i64)) : L.Perm (intKeys D) := by
  obtain ⟨es, hD, hpw, _⟩ := hown.entries K
  obtain ⟨es', hD', hko⟩ := hown.keysOf
  obtain rfl : es = es' := by rw [hD] at hD'; simpa using hD'
  have hh := h.has
  subst hD
  exact perm_intKeys hpw (fun p hp => by obtain ⟨v, hv⟩ := hko p hp; obtain ⟨x, _, hx, _⟩ := Maps.keyOf_i64 hk hv; exact ⟨x, hx⟩) h.nodup (fun x => by rw [hh x]; simp)
end Go
namespace Go.Proofs.YtijagdpkclghnaaDoor
open Go Go.RowKit
set_option maxRecDepth 100000
variable {B n data : Nat} {w w' : World} {C C' : CM} {T T' : TS} {L L' : List Int} {f f' : Int → Option Ent} {E : Ent} {i v : Int}
theorem rising_perm (L : List Int) : (rising L).Perm L := List.mergeSort_perm _ _
theorem rising_len (L : List Int) : (rising L).length = L.length := (rising_perm L).length_eq
theorem sortedKeys {b n : Nat} {g : Int → Option Nat} (w : World) (h : w.pmap Tryd.prog tI b n L g) (hn : n ≤ 100000) :
    Calls Tryd.prog 38 #[.func (.func 60) #[] #[.pointer (some ⟨w.heap.size, 0, none⟩)]] (w.alloc (.cells #[.map (some b)] 54)) fun e w' => (∃ v : Value, e = .returned v ∧ w'.ownsRow (w.heap.size + 1) tI 1 v L.length ((rising L).map (Value.int .i64))) ∧ Below (w.heap.size + 1) (w.alloc (.cells #[.map (some b)] 54)) w' := by
  obtain ⟨D, hown, hP⟩ := h
  have hsz : Maps.size D ≤ 100000 := Nat.le_trans hown.size_le hn
  refine (sorted_any w hown hsz).mono ?_
  rintro e w' ⟨v, ss, rfl, h1, h2, h3⟩
  have hp : ss.Perm L := h1.trans (keys_pm hP hown (Maps.int_keyed Tryd.underlying3) Tryd.underlying3).symm
  have hl := hp.length_eq
  rw [mergeSort_of_perm_i hp, hl] at h2
  exact ⟨⟨v, rfl, h2⟩, h3⟩
theorem wpList_lookup_pms {P : Program} {w : World} {ops : Array Oper} {rest : List Oper} {o : Oper} {a : Act} {Q : Exit → Act → World → Prop} {k e : TypeId} {b n : Nat} {L : List Int} {f : Int → Option Nat} (hg : o.guard = none) (m x : Operand) (t : TypeId) (hop : o.op = Op.lookup t m x false) (hk : P.underlying k = some (.int .i64)) (ht : P.underlying t = some (.map k e)) (hz : ∀ w, (zeroValue e).run P w = .ok (.pointer none) w)
    (hm : a.eval m = .map (some b)) (h : w.pmap P k b n L f) (i : Int) (hx : a.eval x = .int .i64 i) (hi : In64 i) (r : Nat) (hr : f i = some r)
    (hK : wpList P ops Q rest (a.put o.dst (.pointer (some ⟨r, 0, none⟩))) w) : wpList P ops Q (o :: rest) a w := wpList_lookup_pm hg m x t hop hk ht hz hm h i hx hi (some r) hr hK
def dirtyOf (f : Int → Option Ent) (k : Int) : Bool := match f k with
  | none => false
  | some E => !E.dt.empty
theorem buildSlice_i (x : Int) (w : World) : (Instr.buildSlice 45 1 #[(0, .int .i64 x)]).run Tryd.prog w = .ok (.slice (some ⟨w.heap.size, 0, none⟩) 1 1) (w.alloc (.cells [Value.int .i64 x].toArray tI)) := by kernel_rfl
set_option maxHeartbeats 2000000 in
theorem Dirty_any (w : World) (h : CacheAt B n data w C T L f) (hn : n ≤ 90000) :
    Calls Tryd.prog 18 #[pt C.g] w fun e w' => (∃ v, e = .returned v ∧ w'.irow w.heap.size tI v ((rising L).filter (dirtyOf f))) ∧ Below w.heap.size w w' := by
  have hz : Hid (∀ w, (zeroValue 58).run Tryd.prog w = .ok (.pointer none) w) := Lib.hid fun w => by kernel_rfl
  obtain ⟨c0, c1, c2⟩ := h.three
  have HC := Lib.hid (And.intro h hn)
  clear h hn
  go_enter Tryd.func18, Tryd.ntmps18
  go_wp2_with fail
  refine (keys_any (some C.m) w).mono ?_
  rintro e w1 ⟨rfl, rfl⟩
  go_wp2_with fail
  refine (sortedKeys w HC.out.1.map (by have := HC.out.2; omega)).mono ?_
  rintro e w2 ⟨⟨vl, rfl, ho⟩, b2⟩
  have B2 : Below w.heap.size w w2 := ((Below.refl w.heap.size w).alloc (Nat.le_refl _) (.cells #[.map (some C.m)] 54)).trans (b2.mono (Nat.le_succ _))
  have h2 := HC.out.1.below B2
  obtain ⟨m, hm⟩ : ∃ m, m = L.length := ⟨_, rfl⟩
  have hm2 : m ≤ 90000 := by
    have := HC.out.1.map
    obtain ⟨D, hown, hP⟩ := this
    have h9 := hown.size_le
    rw [hP.size] at h9
    have := HC.out.2
    omega
  rw [← hm] at ho
  obtain ⟨a2, c2', hv⟩ : ∃ a c, vl = .slice a m c := by
    rcases own_form ho with ⟨h1, h3⟩ | ⟨g, cap, h1, _⟩
    · exact ⟨none, 0, by rw [h1, h3]⟩
    · exact ⟨_, _, h1⟩
  subst hv
  have H2 := Lib.hid (And.intro ho (And.intro B2 (And.intro h2 hm)))
  have O2 : w2.irow w2.heap.size tI (.slice none 0 0) [] := World.irow.nil _ _ _
  have HO := Lib.hid O2
  clear ho B2 b2 h2 hm c0 c1 c2 O2
  go_wp2_with fail
  go_loopw [15, 3] (fun j v wr => ∃ (k : Nat), k ≤ m ∧ j = .int .i64 k ∧ wr.irow w2.heap.size tI v (((rising L).take k).filter (dirtyOf f)) ∧ Below w2.heap.size w2 wr) (fun j _ _ => m - (intOf j).toNat)
  case atStart => exact ⟨0, Nat.zero_le _, rfl, HO.out, Below.refl _ _⟩
  case round =>
    obtain ⟨k, hk, rfl, hr, hB⟩ := hrel
    by_cases hlt : k < m
    · have hrl := rising_len L
      obtain ⟨x, hx⟩ : ∃ x, (rising L)[k]? = some x := ⟨_, List.getElem?_eq_getElem (by rw [hrl, ← H2.out.2.2.2]; exact hlt)⟩
      have hxL : x ∈ L := (rising_perm L).mem_iff.1 (List.mem_of_getElem? hx)
      have hx64 : In64 x := H2.out.2.2.1.good.in64 x ((has_iff T x).1 (by rw [H2.out.2.2.1.keys]; simpa using hxL))
      have hsome := H2.out.2.2.1.map.some_ x
      rw [show L.contains x = true by simpa using hxL] at hsome
      obtain ⟨E, hE⟩ : ∃ E, f x = some E := by
        cases e : f x with
        | none => rw [e] at hsome; simp at hsome
        | some E => exact ⟨E, rfl⟩
      have hnext : ((rising L).take (k + 1)).filter (dirtyOf f) = ((rising L).take k).filter (dirtyOf f) ++ (if E.dt.empty = true then [] else [x]) := by
        rw [List.take_add_one, hx, List.filter_append]
        congr 1
        show [x].filter (dirtyOf f) = _
        have : dirtyOf f x = !E.dt.empty := by unfold dirtyOf; rw [hE]
        cases hd : E.dt.empty
        · simp [List.filter, this, hd]
        · simp [List.filter, this, hd]
      rcases own_form H2.out.1 with ⟨_, h3⟩ | ⟨gl, cap, hv, hgl, hgs, h3, h4, hcell, _⟩
      · omega
      obtain ⟨e1, e2, e3⟩ := Value.slice.inj hv
      subst e1
      clear e2 e3 hv
      have ck := hcell k (.int .i64 x) (by rw [List.getElem?_map, hx]; rfl)
      have ck : wr.cell? ⟨gl, k, none⟩ = some (.int .i64 x) := (hB.cell (p := ⟨gl, k, none⟩) hgs).trans ck
      have hA := H2.out.2.2.1.below hB
      obtain ⟨c0, c1, c2⟩ := hA.three
      have hEn := hA.ent x E hE
      have k0 := hEn.row.cell 10 rfl
      have k1 := hEn.row.cell 11 rfl
      have k2 := hEn.row.cell 12 rfl
      have k3 := hEn.row.cell 13 rfl
      have hlen : (((rising L).take k).filter (dirtyOf f)).length ≤ 90000 := by
        have h5 := List.length_filter_le (dirtyOf f) ((rising L).take k)
        rw [List.length_take] at h5
        omega
      obtain ⟨av, nv, cv, rfl⟩ := own_shape hr
      have HX := Lib.hid (And.intro hr (And.intro hB (And.intro hnext (And.intro hlen (And.intro hE hx64)))))
      have hmp := hA.map
      have hf2 : (f x).map Ent.g = some E.g := by rw [hE]; rfl
      clear hr hB hnext hlen hE hcell hxL hsome hx hA hEn hx64
      go_wp2_with (at_lookup; refine wpList_lookup_pms rfl _ _ 54 rfl Tryd.underlying3 Tryd.underlying54 hz.out rfl hmp x rfl HX.out.2.2.2.2.2 _ hf2 ?_)
      refine Calls.pure_to (Empty_any E.dt wr) ?_
      intro w5 b5
      have H5 := Lib.hid (And.intro (irow_below HX.out.1 b5) (HX.out.2.1.trans (b5.mono HX.out.2.1.size)))
      clear b5 k0 k1 k2 k3 c0 c1 c2 ck hmp hf2
      obtain ⟨be, hbe⟩ : ∃ b, b = E.dt.empty := ⟨_, rfl⟩
      rw [← hbe]
      have HE := Lib.hid hbe
      clear hbe
      cases be
      · have hs5 := H5.out.2.size
        go_upto_region 8 with fail
        go_step
        with_reducible apply op_mv
        (case hw => rfl)
        simp only [Act.put, Act.eval, List.setIfInBounds_toArray, List.set_cons_zero, List.set_cons_succ]
        with_reducible apply op_mv
        (case hw => rfl)
        simp only [Act.put, Act.eval, List.setIfInBounds_toArray, List.set_cons_zero, List.set_cons_succ]
        with_reducible apply op_bs1
        (case hw => rfl)
        (case hx => rfl)
        (case hb => exact buildSlice_i x)
        simp only [Act.put, List.setIfInBounds_toArray, List.set_cons_zero, List.set_cons_succ]
        with_reducible apply op_append1
        (case hw => rfl)
        (case ht => exact Tryd.underlying45)
        (case hi => exact infoInt)
        (case hzs => rfl)
        (case hsz => decide)
        (case hown => exact World.ownsRow.alloc H5.out.1 _)
        (case hs => rfl)
        (case hx => rfl)
        (case hr => exact World.row.new' (cs := [Value.int .i64 x]) rfl)
        (case hl => rfl)
        (case h1 => intro u hu; rw [List.mem_singleton.1 hu]; rfl)
        (case h63 => have := HX.out.2.2.2.1; omega)
        (case hbb => decide)
        (case hbase => simp; omega)
        intro v' w9 ho hgr hloc
        simp only [Act.put, List.setIfInBounds_toArray, List.set_cons_zero, List.set_cons_succ]
        have B9 := below_own (H5.out.2.alloc (by omega) (.cells [Value.int .i64 x].toArray tI)) hgr (World.ownsRow.alloc H5.out.1 _) (Nat.le_refl _) (by simp; omega)
        have H9 := Lib.hid (And.intro (irow_snoc ho) B9)
        clear ho B9 hgr hloc
        go_wp2_with fail
        go_roundw
        case rel => exact ⟨k + 1, by omega, by go_num, by rw [HX.out.2.2.1, ← HE.out]; exact H9.out.1, H9.out.2⟩
        case measure => simp [intOf] <;> omega
      · go_wp2_with fail
        go_roundw
        case rel => exact ⟨k + 1, by omega, by go_num, by rw [HX.out.2.2.1, ← HE.out, if_pos rfl, List.append_nil]; exact H5.out.1, H5.out.2⟩
        case measure => simp [intOf] <;> omega
    · obtain rfl : k = m := by omega
      have hrl := rising_len L
      rw [H2.out.2.2.2, ← hrl, List.take_length] at hr
      have HB := Lib.hid (And.intro (irow_mono hr H2.out.2.1.size) (H2.out.2.1.trans (hB.mono H2.out.2.1.size)))
      clear hr hB hrl
      go_wp2_with fail
      go_returns
      exact ⟨⟨_, rfl, HB.out.1⟩, HB.out.2⟩
end Go.Proofs.YtijagdpkclghnaaDoor
/- Maps from pairs of integers to strings: laws of my own over the kit's. -/
namespace Go.Proofs.YtijagdpkclghnaaDoor
open Go Go.RowKit Go.Maps
set_option maxRecDepth 100000
abbrev tK : TypeId := 22
abbrev tM2 : TypeId := 38
abbrev kv (i j : Int) : Value := .agg #[.int .i64 i, .int .i64 j]
theorem pairLaid : laidOutB Tryd.prog = true := by kernel_rfl
theorem pairRow : tK < Tryd.prog.types.size := of_decide_eq_true (by kernel_rfl)
theorem pairWide : (match Tryd.prog.underlying tK with | some (.array _ _) | some (.struct _) => true | _ => false) = true := by rw [Tryd.underlying22]
theorem pairLaw : WideMaps.KeyLaw Tryd.prog tK := deep_law_laid pairLaid (m := 2) (by omega) pairRow (by kernel_rfl) pairWide
theorem pairKeyed : Keyed Tryd.prog tK := Keyed.of_law pairLaw
def kl (i j : Int) : Lit := .string (keyBytes [.int .i64 i, .int .i64 j])
theorem pairCells : Tryd.prog.cellsOf tK = 2 := by kernel_rfl
theorem intCells : Tryd.prog.cellsOf 3 = 1 := by kernel_rfl
theorem pairType : Tryd.prog.keyType tK = true := by kernel_rfl
theorem keyOf_pair (i j : Int) (hi : In64 i) (hj : In64 j) : keyOf Tryd.prog tK (kv i j) = some (kl i j) := by
  have hf : (kv i j).formed Tryd.prog tK = true := by simp [Value.formed, Tryd.underlying22, pairCells]
  have hlits : ∀ d, Tryd.prog.keyLits (d + 2) tK [.int .i64 i, .int .i64 j] = some [.int .i64 i, .int .i64 j] := fun d => by
    show Tryd.prog.keyLits ((d + 1) + 1) tK _ = _
    simp only [Program.keyLits, Tryd.underlying22, pairCells, intCells]
    simp [List.range_succ, Tryd.underlying3, wf_in64 hi, wf_in64 hj]
  unfold keyOf
  rw [Tryd.underlying22]
  simp only [pairType, hf, Bool.and_self, if_true]
  obtain ⟨d, hd⟩ : ∃ d, Tryd.prog.types.size + 1 = d + 2 := ⟨Tryd.prog.types.size - 1, by have h9 : 0 < Tryd.prog.types.size := Nat.lt_of_le_of_lt (Nat.zero_le _) pairRow; omega⟩
  rw [hd]
  show (Tryd.prog.keyLits (d + 2) tK [.int .i64 i, .int .i64 j]).map _ = _
  rw [hlits d]; rfl
theorem kl_ne {i j i' j' : Int} (hi : In64 i) (hj : In64 j) (hi' : In64 i') (hj' : In64 j') (h : ¬ (i' = i ∧ j' = j)) : kl i' j' ≠ kl i j := fun e => by
  have h1 := keyOf_pair i j hi hj
  have h2 := keyOf_pair i' j' hi' hj'
  rw [e] at h2
  have := pairKeyed.inj h2 h1
  simp at this
  exact h this
theorem kl_key (i j : Int) : WideAt.IsKeyLit (kl i j) := by trivial
/-- The datum D holds g, "" where there is none. -/
structure SM (D : DataW Unit) (g : Int → Int → ByteArray) : Prop where
  m : Maps.IsMap D
  at_ : ∀ i j, In64 i → In64 j → D.atKey (kl i j) (.lit (.string [])) = .lit (.string (g i j).data.toList)
def World.smap (w : World) (b n : Nat) (g : Int → Int → ByteArray) : Prop := ∃ D : DataW Unit, w.ownsMap Tryd.prog tK (plainElem Tryd.prog 9) b n D ∧ SM D g
variable {w w' : World} {b n : Nat} {g : Int → Int → ByteArray}
theorem World.smap.lt (h : World.smap w b n g) : b < w.heap.size := by obtain ⟨D, h1, _⟩ := h; exact h1.lt
theorem World.smap.same (h : World.smap w b n g) (hb : w'.heap[b]? = w.heap[b]?) : World.smap w' b n g := by
  obtain ⟨D, ⟨es, clock, h1, h2⟩, h3⟩ := h
  exact ⟨D, ⟨es, clock, hb.trans h1, h2⟩, h3⟩
theorem World.smap_made (w : World) : World.smap (w.alloc (.map #[] 0)) w.heap.size 0 (fun _ _ => { data := #[] }) := ⟨_, World.ownsMap_made _ _ _ _, Maps.isMap_empty, fun _ _ _ _ => rfl⟩
theorem bytes_ext {a b : ByteArray} (h : a.data.toList = b.data.toList) : a = b := by
  cases a; cases b; simp at h; rw [h]
theorem plainElem_string_inv {v : Value} {z : DataW Unit × List MemPlace} (h : plainElem Tryd.prog 9 v = some z) : ∃ s : ByteArray, v = .string s ∧ z = (.lit (.string s.data.toList), []) := by
  unfold plainElem at h
  rw [Tryd.underlying9] at h
  cases v <;> simp at h
  rename_i s
  exact ⟨s, rfl, h.2.symm⟩
section
variable {ops : Array Oper} {rest : List Oper} {o : Oper} {a : Act} {Q : Exit → Act → World → Prop}
theorem wpList_lookup_sm (hw : Region.wanted o (yielded ops a.tmps) = true) (m x : Operand) (hop : o.op = Op.lookup tM2 m x false) (hm : a.eval m = .map (some b)) (h : World.smap w b n g) (i j : Int) (hx : a.eval x = kv i j) (hi : In64 i) (hj : In64 j)
    (hK : wpList Tryd.prog ops Q rest (a.put o.dst (.string (g i j))) w) : wpList Tryd.prog ops Q (o :: rest) a w := by
  refine BigFrame.wpList_want hw fun K' hK' => ?_
  obtain ⟨D, hown, hB⟩ := h
  have hz : (zeroValue 9).run Tryd.prog w = .ok (.string { data := #[] }) w := by kernel_rfl
  obtain ⟨v, ps, hrun, hv⟩ := hown.lookup pairKeyed Tryd.underlying38 hz (plainElem_string Tryd.underlying9 (by decide)) (keyOf_pair i j hi hj)
  obtain ⟨s, rfl, hy⟩ := plainElem_string_inv hv
  have e1 := congrArg Prod.fst hy
  simp only at e1
  have e3 := hB.at_ i j hi hj
  have e4 : D.atKey (kl i j) (.lit (.string [])) = .lit (.string s.data.toList) := e1
  rw [e3] at e4
  have e2 : g i j = s := bytes_ext (by simpa using e4)
  subst e2
  unfold Oper.wp
  simp [execOp, hop, hm, hx, hrun, Result.andThen]
  exact hK' _ _ (by simpa using hK)
theorem wpList_mapUpdate_sm (hg : o.guard = none) (m x v : Operand) (hop : o.op = Op.mapUpdate tM2 m x v) (hm : a.eval m = .map (some b)) (h : World.smap w b n g) (hn : n < 100000) (i j : Int) (hx : a.eval x = kv i j) (hi : In64 i) (hj : In64 j) (s : ByteArray) (hv : a.eval v = .string s) (hs : s.size ≤ maxLen)
    (hK : ∀ w', World.smap w' b (n + 1) (fun i' j' => if i' = i ∧ j' = j then s else g i' j') → w.grownBy w' (some b) → wpList Tryd.prog ops Q rest (a.put o.dst undef) w') : wpList Tryd.prog ops Q (o :: rest) a w := by
  obtain ⟨D, hown, hB⟩ := h
  refine wpList_mapUpdate_own w hg m x v tM2 hop tK 9 pairKeyed Tryd.underlying38 _ b n D hm hown (by unfold maxLen; omega) _ _ _ hx hv (keyOf_pair i j hi hj) _ [] (plainElem_string Tryd.underlying9 hs) ?_
  intro w' h1 h2
  refine hK w' ⟨_, h1, hB.m.put _ _, fun i' j' hi' hj' => ?_⟩ h2
  show _ = DataW.lit (Lit.string (if i' = i ∧ j' = j then s else g i' j').data.toList)
  by_cases e : i' = i ∧ j' = j
  · obtain ⟨rfl, rfl⟩ := e
    rw [if_pos ⟨rfl, rfl⟩]
    exact Maps.atKey_put_same hB.m (kl_key i' j') _ _
  · rw [if_neg e, Maps.atKey_put_other (kl_ne hi hj hi' hj' e)]
    exact hB.at_ i' j' hi' hj'
end
end Go.Proofs.YtijagdpkclghnaaDoor
/- CacheClean's first part: a cache in which nothing is dirty, and what is on: plain laws, contracts. -/
namespace Go.Proofs.YtijagdpkclghnaaDoor
open Go Go.RowKit
set_option maxRecDepth 100000
variable {B n data : Nat} {w w' : World} {C C' : CM} {T T' T0 : TS} {L L' : List Int} {f f' f0 : Int → Option Ent} {E : Ent} {i t : Int} {c : Nat} {s : ByteArray} {on : Int → Int → ByteArray}
/-- What a stripe has is what is on. -/
def Has (on : Int → Int → ByteArray) (i : Int) (E : Ent) : Prop := ∀ c : Nat, E.nt.has c = true → atB E.nb c = on i (c : Int)
structure Clean (T : TS) (f : Int → Option Ent) (on : Int → Int → ByteArray) : Prop where
  dt : ∀ i E, f i = some E → E.dt = Set4.zero
  pins : T.pins = []
  on : ∀ i E, f i = some E → Has on i E
theorem touch_pins (T : TS) (k : Int) : (T.touchT k).pins = T.pins := by
  unfold TS.touchT
  split
  · unfold TS.fallT
    split
    · rfl
    · split <;> rfl
  · rfl
theorem add_pins (T : TS) (k : Int) : (T.addT k).pins = T.pins := by
  unfold TS.addT
  split
  · rfl
  · split <;> rfl
theorem Clean.room (h : Clean T f on) (hr : RoomOf T f T0 f0) : Clean T0 f0 on := by
  rcases hr with ⟨_, rfl, rfl⟩ | ⟨_, v, _, rfl, rfl⟩
  · exact h
  · have gone : ∀ j F, upd f v none j = some F → f j = some F := fun j F hF => by
      by_cases e : j = v
      · subst e; rw [upd_same] at hF; cases hF
      · rw [upd_other f _ e] at hF; exact hF
    exact ⟨fun j F hF => h.dt j F (gone j F hF), by show T.pins.erase v = []; rw [h.pins]; rfl, fun j F hF => h.on j F (gone j F hF)⟩
theorem Clean.opened {w1 : World} {C1 : CM} {T1 : TS} {L1 : List Int} {f1 : Int → Option Ent} (h : Clean T f on) (ho : OpenedG B n data w C T f t w1 C1 E T1 L1 f1) : Clean T1 f1 on := by
  rcases ho.how with ⟨_, rfl, rfl⟩ | ⟨_, T0, f0, hr, _, _, _, rfl, rfl, z1, z2, z3, _⟩
  · exact ⟨h.dt, by rw [touch_pins]; exact h.pins, h.on⟩
  · have h0 := h.room hr
    refine ⟨fun j F hF => ?_, by rw [add_pins]; exact h0.pins, fun j F hF => ?_⟩
    · by_cases e : j = t
      · subst e; rw [upd_same] at hF; cases hF; exact z3
      · rw [upd_other f0 _ e] at hF; exact h0.dt j F hF
    · by_cases e : j = t
      · subst e; rw [upd_same] at hF; cases hF
        intro c hc; rw [z1, Set4.has_zero] at hc; cases hc
      · rw [upd_other f0 _ e] at hF; exact h0.on j F hF
theorem Clean.canOpen (h : Clean T f on) (hg : Good T) (i : Int) : canOpen T f i = true := by
  unfold Go.Proofs.YtijagdpkclghnaaDoor.canOpen
  cases hf : T.full with
  | false => simp
  | true =>
    have hl : T.most ≤ T.plain.length + T.dear.length := by simpa [TS.full] using hf
    have hm := hg.m1
    have hv : T.victim.isSome = true := by
      unfold TS.victim
      cases hk : T.keys with
      | nil =>
        have : T.keys.length = T.plain.length + T.dear.length := by unfold TS.keys; exact List.length_append
        rw [hk] at this
        simp at this
        omega
      | cons x xs => rw [h.pins]; simp
    rw [hv]; simp
def onSet (on : Int → Int → ByteArray) (t c : Int) (s : ByteArray) : Int → Int → ByteArray := fun i j => if i = t ∧ j = c then s else on i j
theorem Has.put (h : Has on t E) (hc : c < 256) (hl : c < E.nb.length) {F : Ent} (h1 : F.nt = E.nt.with' c) (h2 : F.nb = E.nb.set c s) : Has (onSet on t c s) t F := by
  intro j hj
  rw [h1] at hj
  rw [h2]
  unfold onSet
  by_cases e : j = c
  · subst e; rw [if_pos ⟨rfl, rfl⟩]; exact atB_set hl s
  · rw [if_neg (by rintro ⟨_, e2⟩; exact e (by omega))]
    rcases Set4.with_has _ _ _ hj with e2 | hj
    · exact absurd e2 e
    · rw [← h j hj]
      unfold atB
      simp [List.getD, List.getElem?_set_ne (Ne.symm e)]
theorem Has.set (h : Has on i E) (hi : i ≠ t) : Has (onSet on t c s) i E := by
  intro j hj
  unfold onSet
  rw [if_neg (by rintro ⟨e, _⟩; exact hi e)]
  exact h j hj
theorem Clean.fill (h : Clean T f on) (hf : f t = some E) (hE : EntAt B data w E) (hc : c < data) (hd : data ≤ 30) : Clean T (upd f t (some (E.fill c s))) (onSet on t c s) := by
  have hdt : E.dt.has c = false := by rw [h.dt t E hf, Set4.has_zero]
  obtain ⟨p1, p2, p3, p4, p5⟩ := fill_no hdt s
  refine ⟨fun j F hF => ?_, h.pins, fun j F hF => ?_⟩
  · by_cases e : j = t
    · subst e; rw [upd_same] at hF; cases hF; rw [p3]; exact h.dt j E hf
    · rw [upd_other f _ e] at hF; exact h.dt j F hF
  · by_cases e : j = t
    · subst e; rw [upd_same] at hF; cases hF
      exact (h.on j E hf).put (by omega) (by rw [hE.l1]; exact hc) p1 p2
    · rw [upd_other f _ e] at hF; exact (h.on j F hF).set e
theorem Clean.done (h : Clean T f on) (hf : f t = some E) (hE : EntAt B data w E) (hc : c < data) (hd : data ≤ 30) (ht : T.has t = true) : Clean ((T.pinT t true).pinT t false) (upd f t (some (E.put c s).done)) (onSet on t c s) := by
  obtain ⟨p1, p2, p3, p4, p5⟩ := put_f E c s
  obtain ⟨q1, q2, q3, q4, q5⟩ := done_f (E.put c s)
  have hl := doneF_same (E.put c s) (E.put c s).nt.list
  refine ⟨fun j F hF => ?_, ?_, fun j F hF => ?_⟩
  · by_cases e : j = t
    · subst e; rw [upd_same] at hF; cases hF; exact q3
    · rw [upd_other f _ e] at hF; exact h.dt j F hF
  · have h1 : (T.pinT t true).pins = addTo T.pins t := by unfold TS.pinT; rw [if_pos ht]; rfl
    have h2 : ((T.pinT t true).pinT t false).pins = (T.pinT t true).pins.erase t := by
      have ht2 : (T.pinT t true).has t = true := by rw [pin_has]; exact ht
      rw [TS.pinT, if_pos ht2]; rfl
    rw [h2, h1, h.pins]
    unfold addTo
    simp
  · by_cases e : j = t
    · subst e; rw [upd_same] at hF; cases hF
      exact (h.on j E hf).put (by omega) (by rw [hE.l1]; exact hc) (by rw [q1, hl.nt, p1]) (by rw [q2, hl.nb, p2])
    · rw [upd_other f _ e] at hF; exact (h.on j F hF).set e
theorem Clean.drop (h : Clean T f on) (v : Int) : Clean (T.dropT v) (upd f v none) on := by
  have gone : ∀ j F, upd f v none j = some F → f j = some F := fun j F hF => by
    by_cases e : j = v
    · subst e; rw [upd_same] at hF; cases hF
    · rw [upd_other f _ e] at hF; exact hF
  exact ⟨fun j F hF => h.dt j F (gone j F hF), by show T.pins.erase v = []; rw [h.pins]; rfl, fun j F hF => h.on j F (gone j F hF)⟩
theorem Clean.touched (h : Clean T f on) (b : Bool) (v : Int) : Clean (if b = true then T.touchT v else T) f on := by
  split
  · exact ⟨h.dt, by rw [touch_pins]; exact h.pins, h.on⟩
  · exact h
theorem Clean.get (h : Clean T f on) : nowH f t c = true → nowB f t c = on t (c : Int) := by
  unfold nowH nowB
  cases hf : f t with
  | none => intro h2; cases h2
  | some E =>
    intro h2
    have h2 : E.nt.has c = true := h2
    show (if E.nt.has c = true then atB E.nb c else noB) = _
    rw [if_pos h2]
    exact h.on t E hf c h2
theorem open_most {w1 : World} {C1 : CM} {T1 : TS} {L1 : List Int} {f1 : Int → Option Ent} (ho : OpenedG B n data w C T f t w1 C1 E T1 L1 f1) : T1.most = T.most := by
  have h1 : ∀ (T : TS) k, (T.touchT k).most = T.most := fun T k => by
    unfold TS.touchT
    split
    · unfold TS.fallT
      split
      · rfl
      · split <;> rfl
    · rfl
  have h2 : ∀ (T : TS) k, (T.addT k).most = T.most := fun T k => by
    unfold TS.addT
    split
    · rfl
    · split <;> rfl
  rcases ho.how with ⟨_, rfl, rfl⟩ | ⟨_, T0, f0, hr, _, _, _, rfl, rfl, _⟩
  · exact h1 T t
  · rw [h2]
    rcases hr with ⟨_, rfl, rfl⟩ | ⟨_, v, _, rfl, rfl⟩
    · rfl
    · rfl
theorem pin_most (T : TS) (k : Int) (b : Bool) : (T.pinT k b).most = T.most := by unfold TS.pinT; split <;> rfl
end Go.Proofs.YtijagdpkclghnaaDoor
