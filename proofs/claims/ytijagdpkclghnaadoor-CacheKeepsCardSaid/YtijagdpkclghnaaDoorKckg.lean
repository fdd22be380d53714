/- Several texts in one: CActs CFull COpenB COpenG CPutG CPair CKeep CKeepR. -/
import Derived.Test.YtijagdpkclghnaaDoorKckf
import Derived.Test.YtijagdpkclghnaaDoorRows
import Derived.Test.YtijagdpkclghnaaDoorProg
import Derived.Maps.OwnOps
import Derived.DeepKeys4
import Derived.Maps.RangeWalk
/- The cache laws' acts among the arguments. -/
namespace Go.Proofs.YtijagdpkclghnaaDoor
open Go Go.ChangeShapes Go.WideShapes Go.ChangeAt Go.RowKit
set_option maxRecDepth 100000
def In5 (y : Ac) : Prop := In64 y.1 ∧ In64 y.2.1 ∧ In64 y.2.2.1 ∧ 0 ≤ y.2.2.2.1 ∧ y.2.2.2.1 < 256
theorem trod_act5 {H : Type} {enc : TypeId × Value → H} {P : Program} {W : World} {base : Nat} {sp : Nat → Bool} {held : Bool} {t : TypeId} {f0 f1 f2 f3 f4 : Field} {fuel : Nat} {cs : List Value} {x : DataW H × List MemPlace} (ht : P.underlying t = some (.struct #[f0, f1, f2, f3, f4])) (hct : P.cellsOf t = 5)
    (o0 : f0.offset = 0) (o1 : f1.offset = 1) (o2 : f2.offset = 2) (o3 : f3.offset = 3) (o4 : f4.offset = 4) (c0 : P.cellsOf f0.type = 1) (c1 : P.cellsOf f1.type = 1) (c2 : P.cellsOf f2.type = 1) (c3 : P.cellsOf f3.type = 1) (c4 : P.cellsOf f4.type = 1)
    (e0 : P.underlying f0.type = some (.int .i64)) (e1 : P.underlying f1.type = some (.int .i64)) (e2 : P.underlying f2.type = some (.int .i64)) (e3 : P.underlying f3.type = some (.int .u8)) (e4 : P.underlying f4.type = some .bool)
    (h : DataW.trod enc P W base sp held fuel t cs = some x) : ∃ y, cs = act5 y ∧ In5 y := by
  obtain ⟨xs, n, _, rfl, hl, hlen, hf⟩ := DataW.trod_struct ht h
  rw [hct] at hl
  match cs, hl, xs, hlen with
  | [v0, v1, v2, v3, v4], _, [y0, y1, y2, y3, y4], _ =>
    have g0 := hf 0 f0 rfl
    have g1 := hf 1 f1 rfl
    have g2 := hf 2 f2 rfl
    have g3 := hf 3 f3 rfl
    have g4 := hf 4 f4 rfl
    rw [o0, c0] at g0; rw [o1, c1] at g1; rw [o2, c2] at g2; rw [o3, c3] at g3; rw [o4, c4] at g4
    obtain ⟨z0, h0, _, w0⟩ := DataW.trod_int (x := y0) e0 (by simpa using g0)
    obtain ⟨z1, h1, _, w1⟩ := DataW.trod_int (x := y1) e1 (by simpa using g1)
    obtain ⟨z2, h2, _, w2⟩ := DataW.trod_int (x := y2) e2 (by simpa using g2)
    obtain ⟨z3, h3, _, w3⟩ := DataW.trod_int (x := y3) e3 (by simpa using g3)
    obtain ⟨z4, h4, _⟩ := DataW.trod_bool (x := y4) e4 (by simpa using g4)
    simp at h0 h1 h2 h3 h4
    subst h0; subst h1; subst h2; subst h3; subst h4
    have b3 := bounds_u8 w3
    exact ⟨(z0, z1, z2, z3, z4), rfl, in64_of w0, in64_of w1, in64_of w2, b3.1, by show z3 < 256; omega⟩
theorem rows_act5 : ∀ rs : List (List Value), (∀ r ∈ rs, ∃ y, r = act5 y ∧ In5 y) → ∃ l : List Ac, rs = l.map act5 ∧ ∀ x ∈ l, In5 x
  | [], _ => ⟨[], rfl, fun x hx => by cases hx⟩
  | r :: rs, h => by
    obtain ⟨y, rfl, hy⟩ := h r (by simp)
    obtain ⟨l, rfl, hl⟩ := rows_act5 rs fun r' hr' => h r' (by simp [hr'])
    refine ⟨y :: l, rfl, fun x hx => ?_⟩
    rcases List.mem_cons.1 hx with rfl | hx
    · exact hy
    · exact hl x hx
/-- A list of acts that came in. -/
theorem open_acts {H : Type} {enc : TypeId × Value → H} {W : World} {held : Bool} {a : Option Addr} {len cap : Nat} {d : DataW H} {p : List MemPlace}
    (h : DataW.Trod enc Tryd.prog W 0 (fun _ => true) held 23 (.slice a len cap) d p) :
    ∃ l : List Ac, l.length = len ∧ len ≤ cap ∧ (∀ x ∈ l, In5 x) ∧ (a = none → len = 0 ∧ cap = 0) ∧
      (l = [] ∨ ∃ b o, a = some ⟨b, o, none⟩ ∧ ∀ i x, l[i]? = some x → ∀ j u, (act5 x)[j]? = some u → W.cell? ⟨b, o + i * 5 + j, none⟩ = some u) := by
  obtain ⟨rs, h1, h2, _, h4, h5, h6⟩ := open_slice_rows (m := 5) (e := 30) (fun cs => ∃ y, cs = act5 y ∧ In5 y) Tryd.underlying23 (by kernel_rfl) (by decide)
    (fun n cs x hx => trod_act5 Tryd.underlying30 (by kernel_rfl) rfl rfl rfl rfl rfl (by kernel_rfl) (by kernel_rfl) (by kernel_rfl) (by kernel_rfl) (by kernel_rfl) Tryd.underlying3 Tryd.underlying3 Tryd.underlying3 Tryd.underlying5 Tryd.underlying4 hx) h
  obtain ⟨l, rfl, hl⟩ := rows_act5 rs h5
  refine ⟨l, by simpa using h1, h2, hl, h4, ?_⟩
  rcases h6 with h6 | ⟨b, o, ha, hc⟩
  · left; simpa using h6
  · right
    exact ⟨b, o, ha, fun i x hx j u hu => hc i (act5 x) (by rw [List.getElem?_map, hx]; rfl) j u hu⟩
/-- Two integers that came in. -/
theorem open_two {H : Type} {enc : TypeId × Value → H} {W : World} {base : Nat} {sp : Nat → Bool} {held : Bool} {v : Value} {d : DataW H} {p : List MemPlace} {r : Reach} {t e : TypeId} (ht : Tryd.prog.underlying t = some (.array 2 e)) (he : Tryd.prog.underlying e = some (.int .i64)) (hce : Tryd.prog.cellsOf e = 1) (hct : Tryd.prog.cellsOf t = 2)
    (hv : Value.okWide Tryd.prog W r base t v) (h : DataW.Trod enc Tryd.prog W 0 sp held t v d p) : ∃ a b : Int, v = .agg #[.int .i64 a, .int .i64 b] ∧ In64 a ∧ In64 b := by
  obtain ⟨zs, hl, rfl, hw⟩ := open_array_ints ht he hce hct hv h
  match zs, hl, hw with
  | [a, b], _, hw => exact ⟨a, b, rfl, in64_of (hw a (by simp)), in64_of (hw b (by simp))⟩
/-- Three integers that came in. -/
theorem open_three {H : Type} {enc : TypeId × Value → H} {W : World} {base : Nat} {sp : Nat → Bool} {held : Bool} {v : Value} {d : DataW H} {p : List MemPlace} {r : Reach} {t e : TypeId} (ht : Tryd.prog.underlying t = some (.array 3 e)) (he : Tryd.prog.underlying e = some (.int .i64)) (hce : Tryd.prog.cellsOf e = 1) (hct : Tryd.prog.cellsOf t = 3)
    (hv : Value.okWide Tryd.prog W r base t v) (h : DataW.Trod enc Tryd.prog W 0 sp held t v d p) : ∃ a b c : Int, v = .agg #[.int .i64 a, .int .i64 b, .int .i64 c] ∧ In64 a ∧ In64 b ∧ In64 c := by
  obtain ⟨zs, hl, rfl, hw⟩ := open_array_ints ht he hce hct hv h
  match zs, hl, hw with
  | [a, b, c], _, hw => exact ⟨a, b, c, rfl, in64_of (hw a (by simp)), in64_of (hw b (by simp)), in64_of (hw c (by simp))⟩
end Go.Proofs.YtijagdpkclghnaaDoor
/- place of a full cache; Drop: contracts. -/
namespace Go.Proofs.YtijagdpkclghnaaDoor
open Go Go.RowKit
set_option maxRecDepth 100000
variable {B n data : Nat} {w w' w1 w2 : World} {C C' : CM} {T T' : TS} {M' : TM} {L L' : List Int} {f f' : Int → Option Ent} {E : Ent} {v : Int}
theorem drop_has (hg : Good T) (v k : Int) : (T.dropT v).has k = (T.has k && !(v == k)) := by
  have h1 := (List.nodup_append.1 hg.nodup).1
  have h2 := (List.nodup_append.1 hg.nodup).2.1
  unfold TS.has TS.dropT
  show ((T.dear.erase v).contains k || (T.plain.erase v).contains k) = _
  rw [erase_has h1, erase_has h2]
  cases T.dear.contains k <;> cases T.plain.contains k <;> cases (v == k) <;> rfl
/-- A stripe isn't there any more. -/
theorem CacheAt.dropped (h : CacheAt B n data w C T L f) (hS : Step C.M M' w w1) (hT : TurnAt B n w1 M' (T.dropT v)) (hm : w2.pmap Tryd.prog tI C.m n (L.erase v) (fun y => if y = v then none else (f y).map Ent.g)) (hg : w1.grownBy w2 (some C.m)) :
    CacheAt B n data w2 { C with M := M' } (T.dropT v) (L.erase v) (upd f v none) ∧ CStep C f { C with M := M' } (upd f v none) w w2 := by
  have s1 := hS.size
  have s2 := hg.size
  have hout : ∀ x, x < w.heap.size → ¬ C.M.foot x → ¬ M'.foot x := fun x hx hn => Step.out hS hx hn
  have k02 : ∀ x, x < w.heap.size → ¬ C.M.foot x → x ≠ C.m → w2.heap[x]? = w.heap[x]? := fun x hx hn hne => (hg.block x (by omega) (fun e => hne (Option.some.inj e))).trans (hS.block x hx hn)
  have hmM : ¬ M'.foot C.m := hout _ h.map.lt h.mM
  have hmap : (fun j => (upd f v none j).map Ent.g) = fun y => if y = v then none else (f y).map Ent.g := by
    funext j
    by_cases e : j = v
    · subst e; rw [upd_same, if_pos rfl]; rfl
    · rw [upd_other f _ e, if_neg e]
  have gone : ∀ j F, upd f v none j = some F → j ≠ v ∧ f j = some F := fun j F hF => by
    by_cases e : j = v
    · subst e; rw [upd_same] at hF; cases hF
    · rw [upd_other f _ e] at hF; exact ⟨e, hF⟩
  refine ⟨⟨?_, turnKeep hT fun x hx => hg.block x (hT.lts x hx).2 fun e => hmM (Option.some.inj e ▸ hx), h.good.drop v, by rw [hmap]; exact hm, fun j F hF => ?_, fun j F j' F' hF hF' hne x hx => ?_, fun j F hF x hx => ?_, h.gm, hout _ h.row.lt h.gM, hmM, h.bg, h.bm, fun k => ?_, h.d2, h.d30⟩, ?_⟩
  · have := rowSame h.row (k02 _ h.row.lt h.gM h.gm)
    show w2.row C.g [.pointer (some ⟨M'.g, 0, none⟩), _, _] tC
    rw [hS.g]; exact this
  · have hF := (gone j F hF).2
    exact (h.ent j F hF).same fun x hx => k02 x ((h.ent j F hF).lts x hx).2 (h.off j F hF x hx).2.2 (h.off j F hF x hx).2.1
  · exact h.apart j F j' F' (gone j F hF).2 (gone j' F' hF').2 hne x hx
  · have hF := (gone j F hF).2
    have ho := h.off j F hF x hx
    exact ⟨ho.1, ho.2.1, hout x ((h.ent j F hF).lts x hx).2 ho.2.2⟩
  · rw [drop_has h.good, h.keys, erase_has h.map.nodup]
  · refine ⟨rfl, hg.os.trans hS.os, hg.tape.trans hS.tape, hg.output.trans hS.output, by omega, fun x hx => ?_, fun x hx hn => k02 x hx (fun hf2 => hn (.inr (.inr (.inl hf2)))) fun e => hn (.inr (.inl e))⟩
    rcases hx with hx | hx | hx | ⟨j, F, hF, hx⟩
    · exact .inl (.inl hx)
    · exact .inl (.inr (.inl hx))
    · rcases hS.foot x hx with h1 | h1
      · exact .inl (.inr (.inr (.inl h1)))
      · exact .inr h1
    · exact .inl (.inr (.inr (.inr ⟨j, F, (gone j F hF).2, hx⟩)))
theorem victim_in (hv : T.victim = some v) : T.has v = true ∧ T.pins.contains v = false := by
  unfold TS.victim at hv
  have h1 := List.mem_of_find?_eq_some hv
  have h2 := List.find?_some hv
  exact ⟨(has_iff T v).2 h1, by simpa using h2⟩
theorem place_none (w : World) (h : CacheAt B n data w C T L f) (hn : T.full = true) (hv : T.victim = none) :
    Calls Tryd.prog 50 #[pt C.g] w fun e w' => e = .returned (.int .i64 10) ∧ Below w.heap.size w w' := by
  obtain ⟨c0, c1, c2⟩ := h.three
  have hF := Full_any w h.turn h.good
  rw [show decide (T.most ≤ T.plain.length + T.dear.length) = T.full from rfl, hn] at hF
  have HF := Lib.hid (And.intro hF (And.intro h hv))
  clear hF h hv
  go_enter Tryd.func50, Tryd.ntmps50
  go_wp2_with fail
  refine Calls.pure_to HF.out.1 ?_
  intro w1 b1
  have h1 := HF.out.2.1.below b1
  clear c0 c1 c2
  obtain ⟨c0, c1, c2⟩ := h1.three
  have H1 := Lib.hid (And.intro h1 b1)
  clear h1 b1
  go_wp2_with fail
  have hV := Victim_any w1 H1.out.1.turn H1.out.1.good
  rw [HF.out.2.2] at hV
  refine Calls.pure_to hV ?_
  intro w2 b2
  have B2 := Lib.hid (H1.out.2.trans (b2.mono H1.out.2.size))
  clear hV b2 c0 c1 c2
  go_wp2_with fail
  go_returns
  exact ⟨rfl, B2.out⟩
theorem place_some (w : World) (h : CacheAt B n data w C T L f) (hn : T.full = true) (hv : T.victim = some v) :
    Calls Tryd.prog 50 #[pt C.g] w fun e w' => e = .returned (.int .i64 0) ∧ ∃ M', CacheAt B n data w' { C with M := M' } (T.dropT v) (L.erase v) (upd f v none) ∧ CStep C f { C with M := M' } (upd f v none) w w' := by
  obtain ⟨c0, c1, c2⟩ := h.three
  have hF := Full_any w h.turn h.good
  rw [show decide (T.most ≤ T.plain.length + T.dear.length) = T.full from rfl, hn] at hF
  have hv64 : In64 v := h.good.in64 v ((has_iff T v).1 (victim_in hv).1)
  have HF := Lib.hid (And.intro hF (And.intro h (And.intro hv hv64)))
  clear hF h hv hv64
  go_enter Tryd.func50, Tryd.ntmps50
  go_wp2_with fail
  refine Calls.pure_to HF.out.1 ?_
  intro w1 b1
  have h1 := HF.out.2.1.below b1
  clear c0 c1 c2
  obtain ⟨c0, c1, c2⟩ := h1.three
  have H1 := Lib.hid (And.intro h1 b1)
  clear h1 b1
  go_wp2_with fail
  have hV := Victim_any w1 H1.out.1.turn H1.out.1.good
  rw [HF.out.2.2.1] at hV
  refine Calls.pure_to hV ?_
  intro w2 b2
  have h2 := H1.out.1.below b2
  clear c0 c1 c2
  obtain ⟨c0, c1, c2⟩ := h2.three
  have H2 := Lib.hid (And.intro h2 (H1.out.2.trans (b2.mono H1.out.2.size)))
  clear hV b2 h2
  simp only [Option.getD_some, Option.isSome_some]
  go_wp2_with fail
  refine (Drop_any v w2 H2.out.1.turn H2.out.1.good HF.out.2.2.2).mono ?_
  rintro e w3 ⟨rfl, M', hT3, hS3⟩
  have q2 := hS3.cell c2 H2.out.1.gM
  have hmp := H2.out.1.map.same (hS3.block _ H2.out.1.map.lt H2.out.1.mM)
  have H3 := Lib.hid (And.intro hT3 hS3)
  clear hT3 hS3 c0 c1 c2
  go_wp2_with (at_delete; refine wpList_delete_pm rfl _ _ 54 rfl Tryd.underlying3 Tryd.underlying54 rfl hmp v rfl HF.out.2.2.2 ?_; intro w4 hm4 hg4)
  go_returns
  obtain ⟨A1, A2⟩ := H2.out.1.dropped H3.out.2 H3.out.1 hm4 hg4
  exact ⟨rfl, M', A1, (CStep.of_below C f H2.out.2).trans A2⟩
/-- Drop. -/
def canDrop (f : Int → Option Ent) (i : Int) : Bool := match f i with
  | none => false
  | some E => E.dt.empty
theorem Drop_yes (i : Int) (w : World) (h : CacheAt B n data w C T L f) (hi : In64 i) (hc : canDrop f i = true) :
    Calls Tryd.prog 15 #[pt C.g, .int .i64 i] w fun e w' => e = .returned (.bool true) ∧ ∃ M', CacheAt B n data w' { C with M := M' } (T.dropT i) (L.erase i) (upd f i none) ∧ CStep C f { C with M := M' } (upd f i none) w w' := by
  have hR := row_any i w h hi
  unfold canDrop at hc
  cases hf : f i with
  | none => rw [hf] at hc; cases hc
  | some E =>
    rw [hf] at hc hR
    simp only [Option.map_some, ptrV] at hR hc
    have hM := Empty_any E.dt w
    rw [hc] at hM
    have hE := h.ent i E hf
    have k0 := hE.row.cell 10 rfl
    have k1 := hE.row.cell 11 rfl
    have k2 := hE.row.cell 12 rfl
    have k3 := hE.row.cell 13 rfl
    have HR := Lib.hid (And.intro hR (And.intro hM (And.intro h hi)))
    clear hR hM hE h hi
    go_enter Tryd.func15, Tryd.ntmps15
    go_wp2_with fail
    refine HR.out.1.mono ?_
    rintro e w1 ⟨rfl, rfl⟩
    go_wp2_with fail
    refine Calls.pure_to HR.out.2.1 ?_
    intro w2 b2
    have h2 := HR.out.2.2.1.below b2
    obtain ⟨c0, c1, c2⟩ := h2.three
    have H2 := Lib.hid (And.intro h2 b2)
    clear h2 b2 k0 k1 k2 k3
    go_wp2_with fail
    refine (Drop_any i w2 H2.out.1.turn H2.out.1.good HR.out.2.2.2).mono ?_
    rintro e w3 ⟨rfl, M', hT3, hS3⟩
    have q2 := hS3.cell c2 H2.out.1.gM
    have hmp := H2.out.1.map.same (hS3.block _ H2.out.1.map.lt H2.out.1.mM)
    have H3 := Lib.hid (And.intro hT3 hS3)
    clear hT3 hS3 c0 c1 c2
    go_wp2_with (at_delete; refine wpList_delete_pm rfl _ _ 54 rfl Tryd.underlying3 Tryd.underlying54 rfl hmp i rfl HR.out.2.2.2 ?_; intro w4 hm4 hg4)
    go_returns
    obtain ⟨A1, A2⟩ := H2.out.1.dropped H3.out.2 H3.out.1 hm4 hg4
    exact ⟨rfl, M', A1, (CStep.of_below C f H2.out.2).trans A2⟩
theorem Drop_no (i : Int) (w : World) (h : CacheAt B n data w C T L f) (hi : In64 i) (hc : canDrop f i = false) :
    Calls Tryd.prog 15 #[pt C.g, .int .i64 i] w fun e w' => e = .returned (.bool false) ∧ Below w.heap.size w w' := by
  have hR := row_any i w h hi
  unfold canDrop at hc
  cases hf : f i with
  | none =>
    rw [hf] at hR
    simp only [Option.map_none, ptrV] at hR
    have HR := Lib.hid hR
    clear hR h hi
    go_enter Tryd.func15, Tryd.ntmps15
    go_wp2_with fail
    refine HR.out.mono ?_
    rintro e w1 ⟨rfl, rfl⟩
    go_wp2_with fail
    go_returns
    exact ⟨rfl, Below.refl _ _⟩
  | some E =>
    rw [hf] at hc hR
    simp only [Option.map_some, ptrV] at hR hc
    have hM := Empty_any E.dt w
    rw [hc] at hM
    have hE := h.ent i E hf
    have k0 := hE.row.cell 10 rfl
    have k1 := hE.row.cell 11 rfl
    have k2 := hE.row.cell 12 rfl
    have k3 := hE.row.cell 13 rfl
    have HR := Lib.hid (And.intro hR hM)
    clear hR hM hE h hi
    go_enter Tryd.func15, Tryd.ntmps15
    go_wp2_with fail
    refine HR.out.1.mono ?_
    rintro e w1 ⟨rfl, rfl⟩
    go_wp2_with fail
    refine Calls.pure_to HR.out.2 ?_
    intro w2 b2
    clear k0 k1 k2 k3
    go_wp2_with fail
    go_returns
    exact ⟨rfl, b2⟩
end Go.Proofs.YtijagdpkclghnaaDoor
/- open of a cache, whatever place says: contracts. -/
namespace Go.Proofs.YtijagdpkclghnaaDoor
open Go Go.RowKit
set_option maxRecDepth 100000
variable {B n data : Nat} {w w' : World} {C C' : CM} {T T' : TS} {L L' : List Int} {f f' : Int → Option Ent} {E : Ent}
set_option maxHeartbeats 4000000 in
theorem open_by (i : Int) (c : Nat) (s : ByteArray) (w : World) (h : CacheAt B n data w C T L f) (hi : 0 ≤ i) (hi2 : i < 64) (hc : c < data) (hs : s.size = 64) (hf : f i = none) (hnn : n < 100000) (R : TS → (Int → Option Ent) → Prop)
    (hpl : Calls Tryd.prog 50 #[pt C.g] w fun e w' => e = .returned (.int .i64 0) ∧ ∃ (M0 : TM) (T0 : TS) (L0 : List Int) (f0 : Int → Option Ent), CacheAt B n data w' { C with M := M0 } T0 L0 f0 ∧ CStep C f { C with M := M0 } f0 w w' ∧ T0.full = false ∧ f0 i = none ∧ R T0 f0) :
    Calls Tryd.prog 26 #[pt C.g, .int .i64 i, .int .i64 (c : Int), .string s] w fun e w' => ∃ (C' : CM) (E : Ent), e = .returned (.tuple #[pt E.g, .int .i64 0]) ∧ ∃ (T0 : TS) (L0 : List Int) (f0 : Int → Option Ent), CacheAt B (n + 1) data w' C' (T0.addT i) (addTo L0 i) (upd f0 i (some E)) ∧ CStep C f C' (upd f0 i (some E)) w w' ∧ (T0.full = false ∧ f0 i = none ∧ T0.has i = false ∧ R T0 f0) ∧
      E.nt = Set4.zero ∧ E.ot = Set4.zero ∧ E.dt = Set4.zero ∧ E.nb = List.replicate data noB ∧ E.ob = List.replicate data noB := by
  have hh : T.has i = false := by
    rw [h.keys, ← h.map.some_, hf]; rfl
  obtain ⟨c0, c1, c2⟩ := h.three
  have hi64 : In64 i := ⟨by omega, by omega⟩
  have hcI : (c : Int) < (data : Int) := by omega
  have hsI : (s.size : Int) = 64 := by omega
  have hR := row_any i w h hi64
  rw [hf] at hR
  simp only [Option.map_none, ptrV] at hR
  have HR := Lib.hid (And.intro hR (And.intro hi64 hh))
  have HC := Lib.hid h
  have HPL := Lib.hid hpl
  clear hpl
  have hmk := run_make_row' (P := Tryd.prog) 64 tStr (.string noB) 16 Tryd.underlying64 infoStr rfl .i64 .i64 data (by have := h.d30; omega) (by have := h.d30; omega)
  have HM := Lib.hid hmk
  clear hR hi64 hh hmk
  go_enter Tryd.func26, Tryd.ntmps26
  go_wp2_with fail
  refine HR.out.1.mono ?_
  rintro e w1 ⟨rfl, rfl⟩
  go_wp2_with fail
  refine HPL.out.mono ?_
  rintro e w1 ⟨rfl, M0, T0, L0, f0, h1, hst, hfull, hf0, hRR⟩
  have hh0 : T0.has i = false := by rw [h1.keys, ← h1.map.some_, hf0]; rfl
  have HQ := Lib.hid (And.intro hfull (And.intro hf0 (And.intro hh0 hRR)))
  clear hfull hf0 hh0 hRR
  clear c0 c1 c2
  obtain ⟨c0, c1, c2⟩ := h1.three
  go_wp2_with fail
  refine (Add_any i w1 h1.turn h1.good).mono ?_
  rintro e w2 ⟨rfl, M', hT2, hS2⟩
  have hmk := HM.out
  have c1' := hS2.cell c1 h1.gM
  have c2' := hS2.cell c2 h1.gM
  have hlt : C.g < w2.heap.size := Nat.lt_of_lt_of_le h1.row.lt hS2.size
  clear c0 c1 c2
  go_wp2_with fail
  go_region
  · have hr : ∀ W : World, Below w2.heap.size w2 (((w2.alloc (Obj.cells (madeCells #[Value.string noB] data) tStr)).alloc (Obj.cells (madeCells #[Value.string noB] data) tStr)).alloc (Obj.cells (Ent.cells ⟨w2.heap.size + 1 + 1, w2.heap.size, (w2.heap.size + 1), Set4.zero, Set4.zero, Set4.zero, List.replicate data noB, List.replicate data noB⟩ data).toArray tE)).drew := fun _ => ((((Below.refl _ _).alloc (Nat.le_refl _) _).alloc (by simp) _).alloc (by simp; omega) _).drew
    have hE : EntAt B data (((w2.alloc (Obj.cells (madeCells #[Value.string noB] data) tStr)).alloc (Obj.cells (madeCells #[Value.string noB] data) tStr)).alloc (Obj.cells (Ent.cells ⟨w2.heap.size + 1 + 1, w2.heap.size, (w2.heap.size + 1), Set4.zero, Set4.zero, Set4.zero, List.replicate data noB, List.replicate data noB⟩ data).toArray tE)).drew ⟨w2.heap.size + 1 + 1, w2.heap.size, (w2.heap.size + 1), Set4.zero, Set4.zero, Set4.zero, List.replicate data noB, List.replicate data noB⟩ := by
      have hB2 := Nat.le_trans h1.bg (Nat.le_trans (Nat.le_of_lt h1.row.lt) hS2.size)
      have ra : ((w2.alloc (Obj.cells (madeCells #[Value.string noB] data) tStr)).alloc (Obj.cells (madeCells #[Value.string noB] data) tStr)).row w2.heap.size ((List.replicate data noB).map Value.string) tStr := by rw [made_strs]; exact (World.row.new' rfl).alloc _
      have rb : ((w2.alloc (Obj.cells (madeCells #[Value.string noB] data) tStr)).alloc (Obj.cells (madeCells #[Value.string noB] data) tStr)).row (w2.heap.size + 1) ((List.replicate data noB).map Value.string) tStr := by rw [made_strs]; exact World.row.new' (by simp)
      exact ⟨World.row.new' (by simp), (by first | exact ra.alloc _ | exact rb.alloc _), (by first | exact rb.alloc _ | exact ra.alloc _), by show w2.heap.size + 1 + 1 ≠ w2.heap.size; omega, by show w2.heap.size + 1 + 1 ≠ (w2.heap.size + 1); omega, by show w2.heap.size ≠ (w2.heap.size + 1); omega, by show B ≤ w2.heap.size + 1 + 1; omega, by show B ≤ w2.heap.size; omega, by show B ≤ (w2.heap.size + 1); omega, by simp, by simp, (fun i hi => by rw [Set4.has_zero] at hi; cases hi), (fun i hi => by rw [Set4.has_zero] at hi; cases hi)⟩
    have hnew : ∀ x, Ent.foot ⟨w2.heap.size + 1 + 1, w2.heap.size, (w2.heap.size + 1), Set4.zero, Set4.zero, Set4.zero, List.replicate data noB, List.replicate data noB⟩ x → w2.heap.size ≤ x := fun x hx => by
      rcases hx with e | e | e
      · have e : x = w2.heap.size + 1 + 1 := e; omega
      · have e : x = w2.heap.size := e; omega
      · have e : x = (w2.heap.size + 1) := e; omega
    go_upto_region 16 with fail
    refine wp_world (fun w3 => EntAt B data w3 ⟨w2.heap.size + 1 + 1, w2.heap.size, (w2.heap.size + 1), Set4.zero, Set4.zero, Set4.zero, List.replicate data noB, List.replicate data noB⟩ ∧ Below w2.heap.size w2 w3) ⟨hE, hr w2⟩ ?_
    clear hE hr c1'
    rintro w3 ⟨hE, hr⟩
    obtain ⟨E0, hE0⟩ : ∃ E0 : Ent, E0 = ⟨w2.heap.size + 1 + 1, w2.heap.size, (w2.heap.size + 1), Set4.zero, Set4.zero, Set4.zero, List.replicate data noB, List.replicate data noB⟩ := ⟨_, rfl⟩
    have hg0 : w2.heap.size + 1 + 1 = E0.g := by rw [hE0]
    rw [← hE0] at hE hnew
    rw [hg0]
    have HZ : Hid (E0.nt = Set4.zero ∧ E0.ot = Set4.zero ∧ E0.dt = Set4.zero ∧ E0.nb = List.replicate data noB ∧ E0.ob = List.replicate data noB) := Lib.hid (by rw [hE0]; exact ⟨rfl, rfl, rfl, rfl, rfl⟩)
    clear hg0 hE0
    have q2 := ((hS2.row h1.row h1.gM).below hr hlt).cell 2 rfl
    have hmp := (h1.map.same (hS2.block _ h1.map.lt h1.mM)).same (hr.block _ (Nat.lt_of_lt_of_le h1.map.lt hS2.size))
    have HE := Lib.hid (And.intro hr (And.intro hE (And.intro hnew (And.intro hS2 (And.intro hT2 (And.intro hst h1))))))
    clear hE hr hnew hS2 hT2 hst h1 c2' hmk
    go_wp2_with (at_mapUpdate; refine wpList_mapUpdate_pm rfl _ _ _ 54 rfl Tryd.underlying3 Tryd.underlying54 rfl hmp hnn i rfl HR.out.2.1 E0.g rfl ?_; intro w4 hm4 hg4)
    go_ret2
    obtain ⟨hr, hE, hnew, hS2, hT2, hst, h1⟩ := HE.out
    obtain ⟨A1, A2⟩ := h1.added hS2 hT2 (h1.good.add i HR.out.2.1) (fun k => by rw [add_has HQ.out.1 HQ.out.2.2.1, h1.keys, addTo_has]) hr hE hnew hm4 hg4 HQ.out.2.1
    exact ⟨_, E0, rfl, T0, L0, f0, A1, hst.trans A2, HQ.out, HZ.out⟩
  · have hr : ∀ W : World, Below w2.heap.size w2 (((w2.alloc (Obj.cells (madeCells #[Value.string noB] data) tStr)).alloc (Obj.cells (madeCells #[Value.string noB] data) tStr)).alloc (Obj.cells (Ent.cells ⟨w2.heap.size + 1 + 1, (w2.heap.size + 1), w2.heap.size, Set4.zero, Set4.zero, Set4.zero, List.replicate data noB, List.replicate data noB⟩ data).toArray tE)).drew := fun _ => ((((Below.refl _ _).alloc (Nat.le_refl _) _).alloc (by simp) _).alloc (by simp; omega) _).drew
    have hE : EntAt B data (((w2.alloc (Obj.cells (madeCells #[Value.string noB] data) tStr)).alloc (Obj.cells (madeCells #[Value.string noB] data) tStr)).alloc (Obj.cells (Ent.cells ⟨w2.heap.size + 1 + 1, (w2.heap.size + 1), w2.heap.size, Set4.zero, Set4.zero, Set4.zero, List.replicate data noB, List.replicate data noB⟩ data).toArray tE)).drew ⟨w2.heap.size + 1 + 1, (w2.heap.size + 1), w2.heap.size, Set4.zero, Set4.zero, Set4.zero, List.replicate data noB, List.replicate data noB⟩ := by
      have hB2 := Nat.le_trans h1.bg (Nat.le_trans (Nat.le_of_lt h1.row.lt) hS2.size)
      have ra : ((w2.alloc (Obj.cells (madeCells #[Value.string noB] data) tStr)).alloc (Obj.cells (madeCells #[Value.string noB] data) tStr)).row w2.heap.size ((List.replicate data noB).map Value.string) tStr := by rw [made_strs]; exact (World.row.new' rfl).alloc _
      have rb : ((w2.alloc (Obj.cells (madeCells #[Value.string noB] data) tStr)).alloc (Obj.cells (madeCells #[Value.string noB] data) tStr)).row (w2.heap.size + 1) ((List.replicate data noB).map Value.string) tStr := by rw [made_strs]; exact World.row.new' (by simp)
      exact ⟨World.row.new' (by simp), (by first | exact ra.alloc _ | exact rb.alloc _), (by first | exact rb.alloc _ | exact ra.alloc _), by show w2.heap.size + 1 + 1 ≠ (w2.heap.size + 1); omega, by show w2.heap.size + 1 + 1 ≠ w2.heap.size; omega, by show (w2.heap.size + 1) ≠ w2.heap.size; omega, by show B ≤ w2.heap.size + 1 + 1; omega, by show B ≤ (w2.heap.size + 1); omega, by show B ≤ w2.heap.size; omega, by simp, by simp, (fun i hi => by rw [Set4.has_zero] at hi; cases hi), (fun i hi => by rw [Set4.has_zero] at hi; cases hi)⟩
    have hnew : ∀ x, Ent.foot ⟨w2.heap.size + 1 + 1, (w2.heap.size + 1), w2.heap.size, Set4.zero, Set4.zero, Set4.zero, List.replicate data noB, List.replicate data noB⟩ x → w2.heap.size ≤ x := fun x hx => by
      rcases hx with e | e | e
      · have e : x = w2.heap.size + 1 + 1 := e; omega
      · have e : x = (w2.heap.size + 1) := e; omega
      · have e : x = w2.heap.size := e; omega
    go_upto_region 16 with fail
    refine wp_world (fun w3 => EntAt B data w3 ⟨w2.heap.size + 1 + 1, (w2.heap.size + 1), w2.heap.size, Set4.zero, Set4.zero, Set4.zero, List.replicate data noB, List.replicate data noB⟩ ∧ Below w2.heap.size w2 w3) ⟨hE, hr w2⟩ ?_
    clear hE hr c1'
    rintro w3 ⟨hE, hr⟩
    obtain ⟨E0, hE0⟩ : ∃ E0 : Ent, E0 = ⟨w2.heap.size + 1 + 1, (w2.heap.size + 1), w2.heap.size, Set4.zero, Set4.zero, Set4.zero, List.replicate data noB, List.replicate data noB⟩ := ⟨_, rfl⟩
    have hg0 : w2.heap.size + 1 + 1 = E0.g := by rw [hE0]
    rw [← hE0] at hE hnew
    rw [hg0]
    have HZ : Hid (E0.nt = Set4.zero ∧ E0.ot = Set4.zero ∧ E0.dt = Set4.zero ∧ E0.nb = List.replicate data noB ∧ E0.ob = List.replicate data noB) := Lib.hid (by rw [hE0]; exact ⟨rfl, rfl, rfl, rfl, rfl⟩)
    clear hg0 hE0
    have q2 := ((hS2.row h1.row h1.gM).below hr hlt).cell 2 rfl
    have hmp := (h1.map.same (hS2.block _ h1.map.lt h1.mM)).same (hr.block _ (Nat.lt_of_lt_of_le h1.map.lt hS2.size))
    have HE := Lib.hid (And.intro hr (And.intro hE (And.intro hnew (And.intro hS2 (And.intro hT2 (And.intro hst h1))))))
    clear hE hr hnew hS2 hT2 hst h1 c2' hmk
    go_wp2_with (at_mapUpdate; refine wpList_mapUpdate_pm rfl _ _ _ 54 rfl Tryd.underlying3 Tryd.underlying54 rfl hmp hnn i rfl HR.out.2.1 E0.g rfl ?_; intro w4 hm4 hg4)
    go_ret2
    obtain ⟨hr, hE, hnew, hS2, hT2, hst, h1⟩ := HE.out
    obtain ⟨A1, A2⟩ := h1.added hS2 hT2 (h1.good.add i HR.out.2.1) (fun k => by rw [add_has HQ.out.1 HQ.out.2.2.1, h1.keys, addTo_has]) hr hE hnew hm4 hg4 HQ.out.2.1
    exact ⟨_, E0, rfl, T0, L0, f0, A1, hst.trans A2, HQ.out, HZ.out⟩
end Go.Proofs.YtijagdpkclghnaaDoor
/- open of any cache: contracts. -/
namespace Go.Proofs.YtijagdpkclghnaaDoor
open Go Go.RowKit
set_option maxRecDepth 100000
variable {B n data : Nat} {w w' : World} {C C' : CM} {T T' T0 : TS} {L L' : List Int} {f f' f0 : Int → Option Ent} {E : Ent} {i v : Int}
/-- Where a place is made: of a turn and stripes, what they are then. -/
def RoomOf (T : TS) (f : Int → Option Ent) (T0 : TS) (f0 : Int → Option Ent) : Prop := (T.full = false ∧ T0 = T ∧ f0 = f) ∨ (T.full = true ∧ ∃ v, T.victim = some v ∧ T0 = T.dropT v ∧ f0 = upd f v none)
theorem drop_full (hg : Good T) (hv : T.has v = true) : (T.dropT v).full = false := by
  have hl := hg.len
  have hm := (has_iff T v).1 hv
  unfold TS.full TS.dropT
  show decide (T.most ≤ (T.plain.erase v).length + (T.dear.erase v).length) = false
  have l1 : (T.plain.erase v).length ≤ T.plain.length := List.length_erase_le
  have l2 : (T.dear.erase v).length ≤ T.dear.length := List.length_erase_le
  rcases List.mem_append.1 hm with h | h
  · have := erase_len h
    simp; omega
  · have := erase_len h
    simp; omega
/-- Behind an open: the stripe is there, as it was, or new, where there was a place or one was made. -/
structure OpenedG (B n data : Nat) (w : World) (C : CM) (T : TS) (f : Int → Option Ent) (i : Int) (w' : World) (C' : CM) (E : Ent) (T' : TS) (L' : List Int) (f' : Int → Option Ent) : Prop where
  at_ : CacheAt B (n + 1) data w' C' T' L' f'
  here : f' i = some E
  step : CStep C f C' f' w w'
  how : (f i = some E ∧ f' = f ∧ T' = T.touchT i) ∨ (f i = none ∧ ∃ T0 f0, RoomOf T f T0 f0 ∧ T0.has i = false ∧ T0.full = false ∧ f0 i = none ∧ T' = T0.addT i ∧ f' = upd f0 i (some E) ∧ E.nt = Set4.zero ∧ E.ot = Set4.zero ∧ E.dt = Set4.zero ∧ E.nb = List.replicate data noB ∧ E.ob = List.replicate data noB)
/-- Is there a place for stripe i, or can one be made? -/
def canOpen (T : TS) (f : Int → Option Ent) (i : Int) : Bool := (f i).isSome || (!T.full || T.victim.isSome)
theorem openG_yes (i : Int) (c : Nat) (s : ByteArray) (w : World) (h : CacheAt B n data w C T L f) (hi : 0 ≤ i) (hi2 : i < 64) (hc : c < data) (hs : s.size = 64) (hr : canOpen T f i = true) (hnn : n < 100000) :
    Calls Tryd.prog 26 #[pt C.g, .int .i64 i, .int .i64 (c : Int), .string s] w fun e w' => ∃ (C' : CM) (E : Ent) (T' : TS) (L' : List Int) (f' : Int → Option Ent), e = .returned (.tuple #[pt E.g, .int .i64 0]) ∧ OpenedG B n data w C T f i w' C' E T' L' f' := by
  cases hf : f i with
  | some E =>
    refine (open_here i c s w h hi hi2 hc hs hf).mono ?_
    rintro e w' ⟨M', rfl, A1, A2⟩
    exact ⟨_, E, _, _, _, rfl, A1.mono (by omega), hf, A2, .inl ⟨hf, rfl, rfl⟩⟩
  | none =>
    have key : Calls Tryd.prog 50 #[pt C.g] w fun e w' => e = .returned (.int .i64 0) ∧ ∃ (M0 : TM) (T0 : TS) (L0 : List Int) (f0 : Int → Option Ent), CacheAt B n data w' { C with M := M0 } T0 L0 f0 ∧ CStep C f { C with M := M0 } f0 w w' ∧ T0.full = false ∧ f0 i = none ∧ RoomOf T f T0 f0 := by
      cases hfull : T.full with
      | false =>
        refine (place_no w h hfull).mono ?_
        rintro e w' ⟨rfl, b⟩
        exact ⟨rfl, C.M, T, L, f, h.below b, CStep.of_below C f b, hfull, hf, .inl ⟨hfull, rfl, rfl⟩⟩
      | true =>
        unfold canOpen at hr
        rw [hf, hfull] at hr
        cases hv : T.victim with
        | none => rw [hv] at hr; simp at hr
        | some v =>
          refine (place_some w h hfull hv).mono ?_
          rintro e w' ⟨rfl, M', A1, A2⟩
          refine ⟨rfl, M', _, _, _, A1, A2, drop_full h.good (victim_in hv).1, ?_, .inr ⟨hfull, v, hv, rfl, rfl⟩⟩
          by_cases e : i = v
          · rw [e, upd_same]
          · rw [upd_other f _ e]; exact hf
    refine (open_by i c s w h hi hi2 hc hs hf hnn _ key).mono ?_
    rintro e w' ⟨C', E, rfl, T0, L0, f0, A1, A2, ⟨p1, p2, p3, p4⟩, z⟩
    exact ⟨C', E, _, _, _, rfl, A1, upd_same _ _ _, A2, .inr ⟨hf, T0, f0, p4, p3, p1, p2, rfl, rfl, z⟩⟩
set_option maxHeartbeats 1000000 in
theorem openG_no (i : Int) (c : Nat) (s : ByteArray) (w : World) (h : CacheAt B n data w C T L f) (hi : 0 ≤ i) (hi2 : i < 64) (hc : c < data) (hs : s.size = 64) (hr : canOpen T f i = false) :
    Calls Tryd.prog 26 #[pt C.g, .int .i64 i, .int .i64 (c : Int), .string s] w fun e w' => e = .returned (.tuple #[.pointer none, .int .i64 10]) ∧ Below w.heap.size w w' := by
  unfold canOpen at hr
  obtain ⟨hf, hr2⟩ := Bool.or_eq_false_iff.1 hr
  obtain ⟨hfull, hv⟩ := Bool.or_eq_false_iff.1 hr2
  have hf : f i = none := by simpa using hf
  have hv : T.victim = none := by simpa using hv
  have hfull : T.full = true := by simpa using hfull
  clear hr hr2
  obtain ⟨c0, c1, c2⟩ := h.three
  have hi64 : In64 i := ⟨by omega, by omega⟩
  have hcI : (c : Int) < (data : Int) := by omega
  have hsI : (s.size : Int) = 64 := by omega
  have hR := row_any i w h hi64
  rw [hf] at hR
  simp only [Option.map_none, ptrV] at hR
  have HR := Lib.hid (And.intro hR (place_none w h hfull hv))
  clear hR hi64 h hf hfull hv
  go_enter Tryd.func26, Tryd.ntmps26
  go_wp2_with fail
  refine HR.out.1.mono ?_
  rintro e w1 ⟨rfl, rfl⟩
  go_wp2_with fail
  refine Calls.pure_to HR.out.2 ?_
  intro w1 b1
  go_wp2_with fail
  go_ret2
  exact ⟨rfl, b1⟩
end Go.Proofs.YtijagdpkclghnaaDoor
/- Put, Fill of any cache: contracts. -/
namespace Go.Proofs.YtijagdpkclghnaaDoor
open Go Go.RowKit
set_option maxRecDepth 100000
variable {B n data : Nat} {w w' : World} {C C' : CM} {T T' : TS} {L L' : List Int} {f f' : Int → Option Ent} {E : Ent}
set_option maxHeartbeats 1000000 in
theorem Put_gen (i : Int) (c : Nat) (s : ByteArray) (w : World) (h : CacheAt B n data w C T L f) (hi : 0 ≤ i) (hi2 : i < 64) (hc : c < data) (hs : s.size = 64) (hr : canOpen T f i = true) (hnn : n < 90000) :
    Calls Tryd.prog 10 #[pt C.g, .int .i64 i, .int .i64 (c : Int), .string s] w fun e w' => e = .returned (.int .i64 0) ∧ ∃ (w1 : World) (C1 : CM) (E : Ent) (T1 : TS) (L1 : List Int) (f1 : Int → Option Ent) (C' : CM), OpenedG B n data w C T f i w1 C1 E T1 L1 f1 ∧ CacheAt B (n + 2) data w' C' (T1.pinT i true) L1 (upd f1 i (some (E.put c s))) ∧ CStep C f C' (upd f1 i (some (E.put c s))) w w' := by
  have hO := openG_yes i c s w h hi hi2 hc hs hr (by omega)
  have hc256 : c < 256 := by have := h.d30; omega
  have HO := Lib.hid hO
  have HC := Lib.hid (And.intro h (And.intro hi (And.intro hi2 (And.intro hc (And.intro hs hnn)))))
  clear hO h hi hi2 hs hr hnn
  go_enter Tryd.func10, Tryd.ntmps10
  go_wp2_with fail
  refine HO.out.mono ?_
  rintro e w1 ⟨C1, E, T1, L1, f1, rfl, hop⟩
  have HP := Lib.hid hop
  have hE1 := hop.at_.ent i E hop.here
  clear hop
  go_wp2_with fail
  refine (put_now c s w1 hE1 hc HP.out.at_.d30).mono ?_
  rintro e w2 ⟨rfl, hE2, hS2⟩
  have hA2 := HP.out.at_.entPut (E' := { E with nt := E.nt.with' c, nb := E.nb.set c s }) HP.out.here rfl rfl rfl hE2 hS2.os hS2.tape hS2.output hS2.size hS2.block
  have k0 := hE2.row.cell 10 rfl
  have k1 := hE2.row.cell 11 rfl
  have k2 := hE2.row.cell 12 rfl
  have k3 := hE2.row.cell 13 rfl
  have H2 := Lib.hid (And.intro hE2 hA2)
  clear hE1 hE2 hS2 hA2
  go_wp2_with fail
  refine Calls.pure_to (With_yes E.dt c w2 hc256) ?_
  intro w3 b3
  have hE3 := H2.out.1.below b3
  have hA3 := H2.out.2.1.below b3
  clear k0 k1 k2 k3
  have k0 := hE3.row.cell 10 rfl
  have k1 := hE3.row.cell 11 rfl
  have k2 := hE3.row.cell 12 rfl
  have k3 := hE3.row.cell 13 rfl
  have z0 := hE3.row.free
  have H3 := Lib.hid (And.intro hA3 b3)
  go_upto_region 6 with fail
  have hD := EntAt.dirty (t := E.dt.with' c) hE3
  refine wp_world (fun w4 => EntAt B data w4 { E with nt := E.nt.with' c, nb := E.nb.set c s, dt := E.dt.with' c } ∧ EStep E w3 w4) ⟨hD, EStep.dirty E w3 (E.dt.with' c)⟩ ?_
  clear hE3 hA3 b3 k0 k1 k2 k3 z0 hD
  rintro w4 ⟨hE4, hS4⟩
  replace hS4 := hS4.like (E' := { E with nt := E.nt.with' c, nb := E.nb.set c s }) rfl rfl rfl
  have hA4 := H3.out.1.entPut (E' := { E with nt := E.nt.with' c, nb := E.nb.set c s, dt := E.dt.with' c }) (upd_same f1 i (some { E with nt := E.nt.with' c, nb := E.nb.set c s })) rfl rfl rfl hE4 hS4.os hS4.tape hS4.output hS4.size hS4.block
  rw [upd_upd] at hA4
  obtain ⟨c0, c1, c2⟩ := hA4.1.three
  rw [HP.out.step.g] at c0 c1 c2
  have H4 := Lib.hid hA4
  clear hA4 hE4 hS4
  go_wp2_with fail
  refine (Pin_any i true w4 H4.out.1.turn (by have := HC.out.2.2.2.2.2; omega) ⟨by have := HC.out.2.1; omega, by have := HC.out.2.2.1; omega⟩).mono ?_
  rintro e w5 ⟨rfl, hT5, hS5⟩
  have H5 := Lib.hid (And.intro hT5 hS5)
  clear hT5 hS5 c0 c1 c2
  go_wp2_with fail
  go_returns
  obtain ⟨A1, A2⟩ := H4.out.1.turned H5.out.2 H5.out.1 (by omega) (H4.out.1.good.pin i true) (pin_has T1 i true)
  exact ⟨rfl, w1, C1, E, T1, L1, f1, _, HP.out, A1, HP.out.step.trans (H2.out.2.2.trans ((CStep.of_below _ _ H3.out.2).trans (H4.out.2.trans A2)))⟩
set_option maxHeartbeats 1000000 in
theorem Fill_gen (i : Int) (c : Nat) (s : ByteArray) (w : World) (h : CacheAt B n data w C T L f) (hi : 0 ≤ i) (hi2 : i < 64) (hc : c < data) (hs : s.size = 64) (hr : canOpen T f i = true) (hnn : n < 90000) :
    Calls Tryd.prog 11 #[pt C.g, .int .i64 i, .int .i64 (c : Int), .string s] w fun e w' => e = .returned (.int .i64 0) ∧ ∃ (w1 : World) (C1 : CM) (E : Ent) (T1 : TS) (L1 : List Int) (f1 : Int → Option Ent), OpenedG B n data w C T f i w1 C1 E T1 L1 f1 ∧ CacheAt B (n + 1) data w' C1 T1 L1 (upd f1 i (some (E.fill c s))) ∧ CStep C f C1 (upd f1 i (some (E.fill c s))) w w' := by
  have hO := openG_yes i c s w h hi hi2 hc hs hr (by omega)
  have hc256 : c < 256 := by have := h.d30; omega
  have HO := Lib.hid hO
  clear hO h hi hi2 hs hr hnn
  go_enter Tryd.func11, Tryd.ntmps11
  go_wp2_with fail
  refine HO.out.mono ?_
  rintro e w1 ⟨C1, E, T1, L1, f1, rfl, hop⟩
  have HP := Lib.hid hop
  have hE1 := hop.at_.ent i E hop.here
  clear hop
  go_wp2_with fail
  refine (put_old c s w1 hE1 hc HP.out.at_.d30).mono ?_
  rintro e w2 ⟨rfl, hE2, hS2⟩
  have hA2 := HP.out.at_.entPut (E' := { E with ot := E.ot.with' c, ob := E.ob.set c s }) HP.out.here rfl rfl rfl hE2 hS2.os hS2.tape hS2.output hS2.size hS2.block
  have k0 := hE2.row.cell 10 rfl
  have k1 := hE2.row.cell 11 rfl
  have k2 := hE2.row.cell 12 rfl
  have k3 := hE2.row.cell 13 rfl
  have H2 := Lib.hid (And.intro hE2 hA2)
  clear hE1 hE2 hS2 hA2
  have hH := Lib.hid (Has_yes E.dt c w2 hc256)
  cases e : E.dt.has c
  · rw [e] at hH
    go_wp2_with fail
    refine Calls.pure_to hH.out ?_
    intro w3 b3
    have hE3 := H2.out.1.below b3
    have hA3 := H2.out.2.1.below b3
    have H3 := Lib.hid (And.intro hA3 b3)
    clear k0 k1 k2 k3 hA3 b3
    go_wp2_with fail
    have hP := put_now c s w3 hE3 hc HP.out.at_.d30
    refine hP.mono ?_
    rintro e w4 ⟨rfl, hE4, hS4⟩
    have hA4 := H3.out.1.entPut (E' := { E with ot := E.ot.with' c, ob := E.ob.set c s, nt := E.nt.with' c, nb := E.nb.set c s }) (upd_same f1 i (some { E with ot := E.ot.with' c, ob := E.ob.set c s })) rfl rfl rfl hE4 hS4.os hS4.tape hS4.output hS4.size hS4.block
    rw [upd_upd] at hA4
    have H4 := Lib.hid hA4
    clear hA4 hE4 hS4 hE3 hP
    go_wp2_with fail
    go_returns
    have hfl : E.fill c s = { E with ot := E.ot.with' c, ob := E.ob.set c s, nt := E.nt.with' c, nb := E.nb.set c s } := by unfold Ent.fill; rw [e]; rfl
    rw [← hfl] at H4
    exact ⟨rfl, w1, C1, E, T1, L1, f1, HP.out, H4.out.1, HP.out.step.trans (H2.out.2.2.trans ((CStep.of_below _ _ H3.out.2).trans H4.out.2))⟩
  · rw [e] at hH
    go_wp2_with fail
    refine Calls.pure_to hH.out ?_
    intro w3 b3
    have hA3 := H2.out.2.1.below b3
    have H3 := Lib.hid (And.intro hA3 b3)
    clear k0 k1 k2 k3 hA3 b3
    go_wp2_with fail
    go_returns
    have hfl : E.fill c s = { E with ot := E.ot.with' c, ob := E.ob.set c s } := by unfold Ent.fill; rw [e]; rfl
    rw [← hfl] at H3
    have hS := H2.out.2.2
    rw [← hfl] at hS
    exact ⟨rfl, w1, C1, E, T1, L1, f1, HP.out, H3.out.1, HP.out.step.trans (hS.trans (CStep.of_below _ _ H3.out.2))⟩
theorem Put_no (i : Int) (c : Nat) (s : ByteArray) (w : World) (h : CacheAt B n data w C T L f) (hi : 0 ≤ i) (hi2 : i < 64) (hc : c < data) (hs : s.size = 64) (hr : canOpen T f i = false) :
    Calls Tryd.prog 10 #[pt C.g, .int .i64 i, .int .i64 (c : Int), .string s] w fun e w' => e = .returned (.int .i64 10) ∧ Below w.heap.size w w' := by
  have HO := Lib.hid (openG_no i c s w h hi hi2 hc hs hr)
  clear h hi hi2 hs hr
  go_enter Tryd.func10, Tryd.ntmps10
  go_wp2_with fail
  refine Calls.pure_to HO.out ?_
  intro w1 b1
  go_wp2_with fail
  go_returns
  exact ⟨rfl, b1⟩
theorem Fill_no (i : Int) (c : Nat) (s : ByteArray) (w : World) (h : CacheAt B n data w C T L f) (hi : 0 ≤ i) (hi2 : i < 64) (hc : c < data) (hs : s.size = 64) (hr : canOpen T f i = false) :
    Calls Tryd.prog 11 #[pt C.g, .int .i64 i, .int .i64 (c : Int), .string s] w fun e w' => e = .returned (.int .i64 10) ∧ Below w.heap.size w w' := by
  have HO := Lib.hid (openG_no i c s w h hi hi2 hc hs hr)
  clear h hi hi2 hs hr
  go_enter Tryd.func11, Tryd.ntmps11
  go_wp2_with fail
  refine Calls.pure_to HO.out ?_
  intro w1 b1
  go_wp2_with fail
  go_returns
  exact ⟨rfl, b1⟩
end Go.Proofs.YtijagdpkclghnaaDoor
/- Maps from pairs of integers to strings: laws of my own over the kit's. -/
namespace Go.Proofs.YtijagdpkclghnaaDoor
open Go Go.RowKit Go.Maps
set_option maxRecDepth 100000
abbrev tK : TypeId := 22
abbrev tM2 : TypeId := 38
abbrev kv (i j : Int) : Value := .agg #[.int .i64 i, .int .i64 j]
theorem pairLaid : laidOutB Tryd.prog = true := by kernel_rfl
theorem pairRow : tK < Tryd.prog.types.size := of_decide_eq_true (by kernel_rfl)
theorem pairWide : (match Tryd.prog.underlying tK with | some (.array _ _) | some (.struct _) => true | _ => false) = true := by rw [Tryd.underlying22]
theorem pairLaw : WideMaps.KeyLaw Tryd.prog tK := deep_law_laid pairLaid (m := 2) (by omega) pairRow (by kernel_rfl) pairWide
theorem pairKeyed : Keyed Tryd.prog tK := Keyed.of_law pairLaw
def kl (i j : Int) : Lit := .string (keyBytes [.int .i64 i, .int .i64 j])
theorem pairCells : Tryd.prog.cellsOf tK = 2 := by kernel_rfl
theorem intCells : Tryd.prog.cellsOf 3 = 1 := by kernel_rfl
theorem pairType : Tryd.prog.keyType tK = true := by kernel_rfl
theorem keyOf_pair (i j : Int) (hi : In64 i) (hj : In64 j) : keyOf Tryd.prog tK (kv i j) = some (kl i j) := by
  have hf : (kv i j).formed Tryd.prog tK = true := by simp [Value.formed, Tryd.underlying22, pairCells]
  have hlits : ∀ d, Tryd.prog.keyLits (d + 2) tK [.int .i64 i, .int .i64 j] = some [.int .i64 i, .int .i64 j] := fun d => by
    show Tryd.prog.keyLits ((d + 1) + 1) tK _ = _
    simp only [Program.keyLits, Tryd.underlying22, pairCells, intCells]
    simp [List.range_succ, Tryd.underlying3, wf_in64 hi, wf_in64 hj]
  unfold keyOf
  rw [Tryd.underlying22]
  simp only [pairType, hf, Bool.and_self, if_true]
  obtain ⟨d, hd⟩ : ∃ d, Tryd.prog.types.size + 1 = d + 2 := ⟨Tryd.prog.types.size - 1, by have h9 : 0 < Tryd.prog.types.size := Nat.lt_of_le_of_lt (Nat.zero_le _) pairRow; omega⟩
  rw [hd]
  show (Tryd.prog.keyLits (d + 2) tK [.int .i64 i, .int .i64 j]).map _ = _
  rw [hlits d]; rfl
theorem kl_ne {i j i' j' : Int} (hi : In64 i) (hj : In64 j) (hi' : In64 i') (hj' : In64 j') (h : ¬ (i' = i ∧ j' = j)) : kl i' j' ≠ kl i j := fun e => by
  have h1 := keyOf_pair i j hi hj
  have h2 := keyOf_pair i' j' hi' hj'
  rw [e] at h2
  have := pairKeyed.inj h2 h1
  simp at this
  exact h this
theorem kl_key (i j : Int) : WideAt.IsKeyLit (kl i j) := by trivial
/-- The datum D holds g, "" where there is none. -/
structure SM (D : DataW Unit) (g : Int → Int → ByteArray) : Prop where
  m : Maps.IsMap D
  at_ : ∀ i j, In64 i → In64 j → D.atKey (kl i j) (.lit (.string [])) = .lit (.string (g i j).data.toList)
def World.smap (w : World) (b n : Nat) (g : Int → Int → ByteArray) : Prop := ∃ D : DataW Unit, w.ownsMap Tryd.prog tK (plainElem Tryd.prog 9) b n D ∧ SM D g
variable {w w' : World} {b n : Nat} {g : Int → Int → ByteArray}
theorem World.smap.lt (h : World.smap w b n g) : b < w.heap.size := by obtain ⟨D, h1, _⟩ := h; exact h1.lt
theorem World.smap.same (h : World.smap w b n g) (hb : w'.heap[b]? = w.heap[b]?) : World.smap w' b n g := by
  obtain ⟨D, ⟨es, clock, h1, h2⟩, h3⟩ := h
  exact ⟨D, ⟨es, clock, hb.trans h1, h2⟩, h3⟩
theorem World.smap_made (w : World) : World.smap (w.alloc (.map #[] 0)) w.heap.size 0 (fun _ _ => { data := #[] }) := ⟨_, World.ownsMap_made _ _ _ _, Maps.isMap_empty, fun _ _ _ _ => rfl⟩
theorem bytes_ext {a b : ByteArray} (h : a.data.toList = b.data.toList) : a = b := by
  cases a; cases b; simp at h; rw [h]
theorem plainElem_string_inv {v : Value} {z : DataW Unit × List MemPlace} (h : plainElem Tryd.prog 9 v = some z) : ∃ s : ByteArray, v = .string s ∧ z = (.lit (.string s.data.toList), []) := by
  unfold plainElem at h
  rw [Tryd.underlying9] at h
  cases v <;> simp at h
  rename_i s
  exact ⟨s, rfl, h.2.symm⟩
section
variable {ops : Array Oper} {rest : List Oper} {o : Oper} {a : Act} {Q : Exit → Act → World → Prop}
theorem wpList_lookup_sm (hw : Region.wanted o (yielded ops a.tmps) = true) (m x : Operand) (hop : o.op = Op.lookup tM2 m x false) (hm : a.eval m = .map (some b)) (h : World.smap w b n g) (i j : Int) (hx : a.eval x = kv i j) (hi : In64 i) (hj : In64 j)
    (hK : wpList Tryd.prog ops Q rest (a.put o.dst (.string (g i j))) w) : wpList Tryd.prog ops Q (o :: rest) a w := by
  refine BigFrame.wpList_want hw fun K' hK' => ?_
  obtain ⟨D, hown, hB⟩ := h
  have hz : (zeroValue 9).run Tryd.prog w = .ok (.string { data := #[] }) w := by kernel_rfl
  obtain ⟨v, ps, hrun, hv⟩ := hown.lookup pairKeyed Tryd.underlying38 hz (plainElem_string Tryd.underlying9 (by decide)) (keyOf_pair i j hi hj)
  obtain ⟨s, rfl, hy⟩ := plainElem_string_inv hv
  have e1 := congrArg Prod.fst hy
  simp only at e1
  have e3 := hB.at_ i j hi hj
  have e4 : D.atKey (kl i j) (.lit (.string [])) = .lit (.string s.data.toList) := e1
  rw [e3] at e4
  have e2 : g i j = s := bytes_ext (by simpa using e4)
  subst e2
  unfold Oper.wp
  simp [execOp, hop, hm, hx, hrun, Result.andThen]
  exact hK' _ _ (by simpa using hK)
theorem wpList_mapUpdate_sm (hg : o.guard = none) (m x v : Operand) (hop : o.op = Op.mapUpdate tM2 m x v) (hm : a.eval m = .map (some b)) (h : World.smap w b n g) (hn : n < 100000) (i j : Int) (hx : a.eval x = kv i j) (hi : In64 i) (hj : In64 j) (s : ByteArray) (hv : a.eval v = .string s) (hs : s.size ≤ maxLen)
    (hK : ∀ w', World.smap w' b (n + 1) (fun i' j' => if i' = i ∧ j' = j then s else g i' j') → w.grownBy w' (some b) → wpList Tryd.prog ops Q rest (a.put o.dst undef) w') : wpList Tryd.prog ops Q (o :: rest) a w := by
  obtain ⟨D, hown, hB⟩ := h
  refine wpList_mapUpdate_own w hg m x v tM2 hop tK 9 pairKeyed Tryd.underlying38 _ b n D hm hown (by unfold maxLen; omega) _ _ _ hx hv (keyOf_pair i j hi hj) _ [] (plainElem_string Tryd.underlying9 hs) ?_
  intro w' h1 h2
  refine hK w' ⟨_, h1, hB.m.put _ _, fun i' j' hi' hj' => ?_⟩ h2
  show _ = DataW.lit (Lit.string (if i' = i ∧ j' = j then s else g i' j').data.toList)
  by_cases e : i' = i ∧ j' = j
  · obtain ⟨rfl, rfl⟩ := e
    rw [if_pos ⟨rfl, rfl⟩]
    exact Maps.atKey_put_same hB.m (kl_key i' j') _ _
  · rw [if_neg e, Maps.atKey_put_other (kl_ne hi hj hi' hj' e)]
    exact hB.at_ i' j' hi' hj'
end
end Go.Proofs.YtijagdpkclghnaaDoor
/- CacheKeeps: a map from pairs to strings as a relation; a range over it; delete. -/
namespace Go.Proofs.YtijagdpkclghnaaDoor
open Go Go.RowKit Go.Maps
set_option maxRecDepth 100000
structure KM (D : DataW Unit) (p : Int → Int → ByteArray → Prop) : Prop where
  m : Maps.IsMap D
  at_ : ∀ i j s, In64 i → In64 j → (∀ zd, D.atKey (kl i j) zd = .lit (.string s.data.toList)) → p i j s
noncomputable abbrev rEl : Value → Option (DataW Unit × List MemPlace) := plainElem Tryd.prog 9
def World.kmap (w : World) (b n : Nat) (p : Int → Int → ByteArray → Prop) : Prop := ∃ D : DataW Unit, w.ownsMap Tryd.prog tK rEl b n D ∧ KM D p
def World.kranges (w : World) (b r n : Nat) (p : Int → Int → ByteArray → Prop) (cnt : Nat) : Prop := ∃ (D : DataW Unit) (left : Lit → Bool), w.ranges Tryd.prog tK rEl b r n D left cnt ∧ KM D p
variable {w w' : World} {b r n cnt : Nat} {p p' : Int → Int → ByteArray → Prop}
theorem World.kmap.lt (h : World.kmap w b n p) : b < w.heap.size := by obtain ⟨D, h1, _⟩ := h; exact h1.lt
theorem World.kmap.same (h : World.kmap w b n p) (hb : w'.heap[b]? = w.heap[b]?) : World.kmap w' b n p := by
  obtain ⟨D, ⟨es, clock, h1, h2⟩, h3⟩ := h
  exact ⟨D, ⟨es, clock, hb.trans h1, h2⟩, h3⟩
theorem World.kmap.imp (h : World.kmap w b n p) (hp : ∀ i j s, p i j s → p' i j s) : World.kmap w b n p' := by
  obtain ⟨D, h1, h2⟩ := h
  exact ⟨D, h1, h2.m, fun i j s hi hj hs => hp i j s (h2.at_ i j s hi hj hs)⟩
theorem World.kmap_made (w : World) : World.kmap (w.alloc (.map #[] 0)) w.heap.size 0 (fun _ _ _ => False) := ⟨_, World.ownsMap_made _ _ _ _, Maps.isMap_empty, fun i j s _ _ h => by
  have h1 := h (.lit (.bool true))
  have h2 : (DataW.map [] : DataW Unit).atKey (kl i j) (.lit (.bool true)) = .lit (.bool true) := rfl
  rw [h2] at h1
  cases h1⟩
theorem World.kranges.owns (h : World.kranges w b r n p cnt) : World.kmap w b n p := by
  obtain ⟨D, left, h1, h2⟩ := h
  exact ⟨D, h1.owns, h2⟩
theorem World.kranges.left_eq (h : World.kranges w b r n p cnt) : w.rangeLeft b r = cnt := by
  obtain ⟨D, left, h1, h2⟩ := h
  exact h1.left_eq
theorem World.kranges.lt (h : World.kranges w b r n p cnt) : r < w.heap.size := by
  obtain ⟨D, left, h1, h2⟩ := h
  exact h1.lt
theorem World.kranges.same (h : World.kranges w b r n p cnt) (hb : w'.heap[b]? = w.heap[b]?) (hr : w'.heap[r]? = w.heap[r]?) : World.kranges w' b r n p cnt := by
  obtain ⟨D, left, ⟨es, clock, since, seen, c0, h1, h2, h3, h4, h5, h6⟩, hk⟩ := h
  exact ⟨D, left, ⟨es, clock, since, seen, c0, hb.trans h1, h2, h3, h4, hr.trans h5, h6⟩, hk⟩
theorem keyLits_int {d : Nat} {cs : List Value} {ls : List Lit} (h : Tryd.prog.keyLits (d + 1) 3 cs = some ls) : ∃ x, cs = [.int .i64 x] ∧ In64 x := by
  unfold Program.keyLits at h
  rw [Tryd.underlying3] at h
  match cs, h with
  | [], h => simp at h
  | v :: u :: r, h => cases v <;> simp at h
  | [v], h =>
    cases v <;> simp at h
    rename_i q x
    obtain ⟨⟨rfl, hw⟩, _⟩ := h
    exact ⟨x, rfl, in64_of hw⟩
theorem mapM2 {f : Nat → Option (List Lit)} {z : List (List Lit)} (h : [0, 1].mapM f = some z) : ∃ x y, f 0 = some x ∧ f 1 = some y := by
  cases h0 : f 0 with
  | none => simp [List.mapM_cons, h0] at h
  | some x =>
    cases h1 : f 1 with
    | none => simp [List.mapM_cons, h0, h1] at h
    | some y => exact ⟨x, y, rfl, rfl⟩
theorem pair_inv {key : Value} {x : Lit} (h : keyOf Tryd.prog tK key = some x) : ∃ i j, key = kv i j ∧ In64 i ∧ In64 j ∧ x = kl i j := by
  have h0 := h
  unfold keyOf at h
  rw [Tryd.underlying22] at h
  simp only [pairType, Bool.true_and] at h
  obtain ⟨hf, h⟩ : key.formed Tryd.prog tK = true ∧ ((Tryd.prog.keyLits (Tryd.prog.types.size + 1) tK key.cells.toList).map fun ls => Lit.string (keyBytes ls)) = some x := by
    cases hf : key.formed Tryd.prog tK
    · rw [hf] at h; simp at h
    · rw [hf] at h; exact ⟨rfl, by simpa using h⟩
  obtain ⟨cs, rfl, hsz⟩ : ∃ cs, key = .agg cs ∧ cs.size = 2 := by
    cases key <;> simp [Value.formed, Tryd.underlying22, pairCells] at hf
    exact ⟨_, rfl, hf⟩
  obtain ⟨v0, v1, rfl⟩ : ∃ v0 v1, cs = #[v0, v1] := by
    obtain ⟨l⟩ := cs
    match l, hsz with
    | [v0, v1], _ => exact ⟨v0, v1, rfl⟩
  obtain ⟨d, hd⟩ : ∃ d, Tryd.prog.types.size + 1 = d + 2 := ⟨Tryd.prog.types.size - 1, by have h9 : 0 < Tryd.prog.types.size := Nat.lt_of_le_of_lt (Nat.zero_le _) pairRow; omega⟩
  rw [hd] at h
  obtain ⟨ls, hls, _⟩ := Option.map_eq_some_iff.1 h
  have hls : Tryd.prog.keyLits ((d + 1) + 1) tK [v0, v1] = some ls := hls
  unfold Program.keyLits at hls
  rw [Tryd.underlying22] at hls
  simp only [pairCells, intCells] at hls
  rw [if_pos (show [v0, v1].length = 2 from rfl), show List.range 2 = [0, 1] from rfl] at hls
  obtain ⟨z, hz, _⟩ := Option.map_eq_some_iff.1 hls
  obtain ⟨x0, x1, e0, e1⟩ := mapM2 hz
  obtain ⟨i, hi, hi64⟩ := keyLits_int e0
  obtain ⟨j, hj, hj64⟩ := keyLits_int e1
  have hi : [v0] = [.int .i64 i] := hi
  have hj : [v1] = [.int .i64 j] := hj
  cases hi; cases hj
  exact ⟨i, j, rfl, hi64, hj64, Option.some.inj (h0.symm.trans (keyOf_pair i j hi64 hj64))⟩
section
variable {ops : Array Oper} {rest : List Oper} {o : Oper} {a : Act} {Q : Exit → Act → World → Prop}
theorem wpList_range_km (hg : o.guard = none) (m : Operand) (hop : o.op = Op.range tM2 m) (hm : a.eval m = .map (some b)) (h : World.kmap w b n p)
    (hK : ∀ r w' cnt, World.kranges w' b r n p cnt → w.grownBy w' none → r = w.heap.size → wpList Tryd.prog ops Q rest (a.put o.dst (.pointer (some ⟨r, 0, none⟩))) w') : wpList Tryd.prog ops Q (o :: rest) a w := by
  obtain ⟨D, hown, hB⟩ := h
  exact wpList_range_own w hg m tM2 hop tK 9 pairKeyed Tryd.underlying38 _ b n D hm hown fun w' h1 h2 h3 => hK _ w' _ ⟨D, _, h1, hB⟩ h2 rfl
theorem wpList_next_km (hg : o.guard = none) (it : Operand) (hop : o.op = Op.next it false) (hit : a.eval it = .pointer (some ⟨r, 0, none⟩)) (h : World.kranges w b r n p cnt)
    (hDone : wpList Tryd.prog ops Q rest (a.put o.dst (.tuple #[.bool false])) w)
    (hMore : ∀ i j s w' cnt', In64 i → In64 j → p i j s → World.kranges w' b r n p cnt' → cnt' < cnt → w.grownBy w' (some r) → w'.heap.size = w.heap.size → (Instr.entry (.pointer (some ⟨r, 0, none⟩))).run Tryd.prog w' = .ok (.tuple #[kv i j, .string s]) w' → wpList Tryd.prog ops Q rest (a.put o.dst (.tuple #[.bool true, kv i j, .string s])) w') :
    wpList Tryd.prog ops Q (o :: rest) a w := by
  obtain ⟨D, left, hr, hB⟩ := h
  refine wpList_next_ranges w hg it hop tK pairKeyed rEl (fun x : Int × Int => kv x.1 x.2) Value.string (fun key kl' hk => by obtain ⟨i, j, rfl, _⟩ := pair_inv hk; exact ⟨(i, j), rfl⟩) (fun v y hv => by obtain ⟨s, rfl, _⟩ := plainElem_string_inv hv; exact ⟨s, rfl⟩) b r n D left cnt hit hr (fun _ _ => hDone) ?_
  rintro ⟨i, j⟩ s kl' y w' cnt' hkey hl hv hat hrg hlt hgr hsz hen
  obtain ⟨i', j', e, hi, hj, rfl⟩ := pair_inv hkey
  simp at e
  obtain ⟨rfl, rfl⟩ := e
  obtain ⟨s', es, rfl⟩ := plainElem_string_inv hv
  cases es
  exact hMore i j s w' cnt' hi hj (hB.at_ i j s hi hj hat) ⟨D, _, hrg, hB⟩ hlt hgr hsz hen
theorem wpList_mapUpdate_km (hg : o.guard = none) (m x v : Operand) (hop : o.op = Op.mapUpdate tM2 m x v) (hm : a.eval m = .map (some b)) (h : World.kmap w b n p) (hn : n < 100000) (i j : Int) (hx : a.eval x = kv i j) (hi : In64 i) (hj : In64 j) (s : ByteArray) (hv : a.eval v = .string s) (hs : s.size ≤ maxLen)
    (hK : ∀ w', World.kmap w' b (n + 1) (fun i' j' s' => if i' = i ∧ j' = j then s' = s else p i' j' s') → w.grownBy w' (some b) → wpList Tryd.prog ops Q rest (a.put o.dst undef) w') : wpList Tryd.prog ops Q (o :: rest) a w := by
  obtain ⟨D, hown, hB⟩ := h
  refine wpList_mapUpdate_own w hg m x v tM2 hop tK 9 pairKeyed Tryd.underlying38 _ b n D hm hown (by unfold maxLen; omega) _ _ _ hx hv (keyOf_pair i j hi hj) _ [] (plainElem_string Tryd.underlying9 hs) ?_
  intro w' h1 h2
  refine hK w' ⟨_, h1, hB.m.put _ _, fun i' j' s' hi' hj' hat => ?_⟩ h2
  by_cases e : i' = i ∧ j' = j
  · obtain ⟨rfl, rfl⟩ := e
    rw [if_pos ⟨rfl, rfl⟩]
    have h3 := hat (.lit (.bool true))
    rw [Maps.atKey_put_same hB.m (kl_key i' j')] at h3
    have h4 : s.data.toList = s'.data.toList := by simpa using h3
    exact bytes_ext h4.symm
  · rw [if_neg e]
    refine hB.at_ i' j' s' hi' hj' fun zd => ?_
    have h3 := hat zd
    rw [Maps.atKey_put_other (kl_ne hi hj hi' hj' e)] at h3
    exact h3
theorem wpList_delete_km (hg : o.guard = none) (m x : Operand) (hop : o.op = Op.call { callee := Callee.builtin Builtin.delete, args := #[m, x], argTypes := #[tM2, tK] }) (hm : a.eval m = .map (some b)) (h : World.kmap w b n p) (i j : Int) (hx : a.eval x = kv i j) (hi : In64 i) (hj : In64 j)
    (hK : ∀ w', World.kmap w' b n (fun i' j' s' => ¬ (i' = i ∧ j' = j) ∧ p i' j' s') → w.grownBy w' (some b) → wpList Tryd.prog ops Q rest (a.put o.dst (.tuple #[])) w') : wpList Tryd.prog ops Q (o :: rest) a w := by
  obtain ⟨D, hown, hB⟩ := h
  refine wpList_delete_own w hg m x tM2 tK hop 9 pairKeyed Tryd.underlying38 _ b n D hm hown _ _ hx (keyOf_pair i j hi hj) ?_
  intro w' h1 h2
  refine hK w' ⟨_, h1, hB.m.del _, fun i' j' s' hi' hj' hat => ?_⟩ h2.grown
  by_cases e : i' = i ∧ j' = j
  · obtain ⟨rfl, rfl⟩ := e
    have h3 := hat (.lit (.bool true))
    rw [Maps.atKey_del_same] at h3
    cases h3
  · refine ⟨e, hB.at_ i' j' s' hi' hj' fun zd => ?_⟩
    have h3 := hat zd
    rw [Maps.atKey_del_other (kl_ne hi hj hi' hj' e)] at h3
    exact h3
end
end Go.Proofs.YtijagdpkclghnaaDoor
/- CacheKeeps: what was put is had: plain laws, contracts. -/
namespace Go.Proofs.YtijagdpkclghnaaDoor
open Go Go.RowKit
set_option maxRecDepth 100000
variable {B n nm data g mb r cnt : Nat} {u w w' : World} {C C' : CM} {T T' T0 : TS} {L L' : List Int} {f f' f0 : Int → Option Ent} {E : Ent} {i t : Int} {c : Nat} {s : ByteArray} {p p' : Int → Int → ByteArray → Prop}
theorem with_keep (s : Set4) {i j : Nat} (h : s.has j = true) (hj : j < 256) : (s.with' i).has j = true := by
  unfold Set4.with'
  rw [Set4.has_of]
  simp [h, hj]
theorem Set4.has_lt {s : Set4} {i : Nat} (h : s.has i = true) : i < 256 := by
  rcases Nat.lt_or_ge i 256 with h1 | h1
  · exact h1
  · rw [Set4.has_ge s h1] at h; cases h
theorem dt_some {s : Set4} {c : Nat} (h : s.has c = true) : s.empty = false := by
  cases e : s.empty
  · rfl
  · rw [(Set4.empty_iff _).1 e, Set4.has_zero] at h
    cases h
theorem atB_other {l : List ByteArray} {c j : Nat} (h : j ≠ c) (s : ByteArray) : atB (l.set c s) j = atB l j := by
  unfold atB
  simp [List.getD, List.getElem?_set_ne (Ne.symm h)]
/-- What was put is there, and dirty, and pinned. -/
structure Keep (T : TS) (f : Int → Option Ent) (p : Int → Int → ByteArray → Prop) : Prop where
  pins : ∀ i E, f i = some E → E.dt.empty = false → T.pins.contains i = true
  has : ∀ i j s, p i j s → ∃ (E : Ent) (c : Nat), f i = some E ∧ j = (c : Int) ∧ E.nt.has c = true ∧ E.dt.has c = true ∧ atB E.nb c = s
theorem Keep.imp (h : Keep T f p) (hp : ∀ i j s, p' i j s → p i j s) : Keep T f p' := ⟨h.pins, fun i j s hs => h.has i j s (hp i j s hs)⟩
theorem keepTouch (T : TS) (k : Int) : (T.touchT k).pins = T.pins := by
  unfold TS.touchT
  split
  · unfold TS.fallT
    split
    · rfl
    · split <;> rfl
  · rfl
theorem keepAdd (T : TS) (k : Int) : (T.addT k).pins = T.pins := by
  unfold TS.addT
  split
  · rfl
  · split <;> rfl
theorem erase_other {l : List Int} {v i : Int} (h : l.contains i = true) (hne : i ≠ v) : (l.erase v).contains i = true := by
  simp at h ⊢
  exact (List.mem_erase_of_ne hne).2 h
/-- A stripe that isn't dirty goes. -/
theorem Keep.gone (h : Keep T f p) (v : Int) (hd : ∀ E, f v = some E → E.dt.empty = true) : Keep (T.dropT v) (upd f v none) p := by
  refine ⟨fun i E hE he => ?_, fun i j s hs => ?_⟩
  · by_cases e : i = v
    · subst e; rw [upd_same] at hE; cases hE
    · rw [upd_other f _ e] at hE
      exact erase_other (h.pins i E hE he) e
  · obtain ⟨E, c, h1, h2, h3, h4, h5⟩ := h.has i j s hs
    have e : i ≠ v := fun e => by
      subst e
      have := hd E h1
      rw [dt_some h4] at this
      cases this
    exact ⟨E, c, by rw [upd_other f _ e]; exact h1, h2, h3, h4, h5⟩
theorem Keep.room (h : Keep T f p) (hr : RoomOf T f T0 f0) : Keep T0 f0 p := by
  rcases hr with ⟨_, rfl, rfl⟩ | ⟨_, v, hv, rfl, rfl⟩
  · exact h
  · refine h.gone v fun E hE => ?_
    cases e : E.dt.empty
    · have h1 := h.pins v E hE e
      rw [(victim_in hv).2] at h1
      cases h1
    · rfl
theorem Keep.opened {w1 : World} {C1 : CM} {T1 : TS} {L1 : List Int} {f1 : Int → Option Ent} (h : Keep T f p) (ho : OpenedG B n data w C T f t w1 C1 E T1 L1 f1) : Keep T1 f1 p := by
  rcases ho.how with ⟨_, rfl, rfl⟩ | ⟨_, T0, f0, hr, _, _, hn, rfl, rfl, z1, z2, z3, _⟩
  · exact ⟨fun i E hE he => by rw [keepTouch]; exact h.pins i E hE he, h.has⟩
  · have h0 := h.room hr
    refine ⟨fun i F hF he => ?_, fun i j s hs => ?_⟩
    · rw [keepAdd]
      by_cases e : i = t
      · subst e; rw [upd_same] at hF; cases hF; rw [z3] at he; cases he
      · rw [upd_other f0 _ e] at hF; exact h0.pins i F hF he
    · obtain ⟨F, c, h1, h2⟩ := h0.has i j s hs
      have e : i ≠ t := fun e => by subst e; rw [hn] at h1; cases h1
      exact ⟨F, c, by rw [upd_other f0 _ e]; exact h1, h2⟩
theorem Keep.fill (h : Keep T f p) (hf : f t = some E) : Keep T (upd f t (some (E.fill c s))) p := by
  have hdt : (E.fill c s).dt = E.dt := by
    cases e : E.dt.has c
    · exact (fill_no e s).2.2.1
    · exact (fill_yes e s).2.2.1
  refine ⟨fun i F hF he => ?_, fun i j v hs => ?_⟩
  · by_cases e : i = t
    · subst e; rw [upd_same] at hF; cases hF; rw [hdt] at he; exact h.pins i E hf he
    · rw [upd_other f _ e] at hF; exact h.pins i F hF he
  · obtain ⟨F, k, h1, h2, h3, h4, h5⟩ := h.has i j v hs
    by_cases e : i = t
    · subst e
      rw [hf] at h1; cases h1
      refine ⟨_, k, upd_same _ _ _, h2, ?_, by rw [hdt]; exact h4, ?_⟩
      · cases e2 : E.dt.has c
        · rw [(fill_no e2 s).1]
          exact with_keep _ h3 (Set4.has_lt h3)
        · rw [(fill_yes e2 s).1]; exact h3
      · cases e2 : E.dt.has c
        · rw [(fill_no e2 s).2.1, atB_other (fun e3 => by subst e3; rw [e2] at h4; cases h4)]; exact h5
        · rw [(fill_yes e2 s).2.1]; exact h5
    · exact ⟨F, k, by rw [upd_other f _ e]; exact h1, h2, h3, h4, h5⟩
def pSet (p : Int → Int → ByteArray → Prop) (t c : Int) (s : ByteArray) : Int → Int → ByteArray → Prop := fun i j v => if i = t ∧ j = c then v = s else p i j v
theorem Keep.put (h : Keep T f p) (hf : f t = some E) (hc : c < E.nb.length) (hc2 : c < 256) (ht : T.has t = true) : Keep (T.pinT t true) (upd f t (some (E.put c s))) (pSet p t c s) := by
  obtain ⟨p1, p2, p3, p4, p5⟩ := put_f E c s
  have hpin : (T.pinT t true).pins = addTo T.pins t := by unfold TS.pinT; rw [if_pos ht]; rfl
  refine ⟨fun i F hF he => ?_, fun i j v hs => ?_⟩
  · rw [hpin, addTo_has]
    by_cases e : i = t
    · subst e; simp
    · rw [upd_other f _ e] at hF; rw [h.pins i F hF he]; rfl
  · unfold pSet at hs
    by_cases e : i = t ∧ j = c
    · rw [if_pos e] at hs
      obtain ⟨rfl, rfl⟩ := e
      exact ⟨_, c, upd_same _ _ _, rfl, by rw [p1]; exact with_same _ hc2, by rw [p3]; exact with_same _ hc2, by rw [p2, atB_set hc]; exact hs.symm⟩
    · rw [if_neg e] at hs
      obtain ⟨F, k, h1, h2, h3, h4, h5⟩ := h.has i j v hs
      by_cases e2 : i = t
      · subst e2
        rw [hf] at h1; cases h1
        have hk : k ≠ c := fun e3 => e ⟨rfl, by rw [h2, e3]⟩
        exact ⟨_, k, upd_same _ _ _, h2, by rw [p1]; exact with_keep _ h3 (Set4.has_lt h3), by rw [p3]; exact with_keep _ h4 (Set4.has_lt h4), by rw [p2, atB_other hk]; exact h5⟩
      · exact ⟨F, k, by rw [upd_other f _ e2]; exact h1, h2, h3, h4, h5⟩
theorem Keep.done (h : Keep T f p) (hf : f t = some E) (ht : T.has t = true) : Keep (T.pinT t false) (upd f t (some E.done)) (fun i j v => i ≠ t ∧ p i j v) := by
  obtain ⟨q1, q2, q3, q4, q5⟩ := done_f E
  have hpin : (T.pinT t false).pins = T.pins.erase t := by rw [TS.pinT, if_pos ht]; rfl
  refine ⟨fun i F hF he => ?_, fun i j v hs => ?_⟩
  · by_cases e : i = t
    · subst e; rw [upd_same] at hF; cases hF; rw [q3] at he; cases he
    · rw [upd_other f _ e] at hF; rw [hpin]; exact erase_other (h.pins i F hF he) e
  · obtain ⟨F, k, h1, h2⟩ := h.has i j v hs.2
    exact ⟨F, k, by rw [upd_other f _ hs.1]; exact h1, h2⟩
theorem Keep.touched (h : Keep T f p) (b : Bool) (v : Int) : Keep (if b = true then T.touchT v else T) f p := by
  split
  · exact ⟨fun i E hE he => by rw [keepTouch]; exact h.pins i E hE he, h.has⟩
  · exact h
theorem Keep.get (h : Keep T f p) {j : Int} (hp : p t j s) : ∃ c : Nat, j = (c : Int) ∧ nowH f t c = true ∧ nowB f t c = s ∧ ∃ E, f t = some E ∧ E.nt.has c = true := by
  obtain ⟨E, c, h1, h2, h3, h4, h5⟩ := h.has t j s hp
  refine ⟨c, h2, ?_, ?_, E, h1, h3⟩
  · unfold nowH; rw [h1]; exact h3
  · unfold nowB; rw [h1]; show (if E.nt.has c = true then atB E.nb c else noB) = s; rw [if_pos h3]; exact h5
/-- A cache beside the law's map. -/
structure KB (B n nm data : Nat) (u w : World) (g mb : Nat) (C : CM) (T : TS) (L : List Int) (f : Int → Option Ent) (p : Int → Int → ByteArray → Prop) : Prop where
  at_ : CacheAt B n data w C T L f
  g : C.g = g
  b : Below B u w
  km : World.kmap w mb nm p
  off : ¬ C.foot f mb
  mB : B ≤ mb
theorem KB.step {m : Nat} (h : KB B n nm data u w g mb C T L f p) (hs : CStep C f C' f' w w') (ha : CacheAt B m data w' C' T' L' f') : KB B m nm data u w' g mb C' T' L' f' p :=
  ⟨ha, hs.g.trans h.g, hs.under h.at_ h.b, h.km.same (hs.block mb h.km.lt h.off), fun hf => (hs.foot mb hf).elim h.off (fun h2 => by have := h.km.lt; omega), h.mB⟩
theorem KB.below (h : KB B n nm data u w g mb C T L f p) (hb : Below w.heap.size w w') : KB B n nm data u w' g mb C T L f p := h.step (CStep.of_below C f hb) (h.at_.below hb)
theorem KB.mono {m : Nat} (h : KB B n nm data u w g mb C T L f p) (hm : n ≤ m) : KB B m nm data u w g mb C T L f p := ⟨h.at_.mono hm, h.g, h.b, h.km, h.off, h.mB⟩
theorem KB.imp (h : KB B n nm data u w g mb C T L f p) (hp : ∀ i j s, p i j s → p' i j s) : KB B n nm data u w g mb C T L f p' := ⟨h.at_, h.g, h.b, h.km.imp hp, h.off, h.mB⟩
theorem keepGrown {b : Nat} (h : CacheAt B n data w C T L f) (hg : w.grownBy w' (some b)) (hn : ¬ C.foot f b) : CacheAt B n data w' C T L f := by
  have keep : ∀ x, x < w.heap.size → C.foot f x → w'.heap[x]? = w.heap[x]? := fun x hx hf => hg.block x hx fun e => hn (Option.some.inj e ▸ hf)
  exact ⟨rowSame h.row (keep _ h.row.lt (.inl rfl)), turnKeep h.turn fun x hx => keep x (h.turn.lts x hx).2 (.inr (.inr (.inl hx))), h.good, h.map.same (keep _ h.map.lt (.inr (.inl rfl))), fun k E hE => (h.ent k E hE).same fun x hx => keep x ((h.ent k E hE).lts x hx).2 (.inr (.inr (.inr ⟨k, E, hE, hx⟩))),
    h.apart, h.off, h.gm, h.gM, h.mM, h.bg, h.bm, h.keys, h.d2, h.d30⟩
theorem KB.set {m : Nat} (h : KB B n nm data u w g mb C T L f p) (hg : w.grownBy w' (some mb)) (hs : World.kmap w' mb m p') : KB B n m data u w' g mb C T L f p' :=
  ⟨keepGrown h.at_ hg h.off, h.g, h.b.trans ⟨hg.os, hg.tape, hg.output, hg.size, fun k hk => hg.block k (Nat.lt_of_lt_of_le hk (Nat.le_trans h.at_.bg (Nat.le_of_lt h.at_.row.lt))) fun e => by have := Option.some.inj e; have := h.mB; omega⟩, hs, h.off, h.mB⟩
/-- .. while the map is gone through. -/
structure RB (B n nm data : Nat) (u w : World) (g mb r : Nat) (C : CM) (T : TS) (L : List Int) (f : Int → Option Ent) (p : Int → Int → ByteArray → Prop) (cnt : Nat) : Prop where
  at_ : CacheAt B n data w C T L f
  g : C.g = g
  b : Below B u w
  kr : World.kranges w mb r nm p cnt
  off : ¬ C.foot f mb
  mB : B ≤ mb
  offr : ¬ C.foot f r
  rB : B ≤ r
theorem RB.kb (h : RB B n nm data u w g mb r C T L f p cnt) : KB B n nm data u w g mb C T L f p := ⟨h.at_, h.g, h.b, h.kr.owns, h.off, h.mB⟩
theorem RB.step {m : Nat} (h : RB B n nm data u w g mb r C T L f p cnt) (hs : CStep C f C' f' w w') (ha : CacheAt B m data w' C' T' L' f') : RB B m nm data u w' g mb r C' T' L' f' p cnt :=
  ⟨ha, hs.g.trans h.g, hs.under h.at_ h.b, h.kr.same (hs.block mb h.kr.owns.lt h.off) (hs.block r h.kr.lt h.offr), fun hf => (hs.foot mb hf).elim h.off (fun h2 => by have := h.kr.owns.lt; omega), h.mB, fun hf => (hs.foot r hf).elim h.offr (fun h2 => by have := h.kr.lt; omega), h.rB⟩
theorem RB.below (h : RB B n nm data u w g mb r C T L f p cnt) (hb : Below w.heap.size w w') : RB B n nm data u w' g mb r C T L f p cnt := h.step (CStep.of_below C f hb) (h.at_.below hb)
theorem KB.range (h : KB B n nm data u w g mb C T L f p) (hr : World.kranges w' mb r nm p cnt) (hg : w.grownBy w' none) (e : r = w.heap.size) : RB B n nm data u w' g mb r C T L f p cnt := by
  subst e
  have hb : Below w.heap.size w w' := ⟨hg.os, hg.tape, hg.output, hg.size, fun k hk => hg.block k hk (by simp)⟩
  have h2 := h.below hb
  exact ⟨h2.at_, h2.g, h2.b, hr, h2.off, h2.mB, fun hf => by have := (h.at_.lts _ hf).2; omega, Nat.le_trans h.at_.bg (Nat.le_of_lt h.at_.row.lt)⟩
theorem RB.next {cnt' : Nat} (h : RB B n nm data u w g mb r C T L f p cnt) (hr : World.kranges w' mb r nm p cnt') (hg : w.grownBy w' (some r)) : RB B n nm data u w' g mb r C T L f p cnt' :=
  ⟨keepGrown h.at_ hg h.offr, h.g, h.b.trans ⟨hg.os, hg.tape, hg.output, hg.size, fun k hk => hg.block k (Nat.lt_of_lt_of_le hk (Nat.le_trans h.at_.bg (Nat.le_of_lt h.at_.row.lt))) fun e => by have := Option.some.inj e; have := h.rB; omega⟩, hr, h.off, h.mB, h.offr, h.rB⟩
theorem fillKB (h : KB B n nm data u w g mb C T L f p) (hcl : Keep T f p) (ht : 0 ≤ t) (ht2 : t < 64) (hc : c < data) (hs : s.size = 64) (hn : n < 80000) :
    Calls Tryd.prog 11 #[pt g, .int .i64 t, .int .i64 (c : Int), .string s] w fun e w' => ∃ v : Int, e = .returned (.int .i64 v) ∧ ∃ (C' : CM) (T' : TS) (L' : List Int) (f' : Int → Option Ent), KB B (n + 2) nm data u w' g mb C' T' L' f' p ∧ Keep T' f' p := by
  have hg := h.g
  subst hg
  cases hr : canOpen T f t with
  | true =>
    refine (Fill_gen t c s w h.at_ ht ht2 hc hs hr (by omega)).mono ?_
    rintro e w' ⟨rfl, w1, C1, E, T1, L1, f1, ho, hA, hS⟩
    exact ⟨_, rfl, C1, T1, L1, _, (h.step hS hA).mono (by omega), (hcl.opened ho).fill ho.here⟩
  | false =>
    refine (Fill_no t c s w h.at_ ht ht2 hc hs hr).mono ?_
    rintro e w' ⟨rfl, hb⟩
    exact ⟨_, rfl, C, T, L, f, (h.below hb).mono (by omega), hcl⟩
theorem putKB (h : KB B n nm data u w g mb C T L f p) (hcl : Keep T f p) (ht : 0 ≤ t) (ht2 : t < 64) (hc : c < data) (hs : s.size = 64) (hn : n < 80000) :
    Calls Tryd.prog 10 #[pt g, .int .i64 t, .int .i64 (c : Int), .string s] w fun e w' => ∃ b : Bool, e = .returned (.int .i64 (if b then 0 else 10)) ∧ ∃ (C' : CM) (T' : TS) (L' : List Int) (f' : Int → Option Ent), KB B (n + 2) nm data u w' g mb C' T' L' f' p ∧ Keep T' f' (if b then pSet p t c s else p) := by
  have hg := h.g
  subst hg
  cases hr : canOpen T f t with
  | true =>
    refine (Put_gen t c s w h.at_ ht ht2 hc hs hr (by omega)).mono ?_
    rintro e w' ⟨rfl, w1, C1, E, T1, L1, f1, C', ho, hA, hS⟩
    have ht1 : T1.has t = true := by rw [ho.at_.keys, ← ho.at_.map.some_, ho.here]; rfl
    have hE := ho.at_.ent t E ho.here
    exact ⟨true, rfl, C', _, L1, _, h.step hS hA, (hcl.opened ho).put ho.here (by rw [hE.l1]; exact hc) (by have := ho.at_.d30; omega) ht1⟩
  | false =>
    refine (Put_no t c s w h.at_ ht ht2 hc hs hr).mono ?_
    rintro e w' ⟨rfl, hb⟩
    exact ⟨false, rfl, C, T, L, f, (h.below hb).mono (by omega), hcl⟩
theorem doneKB (h : KB B n nm data u w g mb C T L f p) (hcl : Keep T f p) (ht : 0 ≤ t) (ht2 : t < 64) (hT : Tab w) (hn : n < 80000) :
    Calls Tryd.prog 12 #[pt g, .int .i64 t] w fun e w' => ∃ b : Bool, e = .returned (.bool b) ∧ ∃ (C' : CM) (T' : TS) (f' : Int → Option Ent), KB B (n + 2) nm data u w' g mb C' T' L f' p ∧ Keep T' f' (fun i j v => i ≠ t ∧ p i j v) := by
  have hg := h.g
  subst hg
  cases hf : f t with
  | none =>
    refine (Done_no t w h.at_ ⟨by omega, by omega⟩ hf).mono ?_
    rintro e w' ⟨rfl, rfl⟩
    exact ⟨_, rfl, C, T, f, h.mono (by omega), hcl.imp fun i j s hs => hs.2⟩
  | some E =>
    refine (Done_yes t w h.at_ ⟨by omega, by omega⟩ hf hT (by omega)).mono ?_
    rintro e w' ⟨rfl, C', hA, hS⟩
    have ht1 : T.has t = true := by rw [h.at_.keys, ← h.at_.map.some_, hf]; rfl
    exact ⟨_, rfl, C', _, _, (h.step hS hA).mono (by omega), hcl.done hf ht1⟩
theorem dropKB (h : KB B n nm data u w g mb C T L f p) (hcl : Keep T f p) (ht : 0 ≤ t) (ht2 : t < 64) :
    Calls Tryd.prog 15 #[pt g, .int .i64 t] w fun e w' => ∃ b : Bool, e = .returned (.bool b) ∧ ∃ (C' : CM) (T' : TS) (L' : List Int) (f' : Int → Option Ent), KB B n nm data u w' g mb C' T' L' f' p ∧ Keep T' f' p := by
  have hg := h.g
  subst hg
  cases hd : canDrop f t with
  | true =>
    refine (Drop_yes t w h.at_ ⟨by omega, by omega⟩ hd).mono ?_
    rintro e w' ⟨rfl, M', hA, hS⟩
    exact ⟨_, rfl, _, _, _, _, h.step hS hA, hcl.gone t fun E hE => by unfold canDrop at hd; rw [hE] at hd; exact hd⟩
  | false =>
    refine (Drop_no t w h.at_ ⟨by omega, by omega⟩ hd).mono ?_
    rintro e w' ⟨rfl, hb⟩
    exact ⟨_, rfl, C, T, L, f, h.below hb, hcl⟩
theorem getKB (h : KB B n nm data u w g mb C T L f p) (hcl : Keep T f p) (ht : 0 ≤ t) (ht2 : t < 64) (hc : c < data) :
    Calls Tryd.prog 14 #[pt g, .int .i64 t, .int .i64 (c : Int)] w fun e w' => ∃ (v : ByteArray) (b : Bool), e = .returned (.tuple #[.string v, .bool b]) ∧ ∃ (C' : CM) (T' : TS), KB B n nm data u w' g mb C' T' L f p ∧ Keep T' f p := by
  have hg := h.g
  subst hg
  refine (Get_any t c w h.at_ ⟨by omega, by omega⟩ hc).mono ?_
  rintro e w' ⟨rfl, M', hA, hS⟩
  exact ⟨_, _, rfl, _, _, h.step hS hA, hcl.touched _ t⟩
theorem getRB {j : Int} (h : RB B n nm data u w g mb r C T L f p cnt) (hcl : Keep T f p) (ht : In64 t) (hp : p t j s) :
    Calls Tryd.prog 14 #[pt g, .int .i64 t, .int .i64 j] w fun e w' => e = .returned (.tuple #[.string s, .bool true]) ∧ ∃ (C' : CM) (T' : TS), RB B n nm data u w' g mb r C' T' L f p cnt ∧ Keep T' f p := by
  have hg := h.g
  subst hg
  obtain ⟨c, rfl, h1, h2, E, hE, hnt⟩ := hcl.get hp
  refine (Get_any t c w h.at_ ht ((h.at_.ent t E hE).i1 c hnt)).mono ?_
  rintro e w' ⟨rfl, M', hA, hS⟩
  rw [h1, h2]
  exact ⟨rfl, _, _, h.step hS hA, hcl.touched _ t⟩
end Go.Proofs.YtijagdpkclghnaaDoor
