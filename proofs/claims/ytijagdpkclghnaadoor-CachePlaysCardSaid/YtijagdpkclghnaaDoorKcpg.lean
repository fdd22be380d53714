/- Several texts in one: CClean CCleanR CFul CKeep CKeepR KTab KCol KDirty KCac. -/
import Derived.Test.YtijagdpkclghnaaDoorKcpf
import Derived.Maps.RangeWalk
import Derived.Deep.CutBlock
/- CacheClean's first part: a cache in which nothing is dirty, and what is on: plain laws, contracts. -/
namespace Go.Proofs.YtijagdpkclghnaaDoor
open Go Go.RowKit
set_option maxRecDepth 100000
variable {B n data : Nat} {w w' : World} {C C' : CM} {T T' T0 : TS} {L L' : List Int} {f f' f0 : Int → Option Ent} {E : Ent} {i t : Int} {c : Nat} {s : ByteArray} {on : Int → Int → ByteArray}
/-- What a stripe has is what is on. -/
def Has (on : Int → Int → ByteArray) (i : Int) (E : Ent) : Prop := ∀ c : Nat, E.nt.has c = true → atB E.nb c = on i (c : Int)
structure Clean (T : TS) (f : Int → Option Ent) (on : Int → Int → ByteArray) : Prop where
  dt : ∀ i E, f i = some E → E.dt = Set4.zero
  pins : T.pins = []
  on : ∀ i E, f i = some E → Has on i E
theorem touch_pins (T : TS) (k : Int) : (T.touchT k).pins = T.pins := by
  unfold TS.touchT
  split
  · unfold TS.fallT
    split
    · rfl
    · split <;> rfl
  · rfl
theorem add_pins (T : TS) (k : Int) : (T.addT k).pins = T.pins := by
  unfold TS.addT
  split
  · rfl
  · split <;> rfl
theorem Clean.room (h : Clean T f on) (hr : RoomOf T f T0 f0) : Clean T0 f0 on := by
  rcases hr with ⟨_, rfl, rfl⟩ | ⟨_, v, _, rfl, rfl⟩
  · exact h
  · have gone : ∀ j F, upd f v none j = some F → f j = some F := fun j F hF => by
      by_cases e : j = v
      · subst e; rw [upd_same] at hF; cases hF
      · rw [upd_other f _ e] at hF; exact hF
    exact ⟨fun j F hF => h.dt j F (gone j F hF), by show T.pins.erase v = []; rw [h.pins]; rfl, fun j F hF => h.on j F (gone j F hF)⟩
theorem Clean.opened {w1 : World} {C1 : CM} {T1 : TS} {L1 : List Int} {f1 : Int → Option Ent} (h : Clean T f on) (ho : OpenedG B n data w C T f t w1 C1 E T1 L1 f1) : Clean T1 f1 on := by
  rcases ho.how with ⟨_, rfl, rfl⟩ | ⟨_, T0, f0, hr, _, _, _, rfl, rfl, z1, z2, z3, _⟩
  · exact ⟨h.dt, by rw [touch_pins]; exact h.pins, h.on⟩
  · have h0 := h.room hr
    refine ⟨fun j F hF => ?_, by rw [add_pins]; exact h0.pins, fun j F hF => ?_⟩
    · by_cases e : j = t
      · subst e; rw [upd_same] at hF; cases hF; exact z3
      · rw [upd_other f0 _ e] at hF; exact h0.dt j F hF
    · by_cases e : j = t
      · subst e; rw [upd_same] at hF; cases hF
        intro c hc; rw [z1, Set4.has_zero] at hc; cases hc
      · rw [upd_other f0 _ e] at hF; exact h0.on j F hF
theorem Clean.canOpen (h : Clean T f on) (hg : Good T) (i : Int) : canOpen T f i = true := by
  unfold Go.Proofs.YtijagdpkclghnaaDoor.canOpen
  cases hf : T.full with
  | false => simp
  | true =>
    have hl : T.most ≤ T.plain.length + T.dear.length := by simpa [TS.full] using hf
    have hm := hg.m1
    have hv : T.victim.isSome = true := by
      unfold TS.victim
      cases hk : T.keys with
      | nil =>
        have : T.keys.length = T.plain.length + T.dear.length := by unfold TS.keys; exact List.length_append
        rw [hk] at this
        simp at this
        omega
      | cons x xs => rw [h.pins]; simp
    rw [hv]; simp
def onSet (on : Int → Int → ByteArray) (t c : Int) (s : ByteArray) : Int → Int → ByteArray := fun i j => if i = t ∧ j = c then s else on i j
theorem Has.put (h : Has on t E) (hc : c < 256) (hl : c < E.nb.length) {F : Ent} (h1 : F.nt = E.nt.with' c) (h2 : F.nb = E.nb.set c s) : Has (onSet on t c s) t F := by
  intro j hj
  rw [h1] at hj
  rw [h2]
  unfold onSet
  by_cases e : j = c
  · subst e; rw [if_pos ⟨rfl, rfl⟩]; exact atB_set hl s
  · rw [if_neg (by rintro ⟨_, e2⟩; exact e (by omega))]
    rcases Set4.with_has _ _ _ hj with e2 | hj
    · exact absurd e2 e
    · rw [← h j hj]
      unfold atB
      simp [List.getD, List.getElem?_set_ne (Ne.symm e)]
theorem Has.set (h : Has on i E) (hi : i ≠ t) : Has (onSet on t c s) i E := by
  intro j hj
  unfold onSet
  rw [if_neg (by rintro ⟨e, _⟩; exact hi e)]
  exact h j hj
theorem Clean.fill (h : Clean T f on) (hf : f t = some E) (hE : EntAt B data w E) (hc : c < data) (hd : data ≤ 30) : Clean T (upd f t (some (E.fill c s))) (onSet on t c s) := by
  have hdt : E.dt.has c = false := by rw [h.dt t E hf, Set4.has_zero]
  obtain ⟨p1, p2, p3, p4, p5⟩ := fill_no hdt s
  refine ⟨fun j F hF => ?_, h.pins, fun j F hF => ?_⟩
  · by_cases e : j = t
    · subst e; rw [upd_same] at hF; cases hF; rw [p3]; exact h.dt j E hf
    · rw [upd_other f _ e] at hF; exact h.dt j F hF
  · by_cases e : j = t
    · subst e; rw [upd_same] at hF; cases hF
      exact (h.on j E hf).put (by omega) (by rw [hE.l1]; exact hc) p1 p2
    · rw [upd_other f _ e] at hF; exact (h.on j F hF).set e
theorem Clean.done (h : Clean T f on) (hf : f t = some E) (hE : EntAt B data w E) (hc : c < data) (hd : data ≤ 30) (ht : T.has t = true) : Clean ((T.pinT t true).pinT t false) (upd f t (some (E.put c s).done)) (onSet on t c s) := by
  obtain ⟨p1, p2, p3, p4, p5⟩ := put_f E c s
  obtain ⟨q1, q2, q3, q4, q5⟩ := done_f (E.put c s)
  have hl := doneF_same (E.put c s) (E.put c s).nt.list
  refine ⟨fun j F hF => ?_, ?_, fun j F hF => ?_⟩
  · by_cases e : j = t
    · subst e; rw [upd_same] at hF; cases hF; exact q3
    · rw [upd_other f _ e] at hF; exact h.dt j F hF
  · have h1 : (T.pinT t true).pins = addTo T.pins t := by unfold TS.pinT; rw [if_pos ht]; rfl
    have h2 : ((T.pinT t true).pinT t false).pins = (T.pinT t true).pins.erase t := by
      have ht2 : (T.pinT t true).has t = true := by rw [pin_has]; exact ht
      rw [TS.pinT, if_pos ht2]; rfl
    rw [h2, h1, h.pins]
    unfold addTo
    simp
  · by_cases e : j = t
    · subst e; rw [upd_same] at hF; cases hF
      exact (h.on j E hf).put (by omega) (by rw [hE.l1]; exact hc) (by rw [q1, hl.nt, p1]) (by rw [q2, hl.nb, p2])
    · rw [upd_other f _ e] at hF; exact (h.on j F hF).set e
theorem Clean.drop (h : Clean T f on) (v : Int) : Clean (T.dropT v) (upd f v none) on := by
  have gone : ∀ j F, upd f v none j = some F → f j = some F := fun j F hF => by
    by_cases e : j = v
    · subst e; rw [upd_same] at hF; cases hF
    · rw [upd_other f _ e] at hF; exact hF
  exact ⟨fun j F hF => h.dt j F (gone j F hF), by show T.pins.erase v = []; rw [h.pins]; rfl, fun j F hF => h.on j F (gone j F hF)⟩
theorem Clean.touched (h : Clean T f on) (b : Bool) (v : Int) : Clean (if b = true then T.touchT v else T) f on := by
  split
  · exact ⟨h.dt, by rw [touch_pins]; exact h.pins, h.on⟩
  · exact h
theorem Clean.get (h : Clean T f on) : nowH f t c = true → nowB f t c = on t (c : Int) := by
  unfold nowH nowB
  cases hf : f t with
  | none => intro h2; cases h2
  | some E =>
    intro h2
    have h2 : E.nt.has c = true := h2
    show (if E.nt.has c = true then atB E.nb c else noB) = _
    rw [if_pos h2]
    exact h.on t E hf c h2
theorem open_most {w1 : World} {C1 : CM} {T1 : TS} {L1 : List Int} {f1 : Int → Option Ent} (ho : OpenedG B n data w C T f t w1 C1 E T1 L1 f1) : T1.most = T.most := by
  have h1 : ∀ (T : TS) k, (T.touchT k).most = T.most := fun T k => by
    unfold TS.touchT
    split
    · unfold TS.fallT
      split
      · rfl
      · split <;> rfl
    · rfl
  have h2 : ∀ (T : TS) k, (T.addT k).most = T.most := fun T k => by
    unfold TS.addT
    split
    · rfl
    · split <;> rfl
  rcases ho.how with ⟨_, rfl, rfl⟩ | ⟨_, T0, f0, hr, _, _, _, rfl, rfl, _⟩
  · exact h1 T t
  · rw [h2]
    rcases hr with ⟨_, rfl, rfl⟩ | ⟨_, v, _, rfl, rfl⟩
    · rfl
    · rfl
theorem pin_most (T : TS) (k : Int) (b : Bool) : (T.pinT k b).most = T.most := by unfold TS.pinT; split <;> rfl
end Go.Proofs.YtijagdpkclghnaaDoor
/- CacheClean's first part: contracts over a cache in which nothing is dirty, beside a map of the law's. -/
namespace Go.Proofs.YtijagdpkclghnaaDoor
open Go Go.RowKit
set_option maxRecDepth 100000
variable {B n nm data g mb : Nat} {u w w' : World} {C C' : CM} {T T' T0 : TS} {L L' : List Int} {f f' f0 : Int → Option Ent} {E : Ent} {i t : Int} {c : Nat} {s : ByteArray} {on os : Int → Int → ByteArray}
/-- A cache beside the law's map. -/
structure CB (B n nm data : Nat) (u w : World) (g mb : Nat) (C : CM) (T : TS) (L : List Int) (f : Int → Option Ent) (os : Int → Int → ByteArray) : Prop where
  at_ : CacheAt B n data w C T L f
  g : C.g = g
  b : Below B u w
  sm : World.smap w mb nm os
  off : ¬ C.foot f mb
  mB : B ≤ mb
theorem CB.step {m : Nat} (h : CB B n nm data u w g mb C T L f os) (hs : CStep C f C' f' w w') (ha : CacheAt B m data w' C' T' L' f') : CB B m nm data u w' g mb C' T' L' f' os :=
  ⟨ha, hs.g.trans h.g, hs.under h.at_ h.b, h.sm.same (hs.block mb h.sm.lt h.off), fun hf => (hs.foot mb hf).elim h.off (fun h2 => by have := h.sm.lt; omega), h.mB⟩
theorem CB.below (h : CB B n nm data u w g mb C T L f os) (hb : Below w.heap.size w w') : CB B n nm data u w' g mb C T L f os := h.step (CStep.of_below C f hb) (h.at_.below hb)
theorem CB.mono {m : Nat} (h : CB B n nm data u w g mb C T L f os) (hm : n ≤ m) : CB B m nm data u w g mb C T L f os := ⟨h.at_.mono hm, h.g, h.b, h.sm, h.off, h.mB⟩
theorem CacheAt.grown {b : Nat} (h : CacheAt B n data w C T L f) (hg : w.grownBy w' (some b)) (hn : ¬ C.foot f b) : CacheAt B n data w' C T L f := by
  have keep : ∀ x, x < w.heap.size → C.foot f x → w'.heap[x]? = w.heap[x]? := fun x hx hf => hg.block x hx fun e => hn (Option.some.inj e ▸ hf)
  exact ⟨rowSame h.row (keep _ h.row.lt (.inl rfl)), turnKeep h.turn fun x hx => keep x (h.turn.lts x hx).2 (.inr (.inr (.inl hx))), h.good, h.map.same (keep _ h.map.lt (.inr (.inl rfl))), fun k E hE => (h.ent k E hE).same fun x hx => keep x ((h.ent k E hE).lts x hx).2 (.inr (.inr (.inr ⟨k, E, hE, hx⟩))),
    h.apart, h.off, h.gm, h.gM, h.mM, h.bg, h.bm, h.keys, h.d2, h.d30⟩
theorem CB.set {m : Nat} {os' : Int → Int → ByteArray} (h : CB B n nm data u w g mb C T L f os) (hg : w.grownBy w' (some mb)) (hs : World.smap w' mb m os') : CB B n m data u w' g mb C T L f os' :=
  ⟨h.at_.grown hg h.off, h.g, h.b.trans ⟨hg.os, hg.tape, hg.output, hg.size, fun k hk => hg.block k (Nat.lt_of_lt_of_le hk (Nat.le_trans h.at_.bg (Nat.le_of_lt h.at_.row.lt))) fun e => by have := Option.some.inj e; have := h.mB; omega⟩, hs, h.off, h.mB⟩
theorem touch_most (T : TS) (k : Int) : (T.touchT k).most = T.most := by
  unfold TS.touchT
  split
  · unfold TS.fallT
    split
    · rfl
    · split <;> rfl
  · rfl
theorem fillCB (h : CB B n nm data u w g mb C T L f os) (hcl : Clean T f on) (ht : 0 ≤ t) (ht2 : t < 64) (hc : c < data) (hs : s.size = 64) (hn : n < 80000) :
    Calls Tryd.prog 11 #[pt g, .int .i64 t, .int .i64 (c : Int), .string s] w fun e w' => e = .returned (.int .i64 0) ∧ ∃ (C' : CM) (T' : TS) (L' : List Int) (f' : Int → Option Ent), CB B (n + 1) nm data u w' g mb C' T' L' f' os ∧ Clean T' f' (onSet on t c s) ∧ T'.most = T.most := by
  have hg := h.g
  subst hg
  refine (Fill_gen t c s w h.at_ ht ht2 hc hs (hcl.canOpen h.at_.good t) (by omega)).mono ?_
  rintro e w' ⟨rfl, w1, C1, E, T1, L1, f1, ho, hA, hS⟩
  exact ⟨rfl, C1, T1, L1, _, h.step hS hA, (hcl.opened ho).fill ho.here (ho.at_.ent t E ho.here) hc ho.at_.d30, open_most ho⟩
theorem putCB (h : CB B n nm data u w g mb C T L f os) (hcl : Clean T f on) (ht : 0 ≤ t) (ht2 : t < 64) (hc : c < data) (hs : s.size = 64) (hn : n < 80000) :
    Calls Tryd.prog 10 #[pt g, .int .i64 t, .int .i64 (c : Int), .string s] w fun e w' => e = .returned (.int .i64 0) ∧ ∃ (C' : CM) (T1 : TS) (L' : List Int) (f1 : Int → Option Ent) (E : Ent), CB B (n + 2) nm data u w' g mb C' (T1.pinT t true) L' (upd f1 t (some (E.put c s))) os ∧ Clean ((T1.pinT t true).pinT t false) (upd f1 t (some (E.put c s).done)) (onSet on t c s) ∧ T1.most = T.most := by
  have hg := h.g
  subst hg
  refine (Put_gen t c s w h.at_ ht ht2 hc hs (hcl.canOpen h.at_.good t) (by omega)).mono ?_
  rintro e w' ⟨rfl, w1, C1, E, T1, L1, f1, C', ho, hA, hS⟩
  have ht1 : T1.has t = true := by rw [ho.at_.keys, ← ho.at_.map.some_, ho.here]; rfl
  exact ⟨rfl, C', T1, L1, f1, E, h.step hS hA, (hcl.opened ho).done ho.here (ho.at_.ent t E ho.here) hc ho.at_.d30 ht1, open_most ho⟩
theorem doneCB (h : CB B n nm data u w g mb C (T.pinT t true) L (upd f t (some (E.put c s))) os) (hcl : Clean ((T.pinT t true).pinT t false) (upd f t (some (E.put c s).done)) on) (ht : 0 ≤ t) (ht2 : t < 64) (hT : Tab w) (hn : n < 80000) :
    Calls Tryd.prog 12 #[pt g, .int .i64 t] w fun e w' => e = .returned (.bool true) ∧ ∃ (C' : CM) (T' : TS) (f' : Int → Option Ent), CB B (n + 1) nm data u w' g mb C' T' L f' os ∧ Clean T' f' on ∧ T'.most = T.most := by
  have hg := h.g
  subst hg
  refine (Done_yes t w h.at_ ⟨by omega, by omega⟩ (upd_same _ _ _) hT (by omega)).mono ?_
  rintro e w' ⟨rfl, C', hA, hS⟩
  rw [upd_upd] at hA hS
  exact ⟨rfl, C', _, _, h.step hS hA, hcl, by rw [pin_most, pin_most]⟩
theorem dropCB (h : CB B n nm data u w g mb C T L f os) (hcl : Clean T f on) (ht : 0 ≤ t) (ht2 : t < 64) :
    Calls Tryd.prog 15 #[pt g, .int .i64 t] w fun e w' => ∃ (b : Bool), e = .returned (.bool b) ∧ ∃ (C' : CM) (T' : TS) (L' : List Int) (f' : Int → Option Ent), CB B n nm data u w' g mb C' T' L' f' os ∧ Clean T' f' on ∧ T'.most = T.most := by
  have hg := h.g
  subst hg
  cases hd : canDrop f t with
  | true =>
    refine (Drop_yes t w h.at_ ⟨by omega, by omega⟩ hd).mono ?_
    rintro e w' ⟨rfl, M', hA, hS⟩
    exact ⟨_, rfl, _, _, _, _, h.step hS hA, hcl.drop t, rfl⟩
  | false =>
    refine (Drop_no t w h.at_ ⟨by omega, by omega⟩ hd).mono ?_
    rintro e w' ⟨rfl, hb⟩
    exact ⟨_, rfl, C, T, L, f, h.below hb, hcl, rfl⟩
theorem getCB (h : CB B n nm data u w g mb C T L f os) (hcl : Clean T f on) (ht : 0 ≤ t) (ht2 : t < 64) (hc : c < data) :
    Calls Tryd.prog 14 #[pt g, .int .i64 t, .int .i64 (c : Int)] w fun e w' => ∃ (v : ByteArray) (b : Bool), e = .returned (.tuple #[.string v, .bool b]) ∧ (b = true → v = on t (c : Int)) ∧ ∃ (C' : CM) (T' : TS), CB B n nm data u w' g mb C' T' L f os ∧ Clean T' f on ∧ T'.most = T.most := by
  have hg := h.g
  subst hg
  refine (Get_any t c w h.at_ ⟨by omega, by omega⟩ hc).mono ?_
  rintro e w' ⟨rfl, M', hA, hS⟩
  exact ⟨_, _, rfl, hcl.get, _, _, h.step hS hA, hcl.touched _ t, by split <;> first | exact touch_most T t | rfl⟩
end Go.Proofs.YtijagdpkclghnaaDoor
/- CacheClean's second part: a cache that fills with dirty stripes: plain laws, contracts. -/
namespace Go.Proofs.YtijagdpkclghnaaDoor
open Go Go.RowKit
set_option maxRecDepth 100000
variable {B n nm data g mb : Nat} {u w w' : World} {C C' : CM} {T T' T0 : TS} {L L' : List Int} {f f' f0 : Int → Option Ent} {E : Ent} {i t : Int} {c : Nat} {s : ByteArray} {on os : Int → Int → ByteArray}
theorem pmap_len {P : Program} {t k e ty : TypeId} {b : Nat} {g : Int → Option Nat} (ht : P.underlying t = some (.map k e)) (h : w.pmap P k b n L g) : (Builtin.len_ #[t] ty #[.map (some b)]).run P w = .ok (.int .i64 (L.length : Int)) w := by
  obtain ⟨D, hown, hP⟩ := h
  rw [← hP.size]
  exact hown.len ht ty
theorem CLen_any (w : World) (h : CacheAt B n data w C T L f) (hn : n ≤ 90000) :
    Calls Tryd.prog 16 #[pt C.g] w fun e w' => e = .returned (.tuple #[.int .i64 (L.length : Int), .int .i64 (((rising L).filter (dirtyOf f)).length : Int)]) ∧ Below w.heap.size w w' := by
  obtain ⟨c0, c1, c2⟩ := h.three
  have HC := Lib.hid (Dirty_any w h hn)
  have hlen := fun ty => pmap_len (ty := ty) Tryd.underlying54 h.map
  obtain ⟨m, hm⟩ : ∃ m, m = ((rising L).filter (dirtyOf f)).length := ⟨_, rfl⟩
  rw [← hm]
  have HM := Lib.hid hm
  clear h hm
  go_enter Tryd.func16, Tryd.ntmps16
  go_wp2_with fail
  refine HC.out.mono ?_
  rintro e w1 ⟨⟨v, rfl, hv⟩, b1⟩
  obtain ⟨a1, k1, rfl⟩ := irow_shape hv
  rw [← HM.out]
  have HB := Lib.hid b1
  clear b1 hv c0 c1 c2 hlen
  go_wp2_with fail
  go_ret2
  exact ⟨rfl, HB.out⟩
/-- The stripes below t are dirty, and pinned, and no others. -/
structure Ful (T : TS) (f : Int → Option Ent) (t : Int) : Prop where
  all : ∀ i, 0 ≤ i → i < t → ∃ E, f i = some E ∧ E.dt.empty = false
  oth : ∀ i E, f i = some E → ¬ (0 ≤ i ∧ i < t) → E.dt.empty = true
  pins : ∀ i, T.pins.contains i = true ↔ (0 ≤ i ∧ i < t)
theorem Clean.ful (h : Clean T f on) : Ful T f 0 :=
  ⟨fun i h1 h2 => by omega, fun i E hE _ => by rw [h.dt i E hE]; rfl, fun i => ⟨fun e => (by rw [h.pins] at e; simp at e), fun e => (by omega)⟩⟩
theorem put_dirty (E : Ent) {c : Nat} (hc : c < 256) (s : ByteArray) : (E.put c s).dt.empty = false := by
  obtain ⟨_, _, p3, _, _⟩ := put_f E c s
  rw [p3]
  cases e : (E.dt.with' c).empty
  · rfl
  · have h1 := with_same E.dt hc
    rw [(Set4.empty_iff _).1 e, Set4.has_zero] at h1
    cases h1
theorem Ful.opened {w1 : World} {C1 : CM} {T1 : TS} {L1 : List Int} {f1 : Int → Option Ent} (h : Ful T f t) (ht : 0 ≤ t) (ho : OpenedG B n data w C T f t w1 C1 E T1 L1 f1) (hc : c < 256) : Ful (T1.pinT t true) (upd f1 t (some (E.put c s))) (t + 1) := by
  have ht1 : T1.has t = true := by rw [ho.at_.keys, ← ho.at_.map.some_, ho.here]; rfl
  have hpin : (T1.pinT t true).pins = addTo T1.pins t := by unfold TS.pinT; rw [if_pos ht1]; rfl
  -- what the open leaves
  have key : (∀ i, i ≠ t → 0 ≤ i → i < t → f1 i = f i) ∧ (∀ i E, i ≠ t → f1 i = some E → f i = some E) ∧ (∀ i, T1.pins.contains i = T.pins.contains i) := by
    rcases ho.how with ⟨_, rfl, rfl⟩ | ⟨_, T0, f0, hr, _, _, _, rfl, rfl, _⟩
    · exact ⟨fun _ _ _ _ => rfl, fun _ _ _ h => h, fun i => by rw [touch_pins]⟩
    · rcases hr with ⟨_, rfl, rfl⟩ | ⟨_, v, hv, rfl, rfl⟩
      · exact ⟨fun i hi _ _ => upd_other _ _ hi, fun i F hi hF => by rw [upd_other _ _ hi] at hF; exact hF, fun i => by rw [add_pins]⟩
      · have hvp := (victim_in hv).2
        have hnp : ¬ (0 ≤ v ∧ v < t) := fun e => by rw [(h.pins v).2 e] at hvp; cases hvp
        refine ⟨fun i hi h0 h1 => ?_, fun i F hi hF => ?_, fun i => ?_⟩
        · rw [upd_other _ _ hi, upd_other f _ (fun e => hnp (by omega))]
        · rw [upd_other _ _ hi] at hF
          by_cases e : i = v
          · subst e; rw [upd_same] at hF; cases hF
          · rw [upd_other f _ e] at hF; exact hF
        · rw [add_pins]
          show (T.pins.erase v).contains i = _
          rw [List.erase_of_not_mem (by simpa using hvp)]
  obtain ⟨k1, k2, k3⟩ := key
  refine ⟨fun i h0 h1 => ?_, fun i F hF hn => ?_, fun i => ?_⟩
  · by_cases e : i = t
    · subst e; exact ⟨_, upd_same _ _ _, put_dirty E hc s⟩
    · obtain ⟨F, hF, hd⟩ := h.all i h0 (by omega)
      exact ⟨F, by rw [upd_other f1 _ e, k1 i e h0 (by omega)]; exact hF, hd⟩
  · have e : i ≠ t := fun e => hn (by omega)
    rw [upd_other f1 _ e] at hF
    exact h.oth i F (k2 i F e hF) (fun e2 => hn (by omega))
  · rw [hpin, addTo_has, k3]
    have hp := h.pins i
    by_cases e : t = i
    · subst e; simp; omega
    · rw [show (t == i) = false from beq_eq_false_iff_ne.2 e, Bool.or_false, hp]
      omega
theorem nodup_le {l l' : List Int} (hn : l.Nodup) (h : ∀ x ∈ l, x ∈ l') : l.length ≤ l'.length := by
  induction l generalizing l' with
  | nil => simp
  | cons a l ih =>
    have ha := h a (List.mem_cons_self ..)
    have h2 := ih (List.nodup_cons.1 hn).2 (l' := l'.erase a) fun x hx => by
      have hne : x ≠ a := fun e => (List.nodup_cons.1 hn).1 (e ▸ hx)
      exact (List.mem_erase_of_ne hne).2 (h x (List.mem_cons_of_mem _ hx))
    have h3 := erase_len ha
    simp only [List.length_cons]
    omega
def upto (t : Nat) : List Int := (List.range t).map fun k : Nat => (k : Int)
theorem upto_nodup (t : Nat) : (upto t).Nodup := by
  unfold upto
  exact List.pairwise_map.2 (List.nodup_range.imp fun h e => h (by omega))
theorem upto_mem {t : Nat} {x : Int} : x ∈ upto t ↔ 0 ≤ x ∧ x < t := by
  unfold upto
  simp only [List.mem_map, List.mem_range]
  constructor
  · rintro ⟨k, hk, rfl⟩; omega
  · intro h; exact ⟨x.toNat, by omega, by omega⟩
theorem Ful.keys {t : Nat} (h : Ful T f (t : Int)) (hA : CacheAt B n data w C T L f) : t ≤ L.length ∧ L.length ≤ T.most := by
  have hsub : ∀ x ∈ upto t, x ∈ L := fun x hx => by
    obtain ⟨h0, h1⟩ := upto_mem.1 hx
    obtain ⟨E, hE, _⟩ := h.all x h0 h1
    have := hA.map.some_ x
    rw [hE] at this
    simpa using this.symm
  have h1 := nodup_le (upto_nodup t) hsub
  have h2 : L.length ≤ (T.plain ++ T.dear).length := nodup_le hA.map.nodup fun x hx => (has_iff T x).1 (by rw [hA.keys]; simpa using hx)
  have h3 := hA.good.len
  rw [List.length_append] at h2
  have : (upto t).length = t := by simp [upto]
  omega
/-- Where there is no place any more, all is full of dirty stripes. -/
theorem Ful.full {t : Nat} (h : Ful T f (t : Int)) (hA : CacheAt B n data w C T L f) (hno : canOpen T f (t : Int) = false) : L.length = T.most ∧ t = T.most ∧ ((rising L).filter (dirtyOf f)).length = T.most := by
  unfold canOpen at hno
  obtain ⟨hf, hr2⟩ := Bool.or_eq_false_iff.1 hno
  obtain ⟨hfull, hv⟩ := Bool.or_eq_false_iff.1 hr2
  have hv : T.victim = none := by simpa using hv
  have hfull : T.full = true := by simpa using hfull
  have hl : T.most ≤ T.plain.length + T.dear.length := by simpa [TS.full] using hfull
  have hpin : ∀ x ∈ T.plain ++ T.dear, 0 ≤ x ∧ x < (t : Int) := fun x hx => by
    unfold TS.victim at hv
    have := List.find?_eq_none.1 hv x hx
    exact (h.pins x).1 (by simpa using this)
  have hk := h.keys hA
  have h1 : (T.plain ++ T.dear).length ≤ (upto t).length := nodup_le hA.good.nodup fun x hx => upto_mem.2 (hpin x hx)
  have h2 : (upto t).length = t := by simp [upto]
  rw [List.length_append] at h1
  have hall : ∀ x ∈ rising L, dirtyOf f x = true := fun x hx => by
    have hxL := (rising_perm L).mem_iff.1 hx
    have hx2 := hpin x ((has_iff T x).1 (by rw [hA.keys]; simpa using hxL))
    obtain ⟨E, hE, hd⟩ := h.all x hx2.1 hx2.2
    unfold dirtyOf
    rw [hE]
    simp [hd]
  rw [List.filter_eq_self.2 hall, rising_len]
  omega
/-- A cache that fills. -/
structure CF (B n data : Nat) (u w : World) (g most : Nat) (C : CM) (T : TS) (L : List Int) (f : Int → Option Ent) (t : Nat) : Prop where
  at_ : CacheAt B n data w C T L f
  g : C.g = g
  b : Below B u w
  ful : Ful T f (t : Int)
  most : T.most = most
theorem putCF {most t : Nat} (h : CF B n data u w g most C T L f t) (ht : t < 64) (hs : s.size = 64) (hn : n < 80000) :
    Calls Tryd.prog 10 #[pt g, .int .i64 (t : Int), .int .i64 0, .string s] w fun e w' =>
      (canOpen T f (t : Int) = true ∧ e = .returned (.int .i64 0) ∧ ∃ (C' : CM) (T' : TS) (L' : List Int) (f' : Int → Option Ent), CF B (n + 2) data u w' g most C' T' L' f' (t + 1)) ∨
      (canOpen T f (t : Int) = false ∧ e = .returned (.int .i64 10) ∧ CF B n data u w' g most C T L f t) := by
  have hg := h.g
  subst hg
  have hd := h.at_.d2
  cases hc : canOpen T f (t : Int) with
  | true =>
    refine (Put_gen (t : Int) 0 s w h.at_ (by omega) (by omega) (by omega) hs hc (by omega)).mono ?_
    rintro e w' ⟨rfl, w1, C1, E, T1, L1, f1, C', ho, hA, hS⟩
    exact .inl ⟨rfl, rfl, C', _, L1, _, hA, hS.g, hS.under h.at_ h.b, by have := h.ful.opened (c := 0) (s := s) (by omega) ho (by decide); exact this, by rw [pin_most, open_most ho]; exact h.most⟩
  | false =>
    refine (Put_no (t : Int) 0 s w h.at_ (by omega) (by omega) (by omega) hs hc).mono ?_
    rintro e w' ⟨rfl, hb⟩
    exact .inr ⟨rfl, rfl, h.at_.below hb, rfl, h.b.trans (hb.mono (Nat.le_trans h.at_.bg (Nat.le_of_lt h.at_.row.lt))), h.ful, h.most⟩
theorem lenCF {most t : Nat} (h : CF B n data u w g most C T L f t) (hno : canOpen T f (t : Int) = false) (hn : n < 80000) :
    Calls Tryd.prog 16 #[pt g] w fun e w' => e = .returned (.tuple #[.int .i64 (most : Int), .int .i64 (most : Int)]) ∧ Below w.heap.size w w' ∧ t = most := by
  have hg := h.g
  subst hg
  obtain ⟨h1, h2, h3⟩ := h.ful.full h.at_ hno
  refine (CLen_any w h.at_ (by omega)).mono ?_
  rintro e w' ⟨rfl, hb⟩
  rw [h1, h3, h.most]
  exact ⟨rfl, hb, by rw [h2, h.most]⟩
end Go.Proofs.YtijagdpkclghnaaDoor
/- CacheKeeps: a map from pairs to strings as a relation; a range over it; delete. -/
namespace Go.Proofs.YtijagdpkclghnaaDoor
open Go Go.RowKit Go.Maps
set_option maxRecDepth 100000
structure KM (D : DataW Unit) (p : Int → Int → ByteArray → Prop) : Prop where
  m : Maps.IsMap D
  at_ : ∀ i j s, In64 i → In64 j → (∀ zd, D.atKey (kl i j) zd = .lit (.string s.data.toList)) → p i j s
noncomputable abbrev rEl : Value → Option (DataW Unit × List MemPlace) := plainElem Tryd.prog 9
def World.kmap (w : World) (b n : Nat) (p : Int → Int → ByteArray → Prop) : Prop := ∃ D : DataW Unit, w.ownsMap Tryd.prog tK rEl b n D ∧ KM D p
def World.kranges (w : World) (b r n : Nat) (p : Int → Int → ByteArray → Prop) (cnt : Nat) : Prop := ∃ (D : DataW Unit) (left : Lit → Bool), w.ranges Tryd.prog tK rEl b r n D left cnt ∧ KM D p
variable {w w' : World} {b r n cnt : Nat} {p p' : Int → Int → ByteArray → Prop}
theorem World.kmap.lt (h : World.kmap w b n p) : b < w.heap.size := by obtain ⟨D, h1, _⟩ := h; exact h1.lt
theorem World.kmap.same (h : World.kmap w b n p) (hb : w'.heap[b]? = w.heap[b]?) : World.kmap w' b n p := by
  obtain ⟨D, ⟨es, clock, h1, h2⟩, h3⟩ := h
  exact ⟨D, ⟨es, clock, hb.trans h1, h2⟩, h3⟩
theorem World.kmap.imp (h : World.kmap w b n p) (hp : ∀ i j s, p i j s → p' i j s) : World.kmap w b n p' := by
  obtain ⟨D, h1, h2⟩ := h
  exact ⟨D, h1, h2.m, fun i j s hi hj hs => hp i j s (h2.at_ i j s hi hj hs)⟩
theorem World.kmap_made (w : World) : World.kmap (w.alloc (.map #[] 0)) w.heap.size 0 (fun _ _ _ => False) := ⟨_, World.ownsMap_made _ _ _ _, Maps.isMap_empty, fun i j s _ _ h => by
  have h1 := h (.lit (.bool true))
  have h2 : (DataW.map [] : DataW Unit).atKey (kl i j) (.lit (.bool true)) = .lit (.bool true) := rfl
  rw [h2] at h1
  cases h1⟩
theorem World.kranges.owns (h : World.kranges w b r n p cnt) : World.kmap w b n p := by
  obtain ⟨D, left, h1, h2⟩ := h
  exact ⟨D, h1.owns, h2⟩
theorem World.kranges.left_eq (h : World.kranges w b r n p cnt) : w.rangeLeft b r = cnt := by
  obtain ⟨D, left, h1, h2⟩ := h
  exact h1.left_eq
theorem World.kranges.lt (h : World.kranges w b r n p cnt) : r < w.heap.size := by
  obtain ⟨D, left, h1, h2⟩ := h
  exact h1.lt
theorem World.kranges.same (h : World.kranges w b r n p cnt) (hb : w'.heap[b]? = w.heap[b]?) (hr : w'.heap[r]? = w.heap[r]?) : World.kranges w' b r n p cnt := by
  obtain ⟨D, left, ⟨es, clock, since, seen, c0, h1, h2, h3, h4, h5, h6⟩, hk⟩ := h
  exact ⟨D, left, ⟨es, clock, since, seen, c0, hb.trans h1, h2, h3, h4, hr.trans h5, h6⟩, hk⟩
theorem keyLits_int {d : Nat} {cs : List Value} {ls : List Lit} (h : Tryd.prog.keyLits (d + 1) 3 cs = some ls) : ∃ x, cs = [.int .i64 x] ∧ In64 x := by
  unfold Program.keyLits at h
  rw [Tryd.underlying3] at h
  match cs, h with
  | [], h => simp at h
  | v :: u :: r, h => cases v <;> simp at h
  | [v], h =>
    cases v <;> simp at h
    rename_i q x
    obtain ⟨⟨rfl, hw⟩, _⟩ := h
    exact ⟨x, rfl, in64_of hw⟩
theorem mapM2 {f : Nat → Option (List Lit)} {z : List (List Lit)} (h : [0, 1].mapM f = some z) : ∃ x y, f 0 = some x ∧ f 1 = some y := by
  cases h0 : f 0 with
  | none => simp [List.mapM_cons, h0] at h
  | some x =>
    cases h1 : f 1 with
    | none => simp [List.mapM_cons, h0, h1] at h
    | some y => exact ⟨x, y, rfl, rfl⟩
theorem pair_inv {key : Value} {x : Lit} (h : keyOf Tryd.prog tK key = some x) : ∃ i j, key = kv i j ∧ In64 i ∧ In64 j ∧ x = kl i j := by
  have h0 := h
  unfold keyOf at h
  rw [Tryd.underlying22] at h
  simp only [pairType, Bool.true_and] at h
  obtain ⟨hf, h⟩ : key.formed Tryd.prog tK = true ∧ ((Tryd.prog.keyLits (Tryd.prog.types.size + 1) tK key.cells.toList).map fun ls => Lit.string (keyBytes ls)) = some x := by
    cases hf : key.formed Tryd.prog tK
    · rw [hf] at h; simp at h
    · rw [hf] at h; exact ⟨rfl, by simpa using h⟩
  obtain ⟨cs, rfl, hsz⟩ : ∃ cs, key = .agg cs ∧ cs.size = 2 := by
    cases key <;> simp [Value.formed, Tryd.underlying22, pairCells] at hf
    exact ⟨_, rfl, hf⟩
  obtain ⟨v0, v1, rfl⟩ : ∃ v0 v1, cs = #[v0, v1] := by
    obtain ⟨l⟩ := cs
    match l, hsz with
    | [v0, v1], _ => exact ⟨v0, v1, rfl⟩
  obtain ⟨d, hd⟩ : ∃ d, Tryd.prog.types.size + 1 = d + 2 := ⟨Tryd.prog.types.size - 1, by have h9 : 0 < Tryd.prog.types.size := Nat.lt_of_le_of_lt (Nat.zero_le _) pairRow; omega⟩
  rw [hd] at h
  obtain ⟨ls, hls, _⟩ := Option.map_eq_some_iff.1 h
  have hls : Tryd.prog.keyLits ((d + 1) + 1) tK [v0, v1] = some ls := hls
  unfold Program.keyLits at hls
  rw [Tryd.underlying22] at hls
  simp only [pairCells, intCells] at hls
  rw [if_pos (show [v0, v1].length = 2 from rfl), show List.range 2 = [0, 1] from rfl] at hls
  obtain ⟨z, hz, _⟩ := Option.map_eq_some_iff.1 hls
  obtain ⟨x0, x1, e0, e1⟩ := mapM2 hz
  obtain ⟨i, hi, hi64⟩ := keyLits_int e0
  obtain ⟨j, hj, hj64⟩ := keyLits_int e1
  have hi : [v0] = [.int .i64 i] := hi
  have hj : [v1] = [.int .i64 j] := hj
  cases hi; cases hj
  exact ⟨i, j, rfl, hi64, hj64, Option.some.inj (h0.symm.trans (keyOf_pair i j hi64 hj64))⟩
section
variable {ops : Array Oper} {rest : List Oper} {o : Oper} {a : Act} {Q : Exit → Act → World → Prop}
theorem wpList_range_km (hg : o.guard = none) (m : Operand) (hop : o.op = Op.range tM2 m) (hm : a.eval m = .map (some b)) (h : World.kmap w b n p)
    (hK : ∀ r w' cnt, World.kranges w' b r n p cnt → w.grownBy w' none → r = w.heap.size → wpList Tryd.prog ops Q rest (a.put o.dst (.pointer (some ⟨r, 0, none⟩))) w') : wpList Tryd.prog ops Q (o :: rest) a w := by
  obtain ⟨D, hown, hB⟩ := h
  exact wpList_range_own w hg m tM2 hop tK 9 pairKeyed Tryd.underlying38 _ b n D hm hown fun w' h1 h2 h3 => hK _ w' _ ⟨D, _, h1, hB⟩ h2 rfl
theorem wpList_next_km (hg : o.guard = none) (it : Operand) (hop : o.op = Op.next it false) (hit : a.eval it = .pointer (some ⟨r, 0, none⟩)) (h : World.kranges w b r n p cnt)
    (hDone : wpList Tryd.prog ops Q rest (a.put o.dst (.tuple #[.bool false])) w)
    (hMore : ∀ i j s w' cnt', In64 i → In64 j → p i j s → World.kranges w' b r n p cnt' → cnt' < cnt → w.grownBy w' (some r) → w'.heap.size = w.heap.size → (Instr.entry (.pointer (some ⟨r, 0, none⟩))).run Tryd.prog w' = .ok (.tuple #[kv i j, .string s]) w' → wpList Tryd.prog ops Q rest (a.put o.dst (.tuple #[.bool true, kv i j, .string s])) w') :
    wpList Tryd.prog ops Q (o :: rest) a w := by
  obtain ⟨D, left, hr, hB⟩ := h
  refine wpList_next_ranges w hg it hop tK pairKeyed rEl (fun x : Int × Int => kv x.1 x.2) Value.string (fun key kl' hk => by obtain ⟨i, j, rfl, _⟩ := pair_inv hk; exact ⟨(i, j), rfl⟩) (fun v y hv => by obtain ⟨s, rfl, _⟩ := plainElem_string_inv hv; exact ⟨s, rfl⟩) b r n D left cnt hit hr (fun _ _ => hDone) ?_
  rintro ⟨i, j⟩ s kl' y w' cnt' hkey hl hv hat hrg hlt hgr hsz hen
  obtain ⟨i', j', e, hi, hj, rfl⟩ := pair_inv hkey
  simp at e
  obtain ⟨rfl, rfl⟩ := e
  obtain ⟨s', es, rfl⟩ := plainElem_string_inv hv
  cases es
  exact hMore i j s w' cnt' hi hj (hB.at_ i j s hi hj hat) ⟨D, _, hrg, hB⟩ hlt hgr hsz hen
theorem wpList_mapUpdate_km (hg : o.guard = none) (m x v : Operand) (hop : o.op = Op.mapUpdate tM2 m x v) (hm : a.eval m = .map (some b)) (h : World.kmap w b n p) (hn : n < 100000) (i j : Int) (hx : a.eval x = kv i j) (hi : In64 i) (hj : In64 j) (s : ByteArray) (hv : a.eval v = .string s) (hs : s.size ≤ maxLen)
    (hK : ∀ w', World.kmap w' b (n + 1) (fun i' j' s' => if i' = i ∧ j' = j then s' = s else p i' j' s') → w.grownBy w' (some b) → wpList Tryd.prog ops Q rest (a.put o.dst undef) w') : wpList Tryd.prog ops Q (o :: rest) a w := by
  obtain ⟨D, hown, hB⟩ := h
  refine wpList_mapUpdate_own w hg m x v tM2 hop tK 9 pairKeyed Tryd.underlying38 _ b n D hm hown (by unfold maxLen; omega) _ _ _ hx hv (keyOf_pair i j hi hj) _ [] (plainElem_string Tryd.underlying9 hs) ?_
  intro w' h1 h2
  refine hK w' ⟨_, h1, hB.m.put _ _, fun i' j' s' hi' hj' hat => ?_⟩ h2
  by_cases e : i' = i ∧ j' = j
  · obtain ⟨rfl, rfl⟩ := e
    rw [if_pos ⟨rfl, rfl⟩]
    have h3 := hat (.lit (.bool true))
    rw [Maps.atKey_put_same hB.m (kl_key i' j')] at h3
    have h4 : s.data.toList = s'.data.toList := by simpa using h3
    exact bytes_ext h4.symm
  · rw [if_neg e]
    refine hB.at_ i' j' s' hi' hj' fun zd => ?_
    have h3 := hat zd
    rw [Maps.atKey_put_other (kl_ne hi hj hi' hj' e)] at h3
    exact h3
theorem wpList_delete_km (hg : o.guard = none) (m x : Operand) (hop : o.op = Op.call { callee := Callee.builtin Builtin.delete, args := #[m, x], argTypes := #[tM2, tK] }) (hm : a.eval m = .map (some b)) (h : World.kmap w b n p) (i j : Int) (hx : a.eval x = kv i j) (hi : In64 i) (hj : In64 j)
    (hK : ∀ w', World.kmap w' b n (fun i' j' s' => ¬ (i' = i ∧ j' = j) ∧ p i' j' s') → w.grownBy w' (some b) → wpList Tryd.prog ops Q rest (a.put o.dst (.tuple #[])) w') : wpList Tryd.prog ops Q (o :: rest) a w := by
  obtain ⟨D, hown, hB⟩ := h
  refine wpList_delete_own w hg m x tM2 tK hop 9 pairKeyed Tryd.underlying38 _ b n D hm hown _ _ hx (keyOf_pair i j hi hj) ?_
  intro w' h1 h2
  refine hK w' ⟨_, h1, hB.m.del _, fun i' j' s' hi' hj' hat => ?_⟩ h2.grown
  by_cases e : i' = i ∧ j' = j
  · obtain ⟨rfl, rfl⟩ := e
    have h3 := hat (.lit (.bool true))
    rw [Maps.atKey_del_same] at h3
    cases h3
  · refine ⟨e, hB.at_ i' j' s' hi' hj' fun zd => ?_⟩
    have h3 := hat zd
    rw [Maps.atKey_del_other (kl_ne hi hj hi' hj' e)] at h3
    exact h3
end
end Go.Proofs.YtijagdpkclghnaaDoor
/- CacheKeeps: what was put is had: plain laws, contracts. -/
namespace Go.Proofs.YtijagdpkclghnaaDoor
open Go Go.RowKit
set_option maxRecDepth 100000
variable {B n nm data g mb r cnt : Nat} {u w w' : World} {C C' : CM} {T T' T0 : TS} {L L' : List Int} {f f' f0 : Int → Option Ent} {E : Ent} {i t : Int} {c : Nat} {s : ByteArray} {p p' : Int → Int → ByteArray → Prop}
theorem with_keep (s : Set4) {i j : Nat} (h : s.has j = true) (hj : j < 256) : (s.with' i).has j = true := by
  unfold Set4.with'
  rw [Set4.has_of]
  simp [h, hj]
theorem Set4.has_lt {s : Set4} {i : Nat} (h : s.has i = true) : i < 256 := by
  rcases Nat.lt_or_ge i 256 with h1 | h1
  · exact h1
  · rw [Set4.has_ge s h1] at h; cases h
theorem dt_some {s : Set4} {c : Nat} (h : s.has c = true) : s.empty = false := by
  cases e : s.empty
  · rfl
  · rw [(Set4.empty_iff _).1 e, Set4.has_zero] at h
    cases h
theorem atB_other {l : List ByteArray} {c j : Nat} (h : j ≠ c) (s : ByteArray) : atB (l.set c s) j = atB l j := by
  unfold atB
  simp [List.getD, List.getElem?_set_ne (Ne.symm h)]
/-- What was put is there, and dirty, and pinned. -/
structure Keep (T : TS) (f : Int → Option Ent) (p : Int → Int → ByteArray → Prop) : Prop where
  pins : ∀ i E, f i = some E → E.dt.empty = false → T.pins.contains i = true
  has : ∀ i j s, p i j s → ∃ (E : Ent) (c : Nat), f i = some E ∧ j = (c : Int) ∧ E.nt.has c = true ∧ E.dt.has c = true ∧ atB E.nb c = s
theorem Keep.imp (h : Keep T f p) (hp : ∀ i j s, p' i j s → p i j s) : Keep T f p' := ⟨h.pins, fun i j s hs => h.has i j s (hp i j s hs)⟩
theorem keepTouch (T : TS) (k : Int) : (T.touchT k).pins = T.pins := by
  unfold TS.touchT
  split
  · unfold TS.fallT
    split
    · rfl
    · split <;> rfl
  · rfl
theorem keepAdd (T : TS) (k : Int) : (T.addT k).pins = T.pins := by
  unfold TS.addT
  split
  · rfl
  · split <;> rfl
theorem erase_other {l : List Int} {v i : Int} (h : l.contains i = true) (hne : i ≠ v) : (l.erase v).contains i = true := by
  simp at h ⊢
  exact (List.mem_erase_of_ne hne).2 h
/-- A stripe that isn't dirty goes. -/
theorem Keep.gone (h : Keep T f p) (v : Int) (hd : ∀ E, f v = some E → E.dt.empty = true) : Keep (T.dropT v) (upd f v none) p := by
  refine ⟨fun i E hE he => ?_, fun i j s hs => ?_⟩
  · by_cases e : i = v
    · subst e; rw [upd_same] at hE; cases hE
    · rw [upd_other f _ e] at hE
      exact erase_other (h.pins i E hE he) e
  · obtain ⟨E, c, h1, h2, h3, h4, h5⟩ := h.has i j s hs
    have e : i ≠ v := fun e => by
      subst e
      have := hd E h1
      rw [dt_some h4] at this
      cases this
    exact ⟨E, c, by rw [upd_other f _ e]; exact h1, h2, h3, h4, h5⟩
theorem Keep.room (h : Keep T f p) (hr : RoomOf T f T0 f0) : Keep T0 f0 p := by
  rcases hr with ⟨_, rfl, rfl⟩ | ⟨_, v, hv, rfl, rfl⟩
  · exact h
  · refine h.gone v fun E hE => ?_
    cases e : E.dt.empty
    · have h1 := h.pins v E hE e
      rw [(victim_in hv).2] at h1
      cases h1
    · rfl
theorem Keep.opened {w1 : World} {C1 : CM} {T1 : TS} {L1 : List Int} {f1 : Int → Option Ent} (h : Keep T f p) (ho : OpenedG B n data w C T f t w1 C1 E T1 L1 f1) : Keep T1 f1 p := by
  rcases ho.how with ⟨_, rfl, rfl⟩ | ⟨_, T0, f0, hr, _, _, hn, rfl, rfl, z1, z2, z3, _⟩
  · exact ⟨fun i E hE he => by rw [keepTouch]; exact h.pins i E hE he, h.has⟩
  · have h0 := h.room hr
    refine ⟨fun i F hF he => ?_, fun i j s hs => ?_⟩
    · rw [keepAdd]
      by_cases e : i = t
      · subst e; rw [upd_same] at hF; cases hF; rw [z3] at he; cases he
      · rw [upd_other f0 _ e] at hF; exact h0.pins i F hF he
    · obtain ⟨F, c, h1, h2⟩ := h0.has i j s hs
      have e : i ≠ t := fun e => by subst e; rw [hn] at h1; cases h1
      exact ⟨F, c, by rw [upd_other f0 _ e]; exact h1, h2⟩
theorem Keep.fill (h : Keep T f p) (hf : f t = some E) : Keep T (upd f t (some (E.fill c s))) p := by
  have hdt : (E.fill c s).dt = E.dt := by
    cases e : E.dt.has c
    · exact (fill_no e s).2.2.1
    · exact (fill_yes e s).2.2.1
  refine ⟨fun i F hF he => ?_, fun i j v hs => ?_⟩
  · by_cases e : i = t
    · subst e; rw [upd_same] at hF; cases hF; rw [hdt] at he; exact h.pins i E hf he
    · rw [upd_other f _ e] at hF; exact h.pins i F hF he
  · obtain ⟨F, k, h1, h2, h3, h4, h5⟩ := h.has i j v hs
    by_cases e : i = t
    · subst e
      rw [hf] at h1; cases h1
      refine ⟨_, k, upd_same _ _ _, h2, ?_, by rw [hdt]; exact h4, ?_⟩
      · cases e2 : E.dt.has c
        · rw [(fill_no e2 s).1]
          exact with_keep _ h3 (Set4.has_lt h3)
        · rw [(fill_yes e2 s).1]; exact h3
      · cases e2 : E.dt.has c
        · rw [(fill_no e2 s).2.1, atB_other (fun e3 => by subst e3; rw [e2] at h4; cases h4)]; exact h5
        · rw [(fill_yes e2 s).2.1]; exact h5
    · exact ⟨F, k, by rw [upd_other f _ e]; exact h1, h2, h3, h4, h5⟩
def pSet (p : Int → Int → ByteArray → Prop) (t c : Int) (s : ByteArray) : Int → Int → ByteArray → Prop := fun i j v => if i = t ∧ j = c then v = s else p i j v
theorem Keep.put (h : Keep T f p) (hf : f t = some E) (hc : c < E.nb.length) (hc2 : c < 256) (ht : T.has t = true) : Keep (T.pinT t true) (upd f t (some (E.put c s))) (pSet p t c s) := by
  obtain ⟨p1, p2, p3, p4, p5⟩ := put_f E c s
  have hpin : (T.pinT t true).pins = addTo T.pins t := by unfold TS.pinT; rw [if_pos ht]; rfl
  refine ⟨fun i F hF he => ?_, fun i j v hs => ?_⟩
  · rw [hpin, addTo_has]
    by_cases e : i = t
    · subst e; simp
    · rw [upd_other f _ e] at hF; rw [h.pins i F hF he]; rfl
  · unfold pSet at hs
    by_cases e : i = t ∧ j = c
    · rw [if_pos e] at hs
      obtain ⟨rfl, rfl⟩ := e
      exact ⟨_, c, upd_same _ _ _, rfl, by rw [p1]; exact with_same _ hc2, by rw [p3]; exact with_same _ hc2, by rw [p2, atB_set hc]; exact hs.symm⟩
    · rw [if_neg e] at hs
      obtain ⟨F, k, h1, h2, h3, h4, h5⟩ := h.has i j v hs
      by_cases e2 : i = t
      · subst e2
        rw [hf] at h1; cases h1
        have hk : k ≠ c := fun e3 => e ⟨rfl, by rw [h2, e3]⟩
        exact ⟨_, k, upd_same _ _ _, h2, by rw [p1]; exact with_keep _ h3 (Set4.has_lt h3), by rw [p3]; exact with_keep _ h4 (Set4.has_lt h4), by rw [p2, atB_other hk]; exact h5⟩
      · exact ⟨F, k, by rw [upd_other f _ e2]; exact h1, h2, h3, h4, h5⟩
theorem Keep.done (h : Keep T f p) (hf : f t = some E) (ht : T.has t = true) : Keep (T.pinT t false) (upd f t (some E.done)) (fun i j v => i ≠ t ∧ p i j v) := by
  obtain ⟨q1, q2, q3, q4, q5⟩ := done_f E
  have hpin : (T.pinT t false).pins = T.pins.erase t := by rw [TS.pinT, if_pos ht]; rfl
  refine ⟨fun i F hF he => ?_, fun i j v hs => ?_⟩
  · by_cases e : i = t
    · subst e; rw [upd_same] at hF; cases hF; rw [q3] at he; cases he
    · rw [upd_other f _ e] at hF; rw [hpin]; exact erase_other (h.pins i F hF he) e
  · obtain ⟨F, k, h1, h2⟩ := h.has i j v hs.2
    exact ⟨F, k, by rw [upd_other f _ hs.1]; exact h1, h2⟩
theorem Keep.touched (h : Keep T f p) (b : Bool) (v : Int) : Keep (if b = true then T.touchT v else T) f p := by
  split
  · exact ⟨fun i E hE he => by rw [keepTouch]; exact h.pins i E hE he, h.has⟩
  · exact h
theorem Keep.get (h : Keep T f p) {j : Int} (hp : p t j s) : ∃ c : Nat, j = (c : Int) ∧ nowH f t c = true ∧ nowB f t c = s ∧ ∃ E, f t = some E ∧ E.nt.has c = true := by
  obtain ⟨E, c, h1, h2, h3, h4, h5⟩ := h.has t j s hp
  refine ⟨c, h2, ?_, ?_, E, h1, h3⟩
  · unfold nowH; rw [h1]; exact h3
  · unfold nowB; rw [h1]; show (if E.nt.has c = true then atB E.nb c else noB) = s; rw [if_pos h3]; exact h5
/-- A cache beside the law's map. -/
structure KB (B n nm data : Nat) (u w : World) (g mb : Nat) (C : CM) (T : TS) (L : List Int) (f : Int → Option Ent) (p : Int → Int → ByteArray → Prop) : Prop where
  at_ : CacheAt B n data w C T L f
  g : C.g = g
  b : Below B u w
  km : World.kmap w mb nm p
  off : ¬ C.foot f mb
  mB : B ≤ mb
theorem KB.step {m : Nat} (h : KB B n nm data u w g mb C T L f p) (hs : CStep C f C' f' w w') (ha : CacheAt B m data w' C' T' L' f') : KB B m nm data u w' g mb C' T' L' f' p :=
  ⟨ha, hs.g.trans h.g, hs.under h.at_ h.b, h.km.same (hs.block mb h.km.lt h.off), fun hf => (hs.foot mb hf).elim h.off (fun h2 => by have := h.km.lt; omega), h.mB⟩
theorem KB.below (h : KB B n nm data u w g mb C T L f p) (hb : Below w.heap.size w w') : KB B n nm data u w' g mb C T L f p := h.step (CStep.of_below C f hb) (h.at_.below hb)
theorem KB.mono {m : Nat} (h : KB B n nm data u w g mb C T L f p) (hm : n ≤ m) : KB B m nm data u w g mb C T L f p := ⟨h.at_.mono hm, h.g, h.b, h.km, h.off, h.mB⟩
theorem KB.imp (h : KB B n nm data u w g mb C T L f p) (hp : ∀ i j s, p i j s → p' i j s) : KB B n nm data u w g mb C T L f p' := ⟨h.at_, h.g, h.b, h.km.imp hp, h.off, h.mB⟩
theorem keepGrown {b : Nat} (h : CacheAt B n data w C T L f) (hg : w.grownBy w' (some b)) (hn : ¬ C.foot f b) : CacheAt B n data w' C T L f := by
  have keep : ∀ x, x < w.heap.size → C.foot f x → w'.heap[x]? = w.heap[x]? := fun x hx hf => hg.block x hx fun e => hn (Option.some.inj e ▸ hf)
  exact ⟨rowSame h.row (keep _ h.row.lt (.inl rfl)), turnKeep h.turn fun x hx => keep x (h.turn.lts x hx).2 (.inr (.inr (.inl hx))), h.good, h.map.same (keep _ h.map.lt (.inr (.inl rfl))), fun k E hE => (h.ent k E hE).same fun x hx => keep x ((h.ent k E hE).lts x hx).2 (.inr (.inr (.inr ⟨k, E, hE, hx⟩))),
    h.apart, h.off, h.gm, h.gM, h.mM, h.bg, h.bm, h.keys, h.d2, h.d30⟩
theorem KB.set {m : Nat} (h : KB B n nm data u w g mb C T L f p) (hg : w.grownBy w' (some mb)) (hs : World.kmap w' mb m p') : KB B n m data u w' g mb C T L f p' :=
  ⟨keepGrown h.at_ hg h.off, h.g, h.b.trans ⟨hg.os, hg.tape, hg.output, hg.size, fun k hk => hg.block k (Nat.lt_of_lt_of_le hk (Nat.le_trans h.at_.bg (Nat.le_of_lt h.at_.row.lt))) fun e => by have := Option.some.inj e; have := h.mB; omega⟩, hs, h.off, h.mB⟩
/-- .. while the map is gone through. -/
structure RB (B n nm data : Nat) (u w : World) (g mb r : Nat) (C : CM) (T : TS) (L : List Int) (f : Int → Option Ent) (p : Int → Int → ByteArray → Prop) (cnt : Nat) : Prop where
  at_ : CacheAt B n data w C T L f
  g : C.g = g
  b : Below B u w
  kr : World.kranges w mb r nm p cnt
  off : ¬ C.foot f mb
  mB : B ≤ mb
  offr : ¬ C.foot f r
  rB : B ≤ r
theorem RB.kb (h : RB B n nm data u w g mb r C T L f p cnt) : KB B n nm data u w g mb C T L f p := ⟨h.at_, h.g, h.b, h.kr.owns, h.off, h.mB⟩
theorem RB.step {m : Nat} (h : RB B n nm data u w g mb r C T L f p cnt) (hs : CStep C f C' f' w w') (ha : CacheAt B m data w' C' T' L' f') : RB B m nm data u w' g mb r C' T' L' f' p cnt :=
  ⟨ha, hs.g.trans h.g, hs.under h.at_ h.b, h.kr.same (hs.block mb h.kr.owns.lt h.off) (hs.block r h.kr.lt h.offr), fun hf => (hs.foot mb hf).elim h.off (fun h2 => by have := h.kr.owns.lt; omega), h.mB, fun hf => (hs.foot r hf).elim h.offr (fun h2 => by have := h.kr.lt; omega), h.rB⟩
theorem RB.below (h : RB B n nm data u w g mb r C T L f p cnt) (hb : Below w.heap.size w w') : RB B n nm data u w' g mb r C T L f p cnt := h.step (CStep.of_below C f hb) (h.at_.below hb)
theorem KB.range (h : KB B n nm data u w g mb C T L f p) (hr : World.kranges w' mb r nm p cnt) (hg : w.grownBy w' none) (e : r = w.heap.size) : RB B n nm data u w' g mb r C T L f p cnt := by
  subst e
  have hb : Below w.heap.size w w' := ⟨hg.os, hg.tape, hg.output, hg.size, fun k hk => hg.block k hk (by simp)⟩
  have h2 := h.below hb
  exact ⟨h2.at_, h2.g, h2.b, hr, h2.off, h2.mB, fun hf => by have := (h.at_.lts _ hf).2; omega, Nat.le_trans h.at_.bg (Nat.le_of_lt h.at_.row.lt)⟩
theorem RB.next {cnt' : Nat} (h : RB B n nm data u w g mb r C T L f p cnt) (hr : World.kranges w' mb r nm p cnt') (hg : w.grownBy w' (some r)) : RB B n nm data u w' g mb r C T L f p cnt' :=
  ⟨keepGrown h.at_ hg h.offr, h.g, h.b.trans ⟨hg.os, hg.tape, hg.output, hg.size, fun k hk => hg.block k (Nat.lt_of_lt_of_le hk (Nat.le_trans h.at_.bg (Nat.le_of_lt h.at_.row.lt))) fun e => by have := Option.some.inj e; have := h.rB; omega⟩, hr, h.off, h.mB, h.offr, h.rB⟩
theorem fillKB (h : KB B n nm data u w g mb C T L f p) (hcl : Keep T f p) (ht : 0 ≤ t) (ht2 : t < 64) (hc : c < data) (hs : s.size = 64) (hn : n < 80000) :
    Calls Tryd.prog 11 #[pt g, .int .i64 t, .int .i64 (c : Int), .string s] w fun e w' => ∃ v : Int, e = .returned (.int .i64 v) ∧ ∃ (C' : CM) (T' : TS) (L' : List Int) (f' : Int → Option Ent), KB B (n + 2) nm data u w' g mb C' T' L' f' p ∧ Keep T' f' p := by
  have hg := h.g
  subst hg
  cases hr : canOpen T f t with
  | true =>
    refine (Fill_gen t c s w h.at_ ht ht2 hc hs hr (by omega)).mono ?_
    rintro e w' ⟨rfl, w1, C1, E, T1, L1, f1, ho, hA, hS⟩
    exact ⟨_, rfl, C1, T1, L1, _, (h.step hS hA).mono (by omega), (hcl.opened ho).fill ho.here⟩
  | false =>
    refine (Fill_no t c s w h.at_ ht ht2 hc hs hr).mono ?_
    rintro e w' ⟨rfl, hb⟩
    exact ⟨_, rfl, C, T, L, f, (h.below hb).mono (by omega), hcl⟩
theorem putKB (h : KB B n nm data u w g mb C T L f p) (hcl : Keep T f p) (ht : 0 ≤ t) (ht2 : t < 64) (hc : c < data) (hs : s.size = 64) (hn : n < 80000) :
    Calls Tryd.prog 10 #[pt g, .int .i64 t, .int .i64 (c : Int), .string s] w fun e w' => ∃ b : Bool, e = .returned (.int .i64 (if b then 0 else 10)) ∧ ∃ (C' : CM) (T' : TS) (L' : List Int) (f' : Int → Option Ent), KB B (n + 2) nm data u w' g mb C' T' L' f' p ∧ Keep T' f' (if b then pSet p t c s else p) := by
  have hg := h.g
  subst hg
  cases hr : canOpen T f t with
  | true =>
    refine (Put_gen t c s w h.at_ ht ht2 hc hs hr (by omega)).mono ?_
    rintro e w' ⟨rfl, w1, C1, E, T1, L1, f1, C', ho, hA, hS⟩
    have ht1 : T1.has t = true := by rw [ho.at_.keys, ← ho.at_.map.some_, ho.here]; rfl
    have hE := ho.at_.ent t E ho.here
    exact ⟨true, rfl, C', _, L1, _, h.step hS hA, (hcl.opened ho).put ho.here (by rw [hE.l1]; exact hc) (by have := ho.at_.d30; omega) ht1⟩
  | false =>
    refine (Put_no t c s w h.at_ ht ht2 hc hs hr).mono ?_
    rintro e w' ⟨rfl, hb⟩
    exact ⟨false, rfl, C, T, L, f, (h.below hb).mono (by omega), hcl⟩
theorem doneKB (h : KB B n nm data u w g mb C T L f p) (hcl : Keep T f p) (ht : 0 ≤ t) (ht2 : t < 64) (hT : Tab w) (hn : n < 80000) :
    Calls Tryd.prog 12 #[pt g, .int .i64 t] w fun e w' => ∃ b : Bool, e = .returned (.bool b) ∧ ∃ (C' : CM) (T' : TS) (f' : Int → Option Ent), KB B (n + 2) nm data u w' g mb C' T' L f' p ∧ Keep T' f' (fun i j v => i ≠ t ∧ p i j v) := by
  have hg := h.g
  subst hg
  cases hf : f t with
  | none =>
    refine (Done_no t w h.at_ ⟨by omega, by omega⟩ hf).mono ?_
    rintro e w' ⟨rfl, rfl⟩
    exact ⟨_, rfl, C, T, f, h.mono (by omega), hcl.imp fun i j s hs => hs.2⟩
  | some E =>
    refine (Done_yes t w h.at_ ⟨by omega, by omega⟩ hf hT (by omega)).mono ?_
    rintro e w' ⟨rfl, C', hA, hS⟩
    have ht1 : T.has t = true := by rw [h.at_.keys, ← h.at_.map.some_, hf]; rfl
    exact ⟨_, rfl, C', _, _, (h.step hS hA).mono (by omega), hcl.done hf ht1⟩
theorem dropKB (h : KB B n nm data u w g mb C T L f p) (hcl : Keep T f p) (ht : 0 ≤ t) (ht2 : t < 64) :
    Calls Tryd.prog 15 #[pt g, .int .i64 t] w fun e w' => ∃ b : Bool, e = .returned (.bool b) ∧ ∃ (C' : CM) (T' : TS) (L' : List Int) (f' : Int → Option Ent), KB B n nm data u w' g mb C' T' L' f' p ∧ Keep T' f' p := by
  have hg := h.g
  subst hg
  cases hd : canDrop f t with
  | true =>
    refine (Drop_yes t w h.at_ ⟨by omega, by omega⟩ hd).mono ?_
    rintro e w' ⟨rfl, M', hA, hS⟩
    exact ⟨_, rfl, _, _, _, _, h.step hS hA, hcl.gone t fun E hE => by unfold canDrop at hd; rw [hE] at hd; exact hd⟩
  | false =>
    refine (Drop_no t w h.at_ ⟨by omega, by omega⟩ hd).mono ?_
    rintro e w' ⟨rfl, hb⟩
    exact ⟨_, rfl, C, T, L, f, h.below hb, hcl⟩
theorem getKB (h : KB B n nm data u w g mb C T L f p) (hcl : Keep T f p) (ht : 0 ≤ t) (ht2 : t < 64) (hc : c < data) :
    Calls Tryd.prog 14 #[pt g, .int .i64 t, .int .i64 (c : Int)] w fun e w' => ∃ (v : ByteArray) (b : Bool), e = .returned (.tuple #[.string v, .bool b]) ∧ ∃ (C' : CM) (T' : TS), KB B n nm data u w' g mb C' T' L f p ∧ Keep T' f p := by
  have hg := h.g
  subst hg
  refine (Get_any t c w h.at_ ⟨by omega, by omega⟩ hc).mono ?_
  rintro e w' ⟨rfl, M', hA, hS⟩
  exact ⟨_, _, rfl, _, _, h.step hS hA, hcl.touched _ t⟩
theorem getRB {j : Int} (h : RB B n nm data u w g mb r C T L f p cnt) (hcl : Keep T f p) (ht : In64 t) (hp : p t j s) :
    Calls Tryd.prog 14 #[pt g, .int .i64 t, .int .i64 j] w fun e w' => e = .returned (.tuple #[.string s, .bool true]) ∧ ∃ (C' : CM) (T' : TS), RB B n nm data u w' g mb r C' T' L f p cnt ∧ Keep T' f p := by
  have hg := h.g
  subst hg
  obtain ⟨c, rfl, h1, h2, E, hE, hnt⟩ := hcl.get hp
  refine (Get_any t c w h.at_ ht ((h.at_.ent t E hE).i1 c hnt)).mono ?_
  rintro e w' ⟨rfl, M', hA, hS⟩
  rw [h1, h2]
  exact ⟨rfl, _, _, h.step hS hA, hcl.touched _ t⟩
end Go.Proofs.YtijagdpkclghnaaDoor
/- What ties a cache's stripes to the document's cells: plain laws. -/
namespace Go.Proofs.YtijagdpkclghnaaDoor
open Go Go.RowKit
set_option maxRecDepth 100000
variable {B n data : Nat} {w w' : World} {C C' : CM} {T T1 T' T0 : TS} {L L' : List Int} {f f' f0 : Int → Option Ent} {E E' : Ent} {i j v : Int} {c k : Nat} {s old now : ByteArray} {d : Bool} {cs cs' cs0 cs1 : List CL} {x y z : CL}
def CL.pr (x : CL) : Int × Int := (x.s, x.c)
/-- A cell that is a column of a stripe. -/
def IsCell (f : Int → Option Ent) (x : CL) : Prop := ∃ (E : Ent) (c : Nat), f x.s = some E ∧ x.c = (c : Int) ∧ Col E c x.old x.now x.d ∧ x.now ≠ noB
/-- The stripes and the document's cells are the same. -/
structure RelC (f : Int → Option Ent) (cs : List CL) : Prop where
  nd : (cs.map CL.pr).Nodup
  cell : ∀ x ∈ cs, IsCell f x
  all : ∀ i E c, f i = some E → E.nt.has c = true → ∃ x ∈ cs, x.s = i ∧ x.c = (c : Int)
  non : ∀ i E c, f i = some E → E.nt.has c = false → E.ot.has c = false ∧ E.dt.has c = false
  st : ∀ i E, f i = some E → 0 ≤ i ∧ i < 64
structure EEq (E E' : Ent) (c : Nat) : Prop where
  nt : E'.nt.has c = E.nt.has c
  ot : E'.ot.has c = E.ot.has c
  dt : E'.dt.has c = E.dt.has c
  nb : atB E'.nb c = atB E.nb c
  ob : atB E'.ob c = atB E.ob c
theorem Col.eq (h : Col E c old now d) (e : EEq E E' c) : Col E' c old now d := ⟨e.nt.trans h.nt, e.nb.trans h.nb, e.dt.trans h.dt, e.ot.trans h.ot, fun hn => e.ob.trans (h.ob hn)⟩
theorem pr_inj {m : Nat} (hn : (cs.map CL.pr).Nodup) (hx : cs[m]? = some x) (hy : cs[k]? = some y) (e : x.pr = y.pr) : m = k := by
  obtain ⟨h1, e1⟩ := List.getElem?_eq_some_iff.1 hx
  obtain ⟨h2, e2⟩ := List.getElem?_eq_some_iff.1 hy
  have h3 : (cs.map CL.pr)[m]'(by simpa using h1) = (cs.map CL.pr)[k]'(by simpa using h2) := by simp [e1, e2, e]
  exact (List.getElem_inj hn).1 h3
theorem mem_setc (hn : (cs.map CL.pr).Nodup) (hk : cs[k]? = some x) (he : y.pr = x.pr) : z ∈ cs.set k y ↔ z = y ∨ (z ∈ cs ∧ z.pr ≠ x.pr) := by
  have hkl := (List.getElem?_eq_some_iff.1 hk).1
  simp only [List.mem_iff_getElem?]
  constructor
  · rintro ⟨m, hm⟩
    by_cases e : k = m
    · subst e
      rw [List.getElem?_set_self hkl] at hm
      exact .inl (Option.some.inj hm).symm
    · rw [List.getElem?_set_ne e] at hm
      exact .inr ⟨⟨m, hm⟩, fun h => e (pr_inj hn hm hk h).symm⟩
  · rintro (rfl | ⟨⟨m, hm⟩, hne⟩)
    · exact ⟨k, List.getElem?_set_self hkl⟩
    · refine ⟨m, ?_⟩
      rw [List.getElem?_set_ne fun e => hne (by subst e; rw [hm] at hk; cases hk; rfl)]
      exact hm
theorem set_pr (hk : cs[k]? = some x) (he : y.pr = x.pr) : (cs.set k y).map CL.pr = cs.map CL.pr := by
  obtain ⟨hl, e⟩ := List.getElem?_eq_some_iff.1 hk
  rw [List.map_set, he]
  apply List.ext_getElem
  · simp
  · intro m h1 h2
    by_cases hm : k = m
    · subst hm; rw [List.getElem_set_self]; simp [e]
    · rw [List.getElem_set_ne hm]
theorem InR.mem (h : InR cs0 i j k x cs1) (hn : (cs0.map CL.pr).Nodup) (he : y.pr = (i, j)) : ((cs1.set k y).map CL.pr).Nodup ∧ ∀ z, z ∈ cs1.set k y ↔ z = y ∨ (z ∈ cs0 ∧ z.pr ≠ (i, j)) := by
  rcases h with ⟨rfl, h1, h2, h3⟩ | ⟨h1, rfl, rfl, rfl⟩
  · have hx : x.pr = (i, j) := by unfold CL.pr; rw [h2, h3]
    refine ⟨by rw [set_pr h1 (he.trans hx.symm)]; exact hn, fun z => ?_⟩
    rw [mem_setc hn h1 (he.trans hx.symm), hx]
  · have e : (cs0 ++ [(⟨i, j, noB, noB, false⟩ : CL)]).set cs0.length y = cs0 ++ [y] := by
      rw [List.set_append_right _ _ (Nat.le_refl _)]; simp
    have hno : ∀ z ∈ cs0, z.pr ≠ (i, j) := fun z hz hp => h1 z hz ⟨congrArg Prod.fst hp, congrArg Prod.snd hp⟩
    rw [e]
    refine ⟨?_, fun z => ?_⟩
    · rw [List.map_append]
      refine List.nodup_append.2 ⟨hn, by simp, fun a ha b hb => ?_⟩
      obtain ⟨z, hz, rfl⟩ := List.mem_map.1 ha
      have hb' : b = y.pr := by simpa using hb
      rw [hb', he]
      exact hno z hz
    · rw [List.mem_append, List.mem_singleton]
      constructor
      · rintro (hz | rfl)
        · exact .inr ⟨hz, hno z hz⟩
        · exact .inl rfl
      · rintro (rfl | ⟨hz, _⟩)
        · exact .inr rfl
        · exact .inl hz
/-- A column of a stripe was turned. -/
theorem RelC.turn (h : RelC f cs0) (hf : f i = some E) (hin : InR cs0 i (c : Int) k x cs1) (hy : y.pr = (i, (c : Int))) (hc : Col E' c y.old y.now y.d) (hne : y.now ≠ noB) (ho : ∀ m, m ≠ c → EEq E E' m) : RelC (upd f i (some E')) (cs1.set k y) := by
  obtain ⟨p1, p2⟩ := hin.mem h.nd hy
  have hys : y.s = i := congrArg Prod.fst hy
  have hyc : y.c = (c : Int) := congrArg Prod.snd hy
  refine ⟨p1, fun z hz => ?_, fun m F e hF hm => ?_, fun m F e hF hm => ?_, fun m F hF => ?_⟩
  · rcases (p2 z).1 hz with rfl | ⟨h1, h2⟩
    · exact ⟨E', c, by rw [hys, upd_same], hyc, hc, hne⟩
    · obtain ⟨F, e, hF, he, hC, hN⟩ := h.cell z h1
      by_cases ez : z.s = i
      · rw [ez, hf] at hF
        cases hF
        have hec : e ≠ c := fun e1 => h2 (by unfold CL.pr; rw [ez, he, e1])
        exact ⟨E', e, by rw [ez, upd_same], he, hC.eq (ho e hec), hN⟩
      · exact ⟨F, e, by rw [upd_other f _ ez]; exact hF, he, hC, hN⟩
  · by_cases em : m = i
    · subst em
      rw [upd_same] at hF
      cases hF
      by_cases ec : e = c
      · subst ec
        exact ⟨y, (p2 y).2 (.inl rfl), hys, hyc⟩
      · rw [(ho e ec).nt] at hm
        obtain ⟨z, hz, z1, z2⟩ := h.all m E e hf hm
        exact ⟨z, (p2 z).2 (.inr ⟨hz, fun hp => ec (by have := congrArg Prod.snd hp; unfold CL.pr at this; simp only at this; omega)⟩), z1, z2⟩
    · rw [upd_other f _ em] at hF
      obtain ⟨z, hz, z1, z2⟩ := h.all m F e hF hm
      exact ⟨z, (p2 z).2 (.inr ⟨hz, fun hp => em (by have := congrArg Prod.fst hp; unfold CL.pr at this; simp only at this; omega)⟩), z1, z2⟩
  · by_cases em : m = i
    · subst em
      rw [upd_same] at hF
      cases hF
      by_cases ec : e = c
      · subst ec
        rw [hc.nt] at hm; cases hm
      · rw [(ho e ec).nt] at hm
        rw [(ho e ec).ot, (ho e ec).dt]
        exact h.non m E e hf hm
    · rw [upd_other f _ em] at hF
      exact h.non m F e hF hm
  · by_cases em : m = i
    · subst em; exact h.st m E hf
    · rw [upd_other f _ em] at hF
      exact h.st m F hF
theorem with_other (t : Set4) {m c : Nat} (h : m ≠ c) : (t.with' c).has m = t.has m := by
  unfold Set4.with'
  rw [Set4.has_of]
  by_cases hm : m < 256
  · simp [h, hm]
  · rw [Set4.has_ge t (by omega)]; simp [hm]
theorem put_eq (E : Ent) (c : Nat) (s : ByteArray) {m : Nat} (hm : m ≠ c) : EEq E (E.put c s) m := by
  obtain ⟨p1, p2, p3, p4, p5⟩ := put_f E c s
  exact ⟨by rw [p1, with_other _ hm], by rw [p4], by rw [p3, with_other _ hm], by rw [p2, atB_other hm], by rw [p5]⟩
theorem fill_eq (E : Ent) (c : Nat) (s : ByteArray) {m : Nat} (hm : m ≠ c) : EEq E (E.fill c s) m := by
  cases hd : E.dt.has c
  · obtain ⟨p1, p2, p3, p4, p5⟩ := fill_no hd s
    exact ⟨by rw [p1, with_other _ hm], by rw [p4, with_other _ hm], by rw [p3], by rw [p2, atB_other hm], by rw [p5, atB_other hm]⟩
  · obtain ⟨p1, p2, p3, p4, p5⟩ := fill_yes hd s
    exact ⟨by rw [p1], by rw [p4, with_other _ hm], by rw [p3], by rw [p2], by rw [p5, atB_other hm]⟩
/-- What the cell that open tells is. -/
theorem RelC.tells (h : RelC f cs0) (hf : f i = some E) (hin : InR cs0 i (c : Int) k x cs1) : (Col E c x.old x.now x.d ∧ x.now ≠ noB) ∨ (E.nt.has c = false ∧ E.ot.has c = false ∧ E.dt.has c = false ∧ x.old = noB ∧ x.d = false) := by
  rcases hin with ⟨rfl, h1, h2, h3⟩ | ⟨h1, rfl, rfl, rfl⟩
  · obtain ⟨F, e, hF, he, hC, hN⟩ := h.cell x (List.mem_of_getElem? h1)
    rw [h2, hf] at hF
    cases hF
    obtain rfl : e = c := by omega
    exact .inl ⟨hC, hN⟩
  · have hn : E.nt.has c = false := by
      cases e : E.nt.has c
      · rfl
      · obtain ⟨z, hz, z1, z2⟩ := h.all i E c hf e
        exact absurd ⟨z1, z2⟩ (h1 z hz)
    have := h.non i E c hf hn
    exact .inr ⟨hn, this.1, this.2, rfl, rfl⟩
theorem RelC.put (h : RelC f cs0) (hf : f i = some E) (hin : InR cs0 i (c : Int) k x cs1) (hc : c < 256) (hl : c < E.nb.length) (hs : s ≠ noB) : RelC (upd f i (some (E.put c s))) (cs1.set k { x with now := s, d := true }) := by
  have hx := hin.at
  refine h.turn hf hin (by unfold CL.pr; rw [hx.2.1, hx.2.2]) ?_ hs fun m hm => put_eq E c s hm
  rcases h.tells hf hin with ⟨h1, _⟩ | ⟨h1, h2, h3, h4, h5⟩
  · exact h1.put hc hl s
  · obtain ⟨p1, p2, p3, p4, p5⟩ := put_f E c s
    show Col (E.put c s) c x.old s true
    rw [h4]
    exact ⟨by rw [p1]; exact with_same _ hc, by rw [p2]; exact atB_set hl s, by rw [p3]; exact with_same _ hc, by rw [p4, h2]; simp, fun hn => absurd rfl hn⟩
theorem RelC.fill (h : RelC f cs0) (hf : f i = some E) (hin : InR cs0 i (c : Int) k x cs1) (hc : c < 256) (hl : c < E.nb.length) (hl2 : c < E.ob.length) (hs : s ≠ noB) : RelC (upd f i (some (E.fill c s))) (cs1.set k { x with old := s, now := if x.d then x.now else s }) := by
  have hx := hin.at
  refine h.turn hf hin (by unfold CL.pr; rw [hx.2.1, hx.2.2]) ?_ ?_ fun m hm => fill_eq E c s hm
  · rcases h.tells hf hin with ⟨h1, _⟩ | ⟨h1, h2, h3, h4, h5⟩
    · exact h1.fill hc hl hl2 hs
    · obtain ⟨p1, p2, p3, p4, p5⟩ := fill_no h3 s
      show Col (E.fill c s) c s (if x.d = true then x.now else s) x.d
      rw [h5]
      exact ⟨by rw [p1]; exact with_same _ hc, by rw [p2, if_neg (by simp)]; exact atB_set hl s, by rw [p3]; exact h3, by rw [p4, with_same _ hc]; simp [hs], fun _ => by rw [p5]; exact atB_set hl2 s⟩
  · show (if x.d = true then x.now else s) ≠ noB
    rcases h.tells hf hin with ⟨_, h1⟩ | ⟨h1, h2, h3, h4, h5⟩
    · split
      · exact h1
      · exact hs
    · rw [h5]; exact hs
theorem RelC.gone (h : RelC f cs) (v : Int) : RelC (upd f v none) (cs.filter (notS v)) := by
  have hm : ∀ z, z ∈ cs.filter (notS v) ↔ z ∈ cs ∧ z.s ≠ v := fun z => by
    rw [List.mem_filter]; unfold notS; simp
  refine ⟨h.nd.sublist (List.filter_sublist.map _), fun z hz => ?_, fun m F e hF he => ?_, fun m F e hF he => ?_, fun m F hF => ?_⟩
  · obtain ⟨h1, h2⟩ := (hm z).1 hz
    obtain ⟨F, e, hF, r⟩ := h.cell z h1
    exact ⟨F, e, by rw [upd_other f _ h2]; exact hF, r⟩
  all_goals
    have hmv : m ≠ v := fun e => by subst e; rw [upd_same] at hF; cases hF
    rw [upd_other f _ hmv] at hF
  · obtain ⟨z, hz, z1, z2⟩ := h.all m F e hF he
    exact ⟨z, (hm z).2 ⟨hz, by rw [z1]; exact hmv⟩, z1, z2⟩
  · exact h.non m F e hF he
  · exact h.st m F hF
theorem RelC.fresh (h : RelC f cs) (hf : f i = none) (hi : 0 ≤ i) (hi2 : i < 64) (h1 : E.nt = Set4.zero) (h2 : E.ot = Set4.zero) (h3 : E.dt = Set4.zero) : RelC (upd f i (some E)) cs := by
  refine ⟨h.nd, fun z hz => ?_, fun m F e hF he => ?_, fun m F e hF he => ?_, fun m F hF => ?_⟩
  · obtain ⟨F, e, hF, r⟩ := h.cell z hz
    have hzi : z.s ≠ i := fun e => by rw [e, hf] at hF; cases hF
    exact ⟨F, e, by rw [upd_other f _ hzi]; exact hF, r⟩
  all_goals
    by_cases em : m = i
    · subst em
      rw [upd_same] at hF
      cases hF
      first | (rw [h1, Set4.has_zero] at he; cases he; done) | (rw [h2, h3, Set4.has_zero]; exact ⟨rfl, rfl⟩) | exact ⟨hi, hi2⟩
    · rw [upd_other f _ em] at hF
      first | exact h.all m F e hF he | exact h.non m F e hF he | exact h.st m F hF
/-- An open on both sides. -/
theorem RelC.room (h : RelC f cs) (hk : T.has i = (f i).isSome) (hi : 0 ≤ i) (hi2 : i < 64)
    (how : (f i = some E ∧ f' = f ∧ T' = T.touchT i) ∨ (f i = none ∧ ∃ T0 f0, RoomOf T f T0 f0 ∧ T0.has i = false ∧ T0.full = false ∧ f0 i = none ∧ T' = T0.addT i ∧ f' = upd f0 i (some E) ∧ E.nt = Set4.zero ∧ E.ot = Set4.zero ∧ E.dt = Set4.zero ∧ E.nb = List.replicate data noB ∧ E.ob = List.replicate data noB))
    (hr : RoomR T cs i T1 cs0) : RelC f' cs0 ∧ T1 = T' := by
  rcases how with ⟨hf, rfl, rfl⟩ | ⟨hf, T0, f0, hro, _, _, hf0, rfl, rfl, z1, z2, z3, _⟩
  · rw [hf] at hk
    rcases hr with ⟨_, rfl, rfl⟩ | ⟨h1, _⟩ | ⟨h1, _⟩
    · exact ⟨h, rfl⟩
    · rw [hk] at h1; cases h1
    · rw [hk] at h1; cases h1
  · rw [hf] at hk
    rcases hro with ⟨hfu, rfl, rfl⟩ | ⟨hfu, v, hv, rfl, rfl⟩
    · rcases hr with ⟨h1, _⟩ | ⟨_, _, rfl, rfl⟩ | ⟨_, h1, _⟩
      · rw [hk] at h1; cases h1
      · exact ⟨h.fresh hf0 hi hi2 z1 z2 z3, rfl⟩
      · rw [hfu] at h1; cases h1
    · rcases hr with ⟨h1, _⟩ | ⟨_, h1, _⟩ | ⟨_, _, v', hv', rfl, rfl⟩
      · rw [hk] at h1; cases h1
      · rw [hfu] at h1; cases h1
      · rw [hv] at hv'; cases hv'
        exact ⟨(h.gone v).fresh hf0 hi hi2 z1 z2 z3, rfl⟩
theorem doneC_pr (i : Int) (x : CL) : (doneC i x).pr = x.pr := by unfold doneC CL.pr; split <;> rfl
theorem done_out (N : List ByteArray) (hc : c < 256) : ∀ (l : List Nat) (F : Ent), c ∉ l → (l.foldl (doneS N) F).ot.has c = F.ot.has c
  | [], F, _ => rfl
  | m :: l, F, h => by
    rw [List.foldl_cons, done_out N hc l _ fun hm => h (List.mem_cons_of_mem _ hm), doneS_has N F m hc]
    have : c ≠ m := fun e => h (by rw [e]; exact List.mem_cons_self ..)
    simp [this]
theorem RelC.done (h : RelC f cs) (hf : f i = some E) (hE : EntAt B data w E) : RelC (upd f i (some E.done)) (cs.map (doneC i)) := by
  have hnt : E.done.nt = E.nt := by rw [(done_f E).1]; exact (doneF_same E _).nt
  have hs : ∀ z, (doneC i z).s = z.s ∧ (doneC i z).c = z.c := fun z => by unfold doneC; split <;> exact ⟨rfl, rfl⟩
  refine ⟨?_, fun z hz => ?_, fun m F e hF he => ?_, fun m F e hF he => ?_, fun m F hF => ?_⟩
  · rw [List.map_map, show CL.pr ∘ doneC i = CL.pr from funext fun z => doneC_pr i z]
    exact h.nd
  · obtain ⟨u, hu, rfl⟩ := List.mem_map.1 hz
    obtain ⟨F, e, hF, he, hC, hN⟩ := h.cell u hu
    by_cases eu : u.s = i
    · have hd : doneC i u = { u with d := false, old := u.now } := by unfold doneC; rw [if_pos eu]
      rw [eu, hf] at hF
      cases hF
      rw [hd]
      have he256 := Set4.has_lt hC.nt
      refine ⟨E.done, e, by rw [show ({ u with d := false, old := u.now } : CL).s = i from eu, upd_same], he, ?_, hN⟩
      exact hC.done he256 (by have := hE.i1 e hC.nt; have := hE.l2; omega) hN
    · have hd : doneC i u = u := by unfold doneC; rw [if_neg eu]
      rw [hd]
      exact ⟨F, e, by rw [upd_other f _ eu]; exact hF, he, hC, hN⟩
  all_goals by_cases em : m = i
  · subst em
    rw [upd_same] at hF
    cases hF
    rw [hnt] at he
    obtain ⟨z, hz, z1, z2⟩ := h.all m E e hf he
    exact ⟨doneC m z, List.mem_map.2 ⟨z, hz, rfl⟩, by rw [(hs z).1, z1], by rw [(hs z).2, z2]⟩
  · rw [upd_other f _ em] at hF
    obtain ⟨z, hz, z1, z2⟩ := h.all m F e hF he
    exact ⟨doneC i z, List.mem_map.2 ⟨z, hz, rfl⟩, by rw [(hs z).1, z1], by rw [(hs z).2, z2]⟩
  · subst em
    rw [upd_same] at hF
    cases hF
    rw [hnt] at he
    obtain ⟨p1, p2, p3, p4, p5⟩ := done_f E
    refine ⟨?_, by rw [p3]; exact Set4.has_zero e⟩
    rw [p4]
    by_cases h256 : e < 256
    · unfold doneF
      rw [done_out E.nb h256 _ _ fun hm => by rw [nt_list hm] at he; cases he]
      exact (h.non m E e hf he).1
    · exact Set4.has_ge _ (by omega)
  · rw [upd_other f _ em] at hF
    exact h.non m F e hF he
  · subst em; exact h.st m E hf
  · rw [upd_other f _ em] at hF
    exact h.st m F hF
end Go.Proofs.YtijagdpkclghnaaDoor
/- The document's cache: Columns: a contract. -/
namespace Go.Proofs.YtijagdpkclghnaaDoor
open Go Go.RowKit
set_option maxRecDepth 100000
variable {B data : Nat} {w w' : World} {M M' : RM} {R R' : RS} {cs cs' cs0 cs1 : List CL} {x y : CL} {T T1 : TS} {P D : List RK} {k : Nat}
def inK (kind : Int) (x : CL) : Bool := if kind = 1 then x.d else if kind = 2 then !decide (x.old = noB) else !decide (x.now = noB)
def hitK (kind i : Int) (x : CL) : Bool := decide (x.s = i) && inK kind x
def sumK (kind i : Int) (l : List CL) : Nat := ((l.filter (hitK kind i)).map fun x => 2 ^ x.c.toNat).sum
theorem sumK_succ (kind i : Int) (hx : cs[k]? = some x) : sumK kind i (cs.take (k + 1)) = sumK kind i (cs.take k) + if hitK kind i x then 2 ^ x.c.toNat else 0 := by
  unfold sumK
  rw [filter_succ hx, List.map_append, List.sum_append]
  cases hitK kind i x <;> simp
theorem bnd_succ {n q j : Nat} (h : n ≤ j * 536870912) (hq : q ≤ 536870912) : n + q ≤ (j + 1) * 536870912 := by rw [Nat.succ_mul]; exact Nat.add_le_add h hq
theorem bnd_same {n j : Nat} (h : n ≤ j * 536870912) : n ≤ (j + 1) * 536870912 := Nat.le_trans h (Nat.mul_le_mul_right _ (Nat.le_succ _))
set_option maxHeartbeats 1000000 in
theorem RCol0 (i : Int) (w : World) (h : RCAt B w M data R cs) (hl : cs.length ≤ 900) (hcol : ∀ x ∈ cs, 0 ≤ x.c ∧ x.c < 30) :
    Calls Tryd.prog 45 #[pt M.q, .int .i64 i, .int .i64 0] w fun e w' => e = .returned (.int .i64 (sumK 0 i cs : Int)) ∧ Below w.heap.size w w' := by
  obtain ⟨m, hm⟩ : ∃ m, m = cs.length := ⟨_, rfl⟩
  obtain ⟨a0, c0', hcv⟩ := h.cr.shape
  have HR := Lib.hid (And.intro h (And.intro hcol (And.intro hm hcv)))
  rw [← hm] at hl
  clear h hcol hm hcv
  go_enter Tryd.func45, Tryd.ntmps45
  go_wp2_with fail
  go_loopw [7, 8] (fun s x wr => ∃ (j n : Nat), j ≤ m ∧ x = .int .i64 j ∧ s = .int .i64 n ∧ n ≤ j * 536870912 ∧ Below w.heap.size w wr ∧ n = sumK 0 i (cs.take j)) (fun _ x _ => m - (intOf x).toNat)
  case atStart => exact ⟨0, 0, by omega, rfl, rfl, by omega, Below.refl _ _, by simp [sumK]⟩
  case round =>
    obtain ⟨j, n, hj, rfl, rfl, hn, hBl, hsum⟩ := hrel
    have hA := HR.out.1.below hBl
    obtain ⟨c0, c1, c2, cz⟩ := hA.three
    rw [HR.out.2.2.2, ← HR.out.2.2.1] at c2
    have hql := hA.row.lt
    by_cases hlt : j < m
    · obtain ⟨y, hy⟩ : ∃ y, cs[j]? = some y := ⟨cs[j]'(by rw [← HR.out.2.2.1]; exact hlt), List.getElem?_eq_getElem (by rw [← HR.out.2.2.1]; exact hlt)⟩
      have hst := sumK_succ 0 i hy
      obtain ⟨hc1, hc2⟩ := HR.out.2.1 y (List.mem_of_getElem? hy)
      obtain ⟨c, hc⟩ : ∃ c : Nat, y.c = (c : Int) := ⟨y.c.toNat, by omega⟩
      have hcr := hA.cr
      rw [HR.out.2.2.2, ← HR.out.2.2.1] at hcr
      obtain ⟨g, cg, ev, hBg, hgl, d0, d1, d2, d3, d4, dz⟩ := hcr.at hy
      obtain ⟨rfl, hmL, rfl⟩ := Value.slice.inj ev
      have HS := Lib.hid (And.intro hsum (And.intro hst (And.intro hBl hc)))
      rw [hc] at d1
      have hc30 : c < 30 := by omega
      clear hsum hst hBl hc hc1 hc2 hcr ev hmL hBg hy
      obtain ⟨b, hb⟩ : ∃ b, b = y.s := ⟨_, rfl⟩
      rw [← hb] at d0
      have HB := Lib.hid hb
      clear hb
      have hBl := HS.out.2.2.1
      have hbs := hBl.size
      go_upto_region 6 with fail
      obtain ⟨g9, hg9⟩ : ∃ g9, g9 = wr.heap.size := ⟨_, rfl⟩
      refine wp_world (fun w2 => w2.row g9 [.int .i64 b, .int .i64 (c : Int), .string y.now, .string y.old, .bool y.d] cT ∧ Below w.heap.size w w2) ⟨World.row.new' hg9.symm, (by repeat' (first | (with_reducible exact Below.refl _ _) | (with_reducible assumption) | (with_reducible refine Below.setCell ?_ ?_ _) | (with_reducible refine Below.ext ?_ _ ?_) | (with_reducible refine Below.alloc ?_ ?_ _) | (with_reducible refine Below.drew ?_) | (with_reducible refine Below.drewN ?_ _) | (with_reducible exact Nat.le_refl _) | (dsimp only; omega) | (simp <;> omega)))⟩ ?_
      simp only [← hg9]
      clear hBl hbs hg9 c0 c1 c2 cz d0 d1 d2 d3 d4 dz hgl hql hA
      rintro w2 ⟨r9, B2⟩
      have e0 := r9.cell 0 rfl
      have e1 := r9.cell 1 rfl
      have e2 := r9.cell 2 rfl
      have e3 := r9.cell 3 rfl
      have e4 := r9.cell 4 rfl
      have HT := Lib.hid (And.intro B2 r9)
      clear B2 r9
      by_cases hbi : b = i
      · have hys : y.s = i := by rw [← HB.out]; exact hbi
        cases hin : inK 0 y with
        | true =>
          have hhit : hitK 0 i y = true := by unfold hitK; rw [hin, hys]; simp
          have he : y.now.toList.isEmpty = !inK 0 y := by unfold inK; first | (rw [str_is]; simp; done) | simp
          rw [hin] at he
          (try simp only [Bool.not_true] at he)
          (try rw [he] at e4)
          have hnx : n + 2 ^ c = sumK 0 i (cs.take (j + 1)) := by
            rw [HS.out.2.1, hhit, if_pos rfl, ← HS.out.1, HS.out.2.2.2]; simp
          have HN := Lib.hid hnx
          clear hnx hhit hin hys HS
          go_wp2_with fail
          go_loopw [11, 12] (fun p x wx => ∃ (k q : Nat), k ≤ c ∧ x = .int .i64 k ∧ p = .int .i64 q ∧ q ≤ 536870912 ∧ w2 = wx ∧ q = 2 ^ k) (fun _ x _ => c - (intOf x).toNat)
          case atStart => exact ⟨0, 1, by omega, rfl, rfl, by omega, rfl, rfl⟩
          case round =>
            obtain ⟨k, q, hk, rfl, rfl, hq, rfl, hqe⟩ := hrel
            have HQ := Lib.hid hqe
            clear hqe
            by_cases hkc : k < c
            · have hb2 : 2 * q ≤ 536870912 := by
                have : 2 ^ (k + 1) ≤ 2 ^ 29 := Nat.pow_le_pow_right (by omega) (by omega)
                rw [Nat.pow_succ, ← HQ.out] at this
                omega
              go_wp2_with fail
              go_roundw
              case rel => exact ⟨k + 1, 2 * q, by omega, by go_num, by go_num, hb2, trivial, by rw [HQ.out, Nat.pow_succ]; omega⟩
              case measure => simp [intOf] <;> omega
            · obtain rfl : k = c := by omega
              have hn2 : n + q ≤ 900 * 536870912 := by omega
              have hn3 := bnd_succ hn hq
              go_wp2_with fail
              go_roundw
              case rel => exact ⟨j + 1, n + q, by omega, by go_num, by go_num, hn3, HT.out.1, by rw [← HN.out, HQ.out]⟩
              case measure => simp [intOf] <;> omega
        | false =>
          have hhit : hitK 0 i y = false := by unfold hitK; rw [hin]; simp
          have he : y.now.toList.isEmpty = !inK 0 y := by unfold inK; first | (rw [str_is]; simp; done) | simp
          rw [hin] at he
          (try simp only [Bool.not_false] at he)
          (try rw [he] at e4)
          have hnx : n = sumK 0 i (cs.take (j + 1)) := by
            rw [HS.out.2.1, hhit, if_neg (by simp), Nat.add_zero]; exact HS.out.1
          have HN := Lib.hid hnx
          have hn3 := bnd_same hn
          clear hnx hhit hin hys HS
          go_wp2_with fail
          go_roundw
          case rel => exact ⟨j + 1, n, by omega, by go_num, rfl, hn3, HT.out.1, HN.out⟩
          case measure => simp [intOf] <;> omega
      · have hys : ¬ y.s = i := by rw [← HB.out]; exact hbi
        have hhit : hitK 0 i y = false := by unfold hitK; simp [hys]
        have hnx : n = sumK 0 i (cs.take (j + 1)) := by
          rw [HS.out.2.1, hhit, if_neg (by simp), Nat.add_zero]; exact HS.out.1
        have HN := Lib.hid hnx
        have hn3 := bnd_same hn
        clear hnx hhit hys HS
        go_wp2_with fail
        go_roundw
        case rel => exact ⟨j + 1, n, by omega, by go_num, rfl, hn3, HT.out.1, HN.out⟩
        case measure => simp [intOf] <;> omega
    · have hfin : n = sumK 0 i cs := by rw [hsum, List.take_of_length_le (by have := HR.out.2.2.1; omega)]
      have HN := Lib.hid (And.intro hfin hBl)
      clear hfin hsum hBl hA
      go_wp2_with fail
      go_returns
      exact ⟨by rw [← HN.out.1]; rfl, HN.out.2⟩
set_option maxHeartbeats 1000000 in
theorem RCol1 (i : Int) (w : World) (h : RCAt B w M data R cs) (hl : cs.length ≤ 900) (hcol : ∀ x ∈ cs, 0 ≤ x.c ∧ x.c < 30) :
    Calls Tryd.prog 45 #[pt M.q, .int .i64 i, .int .i64 1] w fun e w' => e = .returned (.int .i64 (sumK 1 i cs : Int)) ∧ Below w.heap.size w w' := by
  obtain ⟨m, hm⟩ : ∃ m, m = cs.length := ⟨_, rfl⟩
  obtain ⟨a0, c0', hcv⟩ := h.cr.shape
  have HR := Lib.hid (And.intro h (And.intro hcol (And.intro hm hcv)))
  rw [← hm] at hl
  clear h hcol hm hcv
  go_enter Tryd.func45, Tryd.ntmps45
  go_wp2_with fail
  go_loopw [7, 8] (fun s x wr => ∃ (j n : Nat), j ≤ m ∧ x = .int .i64 j ∧ s = .int .i64 n ∧ n ≤ j * 536870912 ∧ Below w.heap.size w wr ∧ n = sumK 1 i (cs.take j)) (fun _ x _ => m - (intOf x).toNat)
  case atStart => exact ⟨0, 0, by omega, rfl, rfl, by omega, Below.refl _ _, by simp [sumK]⟩
  case round =>
    obtain ⟨j, n, hj, rfl, rfl, hn, hBl, hsum⟩ := hrel
    have hA := HR.out.1.below hBl
    obtain ⟨c0, c1, c2, cz⟩ := hA.three
    rw [HR.out.2.2.2, ← HR.out.2.2.1] at c2
    have hql := hA.row.lt
    by_cases hlt : j < m
    · obtain ⟨y, hy⟩ : ∃ y, cs[j]? = some y := ⟨cs[j]'(by rw [← HR.out.2.2.1]; exact hlt), List.getElem?_eq_getElem (by rw [← HR.out.2.2.1]; exact hlt)⟩
      have hst := sumK_succ 1 i hy
      obtain ⟨hc1, hc2⟩ := HR.out.2.1 y (List.mem_of_getElem? hy)
      obtain ⟨c, hc⟩ : ∃ c : Nat, y.c = (c : Int) := ⟨y.c.toNat, by omega⟩
      have hcr := hA.cr
      rw [HR.out.2.2.2, ← HR.out.2.2.1] at hcr
      obtain ⟨g, cg, ev, hBg, hgl, d0, d1, d2, d3, d4, dz⟩ := hcr.at hy
      obtain ⟨rfl, hmL, rfl⟩ := Value.slice.inj ev
      have HS := Lib.hid (And.intro hsum (And.intro hst (And.intro hBl hc)))
      rw [hc] at d1
      have hc30 : c < 30 := by omega
      clear hsum hst hBl hc hc1 hc2 hcr ev hmL hBg hy
      obtain ⟨b, hb⟩ : ∃ b, b = y.s := ⟨_, rfl⟩
      rw [← hb] at d0
      have HB := Lib.hid hb
      clear hb
      have hBl := HS.out.2.2.1
      have hbs := hBl.size
      go_upto_region 6 with fail
      obtain ⟨g9, hg9⟩ : ∃ g9, g9 = wr.heap.size := ⟨_, rfl⟩
      refine wp_world (fun w2 => w2.row g9 [.int .i64 b, .int .i64 (c : Int), .string y.now, .string y.old, .bool y.d] cT ∧ Below w.heap.size w w2) ⟨World.row.new' hg9.symm, (by repeat' (first | (with_reducible exact Below.refl _ _) | (with_reducible assumption) | (with_reducible refine Below.setCell ?_ ?_ _) | (with_reducible refine Below.ext ?_ _ ?_) | (with_reducible refine Below.alloc ?_ ?_ _) | (with_reducible refine Below.drew ?_) | (with_reducible refine Below.drewN ?_ _) | (with_reducible exact Nat.le_refl _) | (dsimp only; omega) | (simp <;> omega)))⟩ ?_
      simp only [← hg9]
      clear hBl hbs hg9 c0 c1 c2 cz d0 d1 d2 d3 d4 dz hgl hql hA
      rintro w2 ⟨r9, B2⟩
      have e0 := r9.cell 0 rfl
      have e1 := r9.cell 1 rfl
      have e2 := r9.cell 2 rfl
      have e3 := r9.cell 3 rfl
      have e4 := r9.cell 4 rfl
      have HT := Lib.hid (And.intro B2 r9)
      clear B2 r9
      by_cases hbi : b = i
      · have hys : y.s = i := by rw [← HB.out]; exact hbi
        cases hin : inK 1 y with
        | true =>
          have hhit : hitK 1 i y = true := by unfold hitK; rw [hin, hys]; simp
          have he : y.d = inK 1 y := by unfold inK; first | (rw [str_is]; simp; done) | simp
          rw [hin] at he
          (try simp only [Bool.not_true] at he)
          (try rw [he] at e4)
          have hnx : n + 2 ^ c = sumK 1 i (cs.take (j + 1)) := by
            rw [HS.out.2.1, hhit, if_pos rfl, ← HS.out.1, HS.out.2.2.2]; simp
          have HN := Lib.hid hnx
          clear hnx hhit hin hys HS
          go_wp2_with fail
          go_loopw [11, 12] (fun p x wx => ∃ (k q : Nat), k ≤ c ∧ x = .int .i64 k ∧ p = .int .i64 q ∧ q ≤ 536870912 ∧ w2 = wx ∧ q = 2 ^ k) (fun _ x _ => c - (intOf x).toNat)
          case atStart => exact ⟨0, 1, by omega, rfl, rfl, by omega, rfl, rfl⟩
          case round =>
            obtain ⟨k, q, hk, rfl, rfl, hq, rfl, hqe⟩ := hrel
            have HQ := Lib.hid hqe
            clear hqe
            by_cases hkc : k < c
            · have hb2 : 2 * q ≤ 536870912 := by
                have : 2 ^ (k + 1) ≤ 2 ^ 29 := Nat.pow_le_pow_right (by omega) (by omega)
                rw [Nat.pow_succ, ← HQ.out] at this
                omega
              go_wp2_with fail
              go_roundw
              case rel => exact ⟨k + 1, 2 * q, by omega, by go_num, by go_num, hb2, trivial, by rw [HQ.out, Nat.pow_succ]; omega⟩
              case measure => simp [intOf] <;> omega
            · obtain rfl : k = c := by omega
              have hn2 : n + q ≤ 900 * 536870912 := by omega
              have hn3 := bnd_succ hn hq
              go_wp2_with fail
              go_roundw
              case rel => exact ⟨j + 1, n + q, by omega, by go_num, by go_num, hn3, HT.out.1, by rw [← HN.out, HQ.out]⟩
              case measure => simp [intOf] <;> omega
        | false =>
          have hhit : hitK 1 i y = false := by unfold hitK; rw [hin]; simp
          have he : y.d = inK 1 y := by unfold inK; first | (rw [str_is]; simp; done) | simp
          rw [hin] at he
          (try simp only [Bool.not_false] at he)
          (try rw [he] at e4)
          have hnx : n = sumK 1 i (cs.take (j + 1)) := by
            rw [HS.out.2.1, hhit, if_neg (by simp), Nat.add_zero]; exact HS.out.1
          have HN := Lib.hid hnx
          have hn3 := bnd_same hn
          clear hnx hhit hin hys HS
          go_wp2_with fail
          go_roundw
          case rel => exact ⟨j + 1, n, by omega, by go_num, rfl, hn3, HT.out.1, HN.out⟩
          case measure => simp [intOf] <;> omega
      · have hys : ¬ y.s = i := by rw [← HB.out]; exact hbi
        have hhit : hitK 1 i y = false := by unfold hitK; simp [hys]
        have hnx : n = sumK 1 i (cs.take (j + 1)) := by
          rw [HS.out.2.1, hhit, if_neg (by simp), Nat.add_zero]; exact HS.out.1
        have HN := Lib.hid hnx
        have hn3 := bnd_same hn
        clear hnx hhit hys HS
        go_wp2_with fail
        go_roundw
        case rel => exact ⟨j + 1, n, by omega, by go_num, rfl, hn3, HT.out.1, HN.out⟩
        case measure => simp [intOf] <;> omega
    · have hfin : n = sumK 1 i cs := by rw [hsum, List.take_of_length_le (by have := HR.out.2.2.1; omega)]
      have HN := Lib.hid (And.intro hfin hBl)
      clear hfin hsum hBl hA
      go_wp2_with fail
      go_returns
      exact ⟨by rw [← HN.out.1]; rfl, HN.out.2⟩
set_option maxHeartbeats 1000000 in
theorem RCol2 (i : Int) (w : World) (h : RCAt B w M data R cs) (hl : cs.length ≤ 900) (hcol : ∀ x ∈ cs, 0 ≤ x.c ∧ x.c < 30) :
    Calls Tryd.prog 45 #[pt M.q, .int .i64 i, .int .i64 2] w fun e w' => e = .returned (.int .i64 (sumK 2 i cs : Int)) ∧ Below w.heap.size w w' := by
  obtain ⟨m, hm⟩ : ∃ m, m = cs.length := ⟨_, rfl⟩
  obtain ⟨a0, c0', hcv⟩ := h.cr.shape
  have HR := Lib.hid (And.intro h (And.intro hcol (And.intro hm hcv)))
  rw [← hm] at hl
  clear h hcol hm hcv
  go_enter Tryd.func45, Tryd.ntmps45
  go_wp2_with fail
  go_loopw [7, 8] (fun s x wr => ∃ (j n : Nat), j ≤ m ∧ x = .int .i64 j ∧ s = .int .i64 n ∧ n ≤ j * 536870912 ∧ Below w.heap.size w wr ∧ n = sumK 2 i (cs.take j)) (fun _ x _ => m - (intOf x).toNat)
  case atStart => exact ⟨0, 0, by omega, rfl, rfl, by omega, Below.refl _ _, by simp [sumK]⟩
  case round =>
    obtain ⟨j, n, hj, rfl, rfl, hn, hBl, hsum⟩ := hrel
    have hA := HR.out.1.below hBl
    obtain ⟨c0, c1, c2, cz⟩ := hA.three
    rw [HR.out.2.2.2, ← HR.out.2.2.1] at c2
    have hql := hA.row.lt
    by_cases hlt : j < m
    · obtain ⟨y, hy⟩ : ∃ y, cs[j]? = some y := ⟨cs[j]'(by rw [← HR.out.2.2.1]; exact hlt), List.getElem?_eq_getElem (by rw [← HR.out.2.2.1]; exact hlt)⟩
      have hst := sumK_succ 2 i hy
      obtain ⟨hc1, hc2⟩ := HR.out.2.1 y (List.mem_of_getElem? hy)
      obtain ⟨c, hc⟩ : ∃ c : Nat, y.c = (c : Int) := ⟨y.c.toNat, by omega⟩
      have hcr := hA.cr
      rw [HR.out.2.2.2, ← HR.out.2.2.1] at hcr
      obtain ⟨g, cg, ev, hBg, hgl, d0, d1, d2, d3, d4, dz⟩ := hcr.at hy
      obtain ⟨rfl, hmL, rfl⟩ := Value.slice.inj ev
      have HS := Lib.hid (And.intro hsum (And.intro hst (And.intro hBl hc)))
      rw [hc] at d1
      have hc30 : c < 30 := by omega
      clear hsum hst hBl hc hc1 hc2 hcr ev hmL hBg hy
      obtain ⟨b, hb⟩ : ∃ b, b = y.s := ⟨_, rfl⟩
      rw [← hb] at d0
      have HB := Lib.hid hb
      clear hb
      have hBl := HS.out.2.2.1
      have hbs := hBl.size
      go_upto_region 6 with fail
      obtain ⟨g9, hg9⟩ : ∃ g9, g9 = wr.heap.size := ⟨_, rfl⟩
      refine wp_world (fun w2 => w2.row g9 [.int .i64 b, .int .i64 (c : Int), .string y.now, .string y.old, .bool y.d] cT ∧ Below w.heap.size w w2) ⟨World.row.new' hg9.symm, (by repeat' (first | (with_reducible exact Below.refl _ _) | (with_reducible assumption) | (with_reducible refine Below.setCell ?_ ?_ _) | (with_reducible refine Below.ext ?_ _ ?_) | (with_reducible refine Below.alloc ?_ ?_ _) | (with_reducible refine Below.drew ?_) | (with_reducible refine Below.drewN ?_ _) | (with_reducible exact Nat.le_refl _) | (dsimp only; omega) | (simp <;> omega)))⟩ ?_
      simp only [← hg9]
      clear hBl hbs hg9 c0 c1 c2 cz d0 d1 d2 d3 d4 dz hgl hql hA
      rintro w2 ⟨r9, B2⟩
      have e0 := r9.cell 0 rfl
      have e1 := r9.cell 1 rfl
      have e2 := r9.cell 2 rfl
      have e3 := r9.cell 3 rfl
      have e4 := r9.cell 4 rfl
      have HT := Lib.hid (And.intro B2 r9)
      clear B2 r9
      by_cases hbi : b = i
      · have hys : y.s = i := by rw [← HB.out]; exact hbi
        cases hin : inK 2 y with
        | true =>
          have hhit : hitK 2 i y = true := by unfold hitK; rw [hin, hys]; simp
          have he : y.old.toList.isEmpty = !inK 2 y := by unfold inK; first | (rw [str_is]; simp; done) | simp
          rw [hin] at he
          (try simp only [Bool.not_true] at he)
          (try rw [he] at e4)
          have hnx : n + 2 ^ c = sumK 2 i (cs.take (j + 1)) := by
            rw [HS.out.2.1, hhit, if_pos rfl, ← HS.out.1, HS.out.2.2.2]; simp
          have HN := Lib.hid hnx
          clear hnx hhit hin hys HS
          go_wp2_with fail
          go_loopw [11, 12] (fun p x wx => ∃ (k q : Nat), k ≤ c ∧ x = .int .i64 k ∧ p = .int .i64 q ∧ q ≤ 536870912 ∧ w2 = wx ∧ q = 2 ^ k) (fun _ x _ => c - (intOf x).toNat)
          case atStart => exact ⟨0, 1, by omega, rfl, rfl, by omega, rfl, rfl⟩
          case round =>
            obtain ⟨k, q, hk, rfl, rfl, hq, rfl, hqe⟩ := hrel
            have HQ := Lib.hid hqe
            clear hqe
            by_cases hkc : k < c
            · have hb2 : 2 * q ≤ 536870912 := by
                have : 2 ^ (k + 1) ≤ 2 ^ 29 := Nat.pow_le_pow_right (by omega) (by omega)
                rw [Nat.pow_succ, ← HQ.out] at this
                omega
              go_wp2_with fail
              go_roundw
              case rel => exact ⟨k + 1, 2 * q, by omega, by go_num, by go_num, hb2, trivial, by rw [HQ.out, Nat.pow_succ]; omega⟩
              case measure => simp [intOf] <;> omega
            · obtain rfl : k = c := by omega
              have hn2 : n + q ≤ 900 * 536870912 := by omega
              have hn3 := bnd_succ hn hq
              go_wp2_with fail
              go_roundw
              case rel => exact ⟨j + 1, n + q, by omega, by go_num, by go_num, hn3, HT.out.1, by rw [← HN.out, HQ.out]⟩
              case measure => simp [intOf] <;> omega
        | false =>
          have hhit : hitK 2 i y = false := by unfold hitK; rw [hin]; simp
          have he : y.old.toList.isEmpty = !inK 2 y := by unfold inK; first | (rw [str_is]; simp; done) | simp
          rw [hin] at he
          (try simp only [Bool.not_false] at he)
          (try rw [he] at e4)
          have hnx : n = sumK 2 i (cs.take (j + 1)) := by
            rw [HS.out.2.1, hhit, if_neg (by simp), Nat.add_zero]; exact HS.out.1
          have HN := Lib.hid hnx
          have hn3 := bnd_same hn
          clear hnx hhit hin hys HS
          go_wp2_with fail
          go_roundw
          case rel => exact ⟨j + 1, n, by omega, by go_num, rfl, hn3, HT.out.1, HN.out⟩
          case measure => simp [intOf] <;> omega
      · have hys : ¬ y.s = i := by rw [← HB.out]; exact hbi
        have hhit : hitK 2 i y = false := by unfold hitK; simp [hys]
        have hnx : n = sumK 2 i (cs.take (j + 1)) := by
          rw [HS.out.2.1, hhit, if_neg (by simp), Nat.add_zero]; exact HS.out.1
        have HN := Lib.hid hnx
        have hn3 := bnd_same hn
        clear hnx hhit hys HS
        go_wp2_with fail
        go_roundw
        case rel => exact ⟨j + 1, n, by omega, by go_num, rfl, hn3, HT.out.1, HN.out⟩
        case measure => simp [intOf] <;> omega
    · have hfin : n = sumK 2 i cs := by rw [hsum, List.take_of_length_le (by have := HR.out.2.2.1; omega)]
      have HN := Lib.hid (And.intro hfin hBl)
      clear hfin hsum hBl hA
      go_wp2_with fail
      go_returns
      exact ⟨by rw [← HN.out.1]; rfl, HN.out.2⟩
end Go.Proofs.YtijagdpkclghnaaDoor
/- The document's cache: Dirty, Drop: contracts. -/
namespace Go.Proofs.YtijagdpkclghnaaDoor
open Go Go.RowKit
set_option maxRecDepth 100000
variable {B data : Nat} {w w' : World} {M M' : RM} {R R' : RS} {cs cs' cs0 cs1 : List CL} {x y : CL} {T T1 : TS} {P D : List RK} {k : Nat}
def dirtyK (cs : List CL) (t : Int) : Bool := !(sumK 1 t cs == 0)
theorem upto_succ (t : Nat) : upto (t + 1) = upto t ++ [(t : Int)] := by unfold upto; rw [List.range_succ, List.map_append]; rfl
theorem RDirty_any (w : World) (h : RCAt B w M data R cs) (hl : cs.length ≤ 900) (hcol : ∀ x ∈ cs, 0 ≤ x.c ∧ x.c < 30) :
    Calls Tryd.prog 47 #[pt M.q] w fun e w' => (∃ v, e = .returned v ∧ w'.irow w.heap.size tI v ((upto 64).filter (dirtyK cs))) ∧ Below w.heap.size w w' := by
  have hC := fun (t : Int) w' (hb : Below w.heap.size w w') => RCol1 t w' (h.below hb) hl hcol
  have HC := Lib.hid hC
  clear hC h hl hcol
  go_enter Tryd.func47, Tryd.ntmps47
  go_wp2_with fail
  go_loopw [3, 4] (fun v x wr => ∃ (t : Nat), t ≤ 64 ∧ x = .int .i64 t ∧ wr.irow w.heap.size tI v ((upto t).filter (dirtyK cs)) ∧ Below w.heap.size w wr) (fun _ x _ => 64 - (intOf x).toNat)
  case atStart => exact ⟨0, by omega, rfl, World.irow.nil _ _ _, Below.refl _ _⟩
  case round =>
    obtain ⟨t, ht, rfl, hr, hB⟩ := hrel
    by_cases hlt : t < 64
    · have hnext : (upto (t + 1)).filter (dirtyK cs) = (upto t).filter (dirtyK cs) ++ (if dirtyK cs (t : Int) = true then [(t : Int)] else []) := by
        rw [upto_succ, List.filter_append]
        cases hd : dirtyK cs (t : Int) <;> simp [List.filter, hd]
      have hlen : ((upto t).filter (dirtyK cs)).length ≤ 64 := by
        have h5 := List.length_filter_le (dirtyK cs) (upto t)
        have : (upto t).length = t := by simp [upto]
        omega
      obtain ⟨av, nv, cv, rfl⟩ := own_shape hr
      have HX := Lib.hid (And.intro hr (And.intro hB (And.intro hnext hlen)))
      obtain ⟨nI, hnI⟩ : ∃ nI : Int, nI = (sumK 1 (t : Int) cs : Int) := ⟨_, rfl⟩
      have hCt := HC.out (t : Int) wr hB
      rw [← hnI] at hCt
      have HCt := Lib.hid (And.intro hCt hnI)
      clear hr hB hnext hlen hCt hnI
      go_wp2_with fail
      refine Calls.pure_to HCt.out.1 ?_
      intro w5 b5
      have H5 := Lib.hid (And.intro (irow_below HX.out.1 b5) (HX.out.2.1.trans (b5.mono HX.out.2.1.size)))
      clear b5
      by_cases hz : nI = 0
      · have HZ : Hid (dirtyK cs (t : Int) = false) := Lib.hid (by unfold dirtyK; have := HCt.out.2; simp; omega)
        have hz1 : (nI != 0) = false := by rw [hz]; rfl
        clear hz
        go_wp2_with fail
        go_roundw
        case rel => exact ⟨t + 1, by omega, by go_num, by rw [HX.out.2.2.1, HZ.out, if_neg (by simp), List.append_nil]; exact H5.out.1, H5.out.2⟩
        case measure => simp [intOf] <;> omega
      · have HZ : Hid (dirtyK cs (t : Int) = true) := Lib.hid (by unfold dirtyK; have := HCt.out.2; simp; omega)
        have hz1 : (nI != 0) = true := by simpa using hz
        have hs5 := H5.out.2.size
        go_upto_region 7 with fail
        go_step
        with_reducible apply op_mv
        (case hw => rfl)
        simp only [Act.put, Act.eval, List.setIfInBounds_toArray, List.set_cons_zero, List.set_cons_succ]
        with_reducible apply op_mv
        (case hw => rfl)
        simp only [Act.put, Act.eval, List.setIfInBounds_toArray, List.set_cons_zero, List.set_cons_succ]
        with_reducible apply op_bs1
        (case hw => rfl)
        (case hx => rfl)
        (case hb => exact buildSlice_i (t : Int))
        simp only [Act.put, List.setIfInBounds_toArray, List.set_cons_zero, List.set_cons_succ]
        with_reducible apply op_append1
        (case hw => rfl)
        (case ht => exact Tryd.underlying45)
        (case hi => exact infoInt)
        (case hzs => rfl)
        (case hsz => decide)
        (case hown => exact World.ownsRow.alloc H5.out.1 _)
        (case hs => rfl)
        (case hx => rfl)
        (case hr => exact World.row.new' (cs := [Value.int .i64 (t : Int)]) rfl)
        (case hl => rfl)
        (case h1 => intro u hu; rw [List.mem_singleton.1 hu]; rfl)
        (case h63 => have := HX.out.2.2.2; omega)
        (case hbb => decide)
        (case hbase => simp; omega)
        intro v' w9 ho hgr hloc
        simp only [Act.put, List.setIfInBounds_toArray, List.set_cons_zero, List.set_cons_succ]
        have B9 := below_own (H5.out.2.alloc (by omega) (.cells [Value.int .i64 (t : Int)].toArray tI)) hgr (World.ownsRow.alloc H5.out.1 _) (Nat.le_refl _) (by simp; omega)
        have H9 := Lib.hid (And.intro (irow_snoc ho) B9)
        clear ho B9 hgr hloc
        go_wp2_with fail
        go_roundw
        case rel => exact ⟨t + 1, by omega, by go_num, by rw [HX.out.2.2.1, HZ.out, if_pos rfl]; exact H9.out.1, H9.out.2⟩
        case measure => simp [intOf] <;> omega
    · obtain rfl : t = 64 := by omega
      obtain ⟨av, nv, cv, rfl⟩ := own_shape hr
      have HB := Lib.hid (And.intro hr hB)
      clear hr hB
      go_wp2_with fail
      go_returns
      exact ⟨⟨_, rfl, HB.out.1⟩, HB.out.2⟩
theorem RDropC_no (i : Int) (w : World) (h : RCAt B w M data R cs) (hl : cs.length ≤ 900) (hrel : Rel T R P D) (hg : Good T) (hcol : ∀ x ∈ cs, 0 ≤ x.c ∧ x.c < 30) (hno : T.has i = false ∨ sumK 1 i cs ≠ 0) :
    Calls Tryd.prog 22 #[pt M.q, .int .i64 i] w fun e w' => e = .returned (.bool false) ∧ Below w.heap.size w w' := by
  obtain ⟨c0, c1, c2, cz⟩ := h.three
  have hF := Find_any i w h.turn (by have := hrel.len64 hg; omega)
  have hC := RCol1 i w h hl hcol
  obtain ⟨nI, hnI⟩ : ∃ nI : Int, nI = (sumK 1 i cs : Int) := ⟨_, rfl⟩
  rw [← hnI] at hC
  have H := Lib.hid (And.intro hF (And.intro hC (And.intro hrel (And.intro hnI hno))))
  clear hF hC hrel hg hnI hno h
  go_enter Tryd.func22, Tryd.ntmps22
  go_wp2_with fail
  refine H.out.1.mono ?_
  rintro e w1 ⟨⟨z, rfl, hz⟩, rfl⟩
  rcases H.out.2.2.1.find hz with ⟨rfl, hh⟩ | ⟨fi, fx, rfl, _, _, hh, _⟩
  · clear hz hh
    go_wp2_with fail
    refine Calls.pure_to H.out.2.1 ?_
    intro w2 b2
    have HB := Lib.hid b2
    clear b2 c0 c1 c2 cz
    go_wp2_with fail
    go_returns
    exact ⟨rfl, HB.out⟩
  · have hz1 : (nI != 0) = true := by
      rcases H.out.2.2.2.2 with h1 | h1
      · rw [hh] at h1; cases h1
      · have := H.out.2.2.2.1; simp; omega
    clear hz hh
    go_wp2_with fail
    refine Calls.pure_to H.out.2.1 ?_
    intro w2 b2
    have HB := Lib.hid b2
    clear b2 c0 c1 c2 cz
    go_wp2_with fail
    go_returns
    exact ⟨rfl, HB.out⟩
theorem RDropC_yes (i : Int) (w : World) (h : RCAt B w M data R cs) (hl : cs.length ≤ 900) (hrel : Rel T R P D) (hg : Good T) (hn : T.pins.Nodup) (hcol : ∀ x ∈ cs, 0 ≤ x.c ∧ x.c < 30) (hh : T.has i = true) (hz0 : sumK 1 i cs = 0) :
    Calls Tryd.prog 22 #[pt M.q, .int .i64 i] w fun e w' => e = .returned (.bool true) ∧ ∃ (M' : RM) (R' : RS) (P' D' : List RK), RCAt B w' M' data R' (cs.filter (notS i)) ∧ Rel (T.dropT i) R' P' D' ∧ MStep M M' w w' ∧ R'.clock = R.clock := by
  obtain ⟨c0, c1, c2, cz⟩ := h.three
  have hF := Find_any i w h.turn (by have := hrel.len64 hg; omega)
  have hC := RCol1 i w h hl hcol
  rw [hz0] at hC
  have H := Lib.hid (And.intro hF (And.intro hC (And.intro hrel (And.intro hh (And.intro h (And.intro hg (And.intro hn hl)))))))
  clear hF hC hrel hg hz0 h hh hn
  go_enter Tryd.func22, Tryd.ntmps22
  go_wp2_with fail
  refine H.out.1.mono ?_
  rintro e w1 ⟨⟨z, rfl, hz⟩, rfl⟩
  rcases H.out.2.2.1.find hz with ⟨rfl, hh⟩ | ⟨fi, fx, rfl, _, _, hh, _⟩
  · rw [H.out.2.2.2.1] at hh; cases hh
  · clear hz hh
    go_wp2_with fail
    refine Calls.pure_to H.out.2.1 ?_
    intro w2 b2
    have A2 := H.out.2.2.2.2.1.below b2
    have hO := ROut_any i w2 A2 (by have := H.out.2.2.2.2.2.2.2; omega) H.out.2.2.1 H.out.2.2.2.2.2.1 H.out.2.2.2.2.2.2.1
    have HO := Lib.hid (And.intro hO b2)
    clear hO b2 A2 c0 c1 c2 cz
    go_wp2_with fail
    refine HO.out.1.mono ?_
    rintro e w3 ⟨rfl, M3, R3, P3, D3, A3, hr3, S3, hk3⟩
    have HA := Lib.hid (And.intro A3 (And.intro hr3 (And.intro S3 hk3)))
    clear A3 hr3 S3 hk3
    go_wp2_with fail
    go_returns
    exact ⟨rfl, M3, R3, P3, D3, HA.out.1, HA.out.2.1, (MStep.of_below M HO.out.2).trans HA.out.2.2.1, HA.out.2.2.2⟩
end Go.Proofs.YtijagdpkclghnaaDoor
/- A cache: refusals, Get and Old of any column, Have, Known, and what is answered of nil: contracts. -/
namespace Go.Proofs.YtijagdpkclghnaaDoor
open Go Go.RowKit
set_option maxRecDepth 100000
variable {B n data : Nat} {w w' : World} {C C' : CM} {T T' : TS} {L L' : List Int} {f f' : Int → Option Ent} {E : Ent} {i j : Int}
abbrev pnil : Value := .pointer none
theorem open_range (s : ByteArray) (w : World) (h : CacheAt B n data w C T L f) (hr : i < 0 ∨ 64 ≤ i ∨ j < 0 ∨ (data : Int) ≤ j) :
    Calls Tryd.prog 26 #[pt C.g, .int .i64 i, .int .i64 j, .string s] w fun e w' => e = .returned (.tuple #[pnil, .int .i64 3]) ∧ Below w.heap.size w w' := by
  obtain ⟨c0, c1, c2⟩ := h.three
  by_cases h1 : i < 0
  · clear hr
    go_enter Tryd.func26, Tryd.ntmps26
    go_wp2_with fail
    go_ret2
    exact ⟨rfl, Below.refl _ _⟩
  · by_cases h2 : 64 ≤ i
    · clear hr
      go_enter Tryd.func26, Tryd.ntmps26
      go_wp2_with fail
      go_ret2
      exact ⟨rfl, Below.refl _ _⟩
    · by_cases h3 : j < 0
      · clear hr
        go_enter Tryd.func26, Tryd.ntmps26
        go_wp2_with fail
        go_ret2
        exact ⟨rfl, Below.refl _ _⟩
      · have h4 : (data : Int) ≤ j := by omega
        clear hr
        go_enter Tryd.func26, Tryd.ntmps26
        go_wp2_with fail
        go_ret2
        exact ⟨rfl, Below.refl _ _⟩
theorem open_form (s : ByteArray) (w : World) (h : CacheAt B n data w C T L f) (hi : 0 ≤ i) (hi2 : i < 64) (hj : 0 ≤ j) (hj2 : j < (data : Int)) (hs : s.size ≠ 64) :
    Calls Tryd.prog 26 #[pt C.g, .int .i64 i, .int .i64 j, .string s] w fun e w' => e = .returned (.tuple #[pnil, .int .i64 4]) ∧ Below w.heap.size w w' := by
  obtain ⟨c0, c1, c2⟩ := h.three
  have hsI : ¬ (s.size : Int) = 64 := by omega
  go_enter Tryd.func26, Tryd.ntmps26
  go_wp2_with fail
  go_ret2
  exact ⟨rfl, Below.refl _ _⟩
theorem open_nil (s : ByteArray) (w : World) : Calls Tryd.prog 26 #[pnil, .int .i64 i, .int .i64 j, .string s] w fun e w' => e = .returned (.tuple #[pnil, .int .i64 1]) ∧ Below w.heap.size w w' := by
  go_enter Tryd.func26, Tryd.ntmps26
  go_wp2_with fail
  go_ret2
  exact ⟨rfl, Below.refl _ _⟩
theorem Fill_er (s : ByteArray) (v : Value) (er : Int) (w : World) (he : er = 1 ∨ er = 3 ∨ er = 4 ∨ er = 10) (hO : Calls Tryd.prog 26 #[v, .int .i64 i, .int .i64 j, .string s] w fun e w' => e = .returned (.tuple #[pnil, .int .i64 er]) ∧ Below w.heap.size w w') :
    Calls Tryd.prog 11 #[v, .int .i64 i, .int .i64 j, .string s] w fun e w' => e = .returned (.int .i64 er) ∧ Below w.heap.size w w' := by
  rcases he with rfl | rfl | rfl | rfl
  all_goals
    have HO := Lib.hid hO
    clear hO
    go_enter Tryd.func11, Tryd.ntmps11
    go_wp2_with fail
    refine Calls.pure_to HO.out ?_
    intro w1 b1
    go_wp2_with fail
    go_returns
    exact ⟨rfl, b1⟩
theorem Put_er (s : ByteArray) (v : Value) (er : Int) (w : World) (he : er = 1 ∨ er = 3 ∨ er = 4 ∨ er = 10) (hO : Calls Tryd.prog 26 #[v, .int .i64 i, .int .i64 j, .string s] w fun e w' => e = .returned (.tuple #[pnil, .int .i64 er]) ∧ Below w.heap.size w w') :
    Calls Tryd.prog 10 #[v, .int .i64 i, .int .i64 j, .string s] w fun e w' => e = .returned (.int .i64 er) ∧ Below w.heap.size w w' := by
  rcases he with rfl | rfl | rfl | rfl
  all_goals
    have HO := Lib.hid hO
    clear hO
    go_enter Tryd.func10, Tryd.ntmps10
    go_wp2_with fail
    refine Calls.pure_to HO.out ?_
    intro w1 b1
    go_wp2_with fail
    go_returns
    exact ⟨rfl, b1⟩
theorem row_nil (w : World) : Calls Tryd.prog 31 #[pnil, .int .i64 i] w fun e w' => e = .returned pnil ∧ w = w' := by
  go_enter Tryd.func31, Tryd.ntmps31
  go_wp2_with fail
  go_returns
  exact ⟨rfl, rfl⟩
theorem Get_nil (w : World) : Calls Tryd.prog 14 #[pnil, .int .i64 i, .int .i64 j] w fun e w' => e = .returned (.tuple #[.string noB, .bool false]) ∧ w = w' := by
  go_enter Tryd.func14, Tryd.ntmps14
  go_wp2_with fail
  refine (row_nil w).mono ?_
  rintro e w1 ⟨rfl, rfl⟩
  go_wp2_with fail
  go_ret2
  exact ⟨rfl, rfl⟩
theorem Done_nil (w : World) : Calls Tryd.prog 12 #[pnil, .int .i64 i] w fun e w' => e = .returned (.bool false) ∧ w = w' := by
  go_enter Tryd.func12, Tryd.ntmps12
  go_wp2_with fail
  refine (row_nil w).mono ?_
  rintro e w1 ⟨rfl, rfl⟩
  go_wp2_with fail
  go_returns
  exact ⟨rfl, rfl⟩
theorem Drop_nil (w : World) : Calls Tryd.prog 15 #[pnil, .int .i64 i] w fun e w' => e = .returned (.bool false) ∧ w = w' := by
  go_enter Tryd.func15, Tryd.ntmps15
  go_wp2_with fail
  refine (row_nil w).mono ?_
  rintro e w1 ⟨rfl, rfl⟩
  go_wp2_with fail
  go_returns
  exact ⟨rfl, rfl⟩
theorem Dirty_nil (w : World) : Calls Tryd.prog 18 #[pnil] w fun e w' => e = .returned (.slice none 0 0) ∧ w = w' := by
  go_enter Tryd.func18, Tryd.ntmps18
  go_wp2_with fail
  go_returns
  exact ⟨rfl, rfl⟩
theorem TNew_no (most dear : Int) (w : World) (h : most < 1 ∨ 64 < most ∨ dear < 0 ∨ most ≤ dear) : Calls Tryd.prog 25 #[.int .i64 most, .int .i64 dear] w fun e w' => e = .returned (.tuple #[pnil, .int .i64 2]) ∧ w = w' := by
  by_cases h1 : most < 1
  · go_enter Tryd.func25, Tryd.ntmps25
    go_wp2_with fail
    go_ret2
    exact ⟨rfl, rfl⟩
  · by_cases h2 : 64 < most
    · go_enter Tryd.func25, Tryd.ntmps25
      go_wp2_with fail
      go_ret2
      exact ⟨rfl, rfl⟩
    · by_cases h3 : dear < 0
      · go_enter Tryd.func25, Tryd.ntmps25
        go_wp2_with fail
        go_ret2
        exact ⟨rfl, rfl⟩
      · have h4 : most ≤ dear := by omega
        go_enter Tryd.func25, Tryd.ntmps25
        go_wp2_with fail
        go_ret2
        exact ⟨rfl, rfl⟩
theorem CNew_bad (most dear dt : Int) (w : World) (h : most < 1 ∨ 64 < most ∨ dear < 0 ∨ most ≤ dear) : Calls Tryd.prog 7 #[.int .i64 most, .int .i64 dear, .int .i64 dt] w fun e w' => e = .returned (.tuple #[pnil, .int .i64 2]) ∧ Below w.heap.size w w' := by
  have HN := Lib.hid (TNew_no most dear w h)
  clear h
  go_enter Tryd.func7, Tryd.ntmps7
  go_wp2_with fail
  refine HN.out.mono ?_
  rintro e w1 ⟨rfl, rfl⟩
  go_wp2_with fail
  go_ret2
  exact ⟨rfl, Below.refl _ _⟩
theorem shelf_no (w : World) (o : Nat) (s : Set4) (g : Nat) (ho : o = 0 ∨ o = 5) (h0 : w.cell? ⟨g, o, none⟩ = some (.int .u64 (s.a : Int))) (h1 : w.cell? ⟨g, o + 1, none⟩ = some (.int .u64 (s.b : Int))) (h2 : w.cell? ⟨g, o + 2, none⟩ = some (.int .u64 (s.c : Int))) (h3 : w.cell? ⟨g, o + 3, none⟩ = some (.int .u64 (s.d : Int)))
    (hn : ∀ c : Nat, j = (c : Int) → s.has c = false) :
    Calls Tryd.prog 33 #[.pointer (some ⟨g, o, none⟩), .int .i64 j] w fun e w' => e = .returned (.tuple #[.string noB, .bool false]) ∧ Below w.heap.size w w' := by
  have hH : Calls Tryd.prog 30 #[s.val, .int .i64 j] w fun e w' => e = .returned (.bool false) ∧ Below w.heap.size w w' := by
    by_cases hj : j < 0 ∨ 256 ≤ j
    · exact Has_no s j w hj
    · have := Has_yes s j.toNat w (by omega)
      rw [hn j.toNat (by omega), show ((j.toNat : Nat) : Int) = j by omega] at this
      exact this
  have HH := Lib.hid hH
  clear hH hn
  rcases ho with rfl | rfl
  all_goals
    go_enter Tryd.func33, Tryd.ntmps33
    go_wp2_with fail
    refine Calls.pure_to HH.out ?_
    intro w1 b1
    clear h0 h1 h2 h3
    go_wp2_with fail
    go_ret2
    exact ⟨rfl, b1⟩
/-- Of a column that isn't there nothing is had. -/
theorem Get_no (w : World) (h : CacheAt B n data w C T L f) (hi : In64 i) (hn : ∀ E (c : Nat), f i = some E → j = (c : Int) → E.nt.has c = false) :
    Calls Tryd.prog 14 #[pt C.g, .int .i64 i, .int .i64 j] w fun e w' => e = .returned (.tuple #[.string noB, .bool false]) ∧ Below w.heap.size w w' := by
  have hR := row_any i w h hi
  cases hf : f i with
  | none =>
    rw [hf] at hR
    simp only [Option.map_none, ptrV] at hR
    have HR := Lib.hid hR
    clear hR h hn hi
    go_enter Tryd.func14, Tryd.ntmps14
    go_wp2_with fail
    refine HR.out.mono ?_
    rintro e w1 ⟨rfl, rfl⟩
    go_wp2_with fail
    go_ret2
    exact ⟨rfl, Below.refl _ _⟩
  | some E =>
    rw [hf] at hR
    simp only [Option.map_some, ptrV] at hR
    have hE := h.ent i E hf
    have hG := shelf_no w 0 E.nt E.g (.inl rfl) (hE.row.cell 0 rfl) (hE.row.cell 1 rfl) (hE.row.cell 2 rfl) (hE.row.cell 3 rfl) fun c => hn E c hf
    have HR := Lib.hid (And.intro hR hG)
    clear hR h hG hn hi hE
    go_enter Tryd.func14, Tryd.ntmps14
    go_wp2_with fail
    refine HR.out.1.mono ?_
    rintro e w1 ⟨rfl, rfl⟩
    go_wp2_with fail
    refine Calls.pure_to HR.out.2 ?_
    intro w2 b2
    go_wp2_with fail
    go_ret2
    exact ⟨rfl, b2⟩
theorem Old_no (w : World) (h : CacheAt B n data w C T L f) (hi : In64 i) (hn : ∀ E (c : Nat), f i = some E → j = (c : Int) → E.ot.has c = false) :
    Calls Tryd.prog 13 #[pt C.g, .int .i64 i, .int .i64 j] w fun e w' => e = .returned (.tuple #[.string noB, .bool false]) ∧ Below w.heap.size w w' := by
  have hR := row_any i w h hi
  cases hf : f i with
  | none =>
    rw [hf] at hR
    simp only [Option.map_none, ptrV] at hR
    have HR := Lib.hid hR
    clear hR h hn hi
    go_enter Tryd.func13, Tryd.ntmps13
    go_wp2_with fail
    refine HR.out.mono ?_
    rintro e w1 ⟨rfl, rfl⟩
    go_wp2_with fail
    go_ret2
    exact ⟨rfl, Below.refl _ _⟩
  | some E =>
    rw [hf] at hR
    simp only [Option.map_some, ptrV] at hR
    have hE := h.ent i E hf
    have hG := shelf_no w 5 E.ot E.g (.inr rfl) (hE.row.cell 5 rfl) (hE.row.cell 6 rfl) (hE.row.cell 7 rfl) (hE.row.cell 8 rfl) fun c => hn E c hf
    have HR := Lib.hid (And.intro hR hG)
    clear hR h hG hn hi hE
    go_enter Tryd.func13, Tryd.ntmps13
    go_wp2_with fail
    refine HR.out.1.mono ?_
    rintro e w1 ⟨rfl, rfl⟩
    go_wp2_with fail
    refine Calls.pure_to HR.out.2 ?_
    intro w2 b2
    go_wp2_with fail
    go_ret2
    exact ⟨rfl, b2⟩
theorem results_cell2 {fn : Func} {p q : Tmp} {ty : TypeId} (h : fn.results = #[.cell p ty, .cell q ty]) (tmps : Array Value) (P : Program) (w : World) :
    (results fn tmps).run P w =
      ((asAddr (tmps.getD p undef)).run P w).andThen fun a w₁ => ((loadVar ty a).run P w₁).andThen fun v w₂ => ((asAddr (tmps.getD q undef)).run P w₂).andThen fun b w₃ => ((loadVar ty b).run P w₃).andThen fun u w₄ => .ok (.tuple #[v, u]) w₄ := by
  simp only [results, h]
  simp [Sem.run_bind, Result.andThen]
def knownS (f : Int → Option Ent) (i : Int) : Set4 := match f i with
  | none => Set4.zero
  | some E => E.ot
def haveS (f : Int → Option Ent) (i : Int) : Set4 := match f i with
  | none => Set4.zero
  | some E => E.nt
def dirtS (f : Int → Option Ent) (i : Int) : Set4 := match f i with
  | none => Set4.zero
  | some E => E.dt
theorem Known_any (i : Int) (w : World) (h : CacheAt B n data w C T L f) (hi : In64 i) :
    Calls Tryd.prog 49 #[pt C.g, .int .i64 i] w fun e w' => e = .returned (knownS f i).val ∧ Below w.heap.size w w' := by
  have hR := fun w' hb => row_any i w' (h.below hb) hi
  unfold knownS
  cases hf : f i with
  | none =>
    rw [hf] at hR
    simp only [Option.map_none, ptrV] at hR
    have HR := Lib.hid hR
    clear hR h hi
    go_enter Tryd.func49, Tryd.ntmps49
    go_wp2_with fail
    refine (HR.out _ (by repeat' (first | (with_reducible exact Below.refl _ _) | (with_reducible assumption) | (with_reducible refine Below.setCell ?_ ?_ _) | (with_reducible refine Below.ext ?_ _ ?_) | (with_reducible refine Below.alloc ?_ ?_ _) | (with_reducible refine Below.drew ?_) | (with_reducible refine Below.drewN ?_ _) | (with_reducible exact Nat.le_refl _) | (dsimp only; omega) | (simp <;> omega)))).mono ?_
    rintro e w1 ⟨rfl, rfl⟩
    go_wp2_with fail
    go_returns
    exact ⟨rfl, (by repeat' (first | (with_reducible exact Below.refl _ _) | (with_reducible assumption) | (with_reducible refine Below.setCell ?_ ?_ _) | (with_reducible refine Below.ext ?_ _ ?_) | (with_reducible refine Below.alloc ?_ ?_ _) | (with_reducible refine Below.drew ?_) | (with_reducible refine Below.drewN ?_ _) | (with_reducible exact Nat.le_refl _) | (dsimp only; omega) | (simp <;> omega)))⟩
  | some E =>
    rw [hf] at hR
    simp only [Option.map_some, ptrV] at hR
    have hE := h.ent i E hf
    have HR := Lib.hid hR
    have k0 := hE.row.cell 5 rfl
    have k1 := hE.row.cell 6 rfl
    have k2 := hE.row.cell 7 rfl
    have k3 := hE.row.cell 8 rfl
    have hlt := hE.row.lt
    clear hR h hi hE
    go_enter Tryd.func49, Tryd.ntmps49
    go_wp2_with fail
    refine (HR.out _ (by repeat' (first | (with_reducible exact Below.refl _ _) | (with_reducible assumption) | (with_reducible refine Below.setCell ?_ ?_ _) | (with_reducible refine Below.ext ?_ _ ?_) | (with_reducible refine Below.alloc ?_ ?_ _) | (with_reducible refine Below.drew ?_) | (with_reducible refine Below.drewN ?_ _) | (with_reducible exact Nat.le_refl _) | (dsimp only; omega) | (simp <;> omega)))).mono ?_
    rintro e w1 ⟨rfl, rfl⟩
    go_wp2_with fail
    go_returns
    exact ⟨rfl, (by repeat' (first | (with_reducible exact Below.refl _ _) | (with_reducible assumption) | (with_reducible refine Below.setCell ?_ ?_ _) | (with_reducible refine Below.ext ?_ _ ?_) | (with_reducible refine Below.alloc ?_ ?_ _) | (with_reducible refine Below.drew ?_) | (with_reducible refine Below.drewN ?_ _) | (with_reducible exact Nat.le_refl _) | (dsimp only; omega) | (simp <;> omega)))⟩
theorem Have_any (i : Int) (w : World) (h : CacheAt B n data w C T L f) (hi : In64 i) :
    Calls Tryd.prog 48 #[pt C.g, .int .i64 i] w fun e w' => e = .returned (.tuple #[(haveS f i).val, (dirtS f i).val]) ∧ Below w.heap.size w w' := by
  have hR := fun w' hb => row_any i w' (h.below hb) hi
  unfold haveS dirtS
  cases hf : f i with
  | none =>
    rw [hf] at hR
    simp only [Option.map_none, ptrV] at hR
    have HR := Lib.hid hR
    clear hR h hi
    go_enter Tryd.func48, Tryd.ntmps48
    go_wp2_with fail
    refine (HR.out _ (by repeat' (first | (with_reducible exact Below.refl _ _) | (with_reducible assumption) | (with_reducible refine Below.setCell ?_ ?_ _) | (with_reducible refine Below.ext ?_ _ ?_) | (with_reducible refine Below.alloc ?_ ?_ _) | (with_reducible refine Below.drew ?_) | (with_reducible refine Below.drewN ?_ _) | (with_reducible exact Nat.le_refl _) | (dsimp only; omega) | (simp <;> omega)))).mono ?_
    rintro e w1 ⟨rfl, rfl⟩
    go_wp2_with fail
    refine bodyPost_ret ((results_cell2 rfl _ _ _).trans ?_) rfl ⟨rfl, (by repeat' (first | (with_reducible exact Below.refl _ _) | (with_reducible assumption) | (with_reducible refine Below.setCell ?_ ?_ _) | (with_reducible refine Below.ext ?_ _ ?_) | (with_reducible refine Below.alloc ?_ ?_ _) | (with_reducible refine Below.drew ?_) | (with_reducible refine Below.drewN ?_ _) | (with_reducible exact Nat.le_refl _) | (dsimp only; omega) | (simp <;> omega)))⟩
    go_simp
    exact ⟨rfl, rfl, rfl, rfl⟩
  | some E =>
    rw [hf] at hR
    simp only [Option.map_some, ptrV] at hR
    have hE := h.ent i E hf
    have HR := Lib.hid hR
    have k0 := hE.row.cell 0 rfl
    have k1 := hE.row.cell 1 rfl
    have k2 := hE.row.cell 2 rfl
    have k3 := hE.row.cell 3 rfl
    have k10 := hE.row.cell 10 rfl
    have k11 := hE.row.cell 11 rfl
    have k12 := hE.row.cell 12 rfl
    have k13 := hE.row.cell 13 rfl
    have hlt := hE.row.lt
    clear hR h hi hE
    go_enter Tryd.func48, Tryd.ntmps48
    go_wp2_with fail
    refine (HR.out _ (by repeat' (first | (with_reducible exact Below.refl _ _) | (with_reducible assumption) | (with_reducible refine Below.setCell ?_ ?_ _) | (with_reducible refine Below.ext ?_ _ ?_) | (with_reducible refine Below.alloc ?_ ?_ _) | (with_reducible refine Below.drew ?_) | (with_reducible refine Below.drewN ?_ _) | (with_reducible exact Nat.le_refl _) | (dsimp only; omega) | (simp <;> omega)))).mono ?_
    rintro e w1 ⟨rfl, rfl⟩
    go_wp2_with fail
    go_region
    all_goals
      go_wp2_with fail
      refine bodyPost_ret ((results_cell2 rfl _ _ _).trans ?_) rfl ⟨rfl, (by repeat' (first | (with_reducible exact Below.refl _ _) | (with_reducible assumption) | (with_reducible refine Below.setCell ?_ ?_ _) | (with_reducible refine Below.ext ?_ _ ?_) | (with_reducible refine Below.alloc ?_ ?_ _) | (with_reducible refine Below.drew ?_) | (with_reducible refine Below.drewN ?_ _) | (with_reducible exact Nat.le_refl _) | (dsimp only; omega) | (simp <;> omega)))⟩
      go_simp
end Go.Proofs.YtijagdpkclghnaaDoor
