/- Several texts in one: CCleanR CFul CLawClean LCacheClean. -/
import Derived.Test.YtijagdpkclghnaaDoorKclg
/- CacheClean's first part: contracts over a cache in which nothing is dirty, beside a map of the law's. -/
namespace Go.Proofs.YtijagdpkclghnaaDoor
open Go Go.RowKit
set_option maxRecDepth 100000
variable {B n nm data g mb : Nat} {u w w' : World} {C C' : CM} {T T' T0 : TS} {L L' : List Int} {f f' f0 : Int → Option Ent} {E : Ent} {i t : Int} {c : Nat} {s : ByteArray} {on os : Int → Int → ByteArray}
/-- A cache beside the law's map. -/
structure CB (B n nm data : Nat) (u w : World) (g mb : Nat) (C : CM) (T : TS) (L : List Int) (f : Int → Option Ent) (os : Int → Int → ByteArray) : Prop where
  at_ : CacheAt B n data w C T L f
  g : C.g = g
  b : Below B u w
  sm : World.smap w mb nm os
  off : ¬ C.foot f mb
  mB : B ≤ mb
theorem CB.step {m : Nat} (h : CB B n nm data u w g mb C T L f os) (hs : CStep C f C' f' w w') (ha : CacheAt B m data w' C' T' L' f') : CB B m nm data u w' g mb C' T' L' f' os :=
  ⟨ha, hs.g.trans h.g, hs.under h.at_ h.b, h.sm.same (hs.block mb h.sm.lt h.off), fun hf => (hs.foot mb hf).elim h.off (fun h2 => by have := h.sm.lt; omega), h.mB⟩
theorem CB.below (h : CB B n nm data u w g mb C T L f os) (hb : Below w.heap.size w w') : CB B n nm data u w' g mb C T L f os := h.step (CStep.of_below C f hb) (h.at_.below hb)
theorem CB.mono {m : Nat} (h : CB B n nm data u w g mb C T L f os) (hm : n ≤ m) : CB B m nm data u w g mb C T L f os := ⟨h.at_.mono hm, h.g, h.b, h.sm, h.off, h.mB⟩
theorem CacheAt.grown {b : Nat} (h : CacheAt B n data w C T L f) (hg : w.grownBy w' (some b)) (hn : ¬ C.foot f b) : CacheAt B n data w' C T L f := by
  have keep : ∀ x, x < w.heap.size → C.foot f x → w'.heap[x]? = w.heap[x]? := fun x hx hf => hg.block x hx fun e => hn (Option.some.inj e ▸ hf)
  exact ⟨rowSame h.row (keep _ h.row.lt (.inl rfl)), turnKeep h.turn fun x hx => keep x (h.turn.lts x hx).2 (.inr (.inr (.inl hx))), h.good, h.map.same (keep _ h.map.lt (.inr (.inl rfl))), fun k E hE => (h.ent k E hE).same fun x hx => keep x ((h.ent k E hE).lts x hx).2 (.inr (.inr (.inr ⟨k, E, hE, hx⟩))),
    h.apart, h.off, h.gm, h.gM, h.mM, h.bg, h.bm, h.keys, h.d2, h.d30⟩
theorem CB.set {m : Nat} {os' : Int → Int → ByteArray} (h : CB B n nm data u w g mb C T L f os) (hg : w.grownBy w' (some mb)) (hs : World.smap w' mb m os') : CB B n m data u w' g mb C T L f os' :=
  ⟨h.at_.grown hg h.off, h.g, h.b.trans ⟨hg.os, hg.tape, hg.output, hg.size, fun k hk => hg.block k (Nat.lt_of_lt_of_le hk (Nat.le_trans h.at_.bg (Nat.le_of_lt h.at_.row.lt))) fun e => by have := Option.some.inj e; have := h.mB; omega⟩, hs, h.off, h.mB⟩
theorem touch_most (T : TS) (k : Int) : (T.touchT k).most = T.most := by
  unfold TS.touchT
  split
  · unfold TS.fallT
    split
    · rfl
    · split <;> rfl
  · rfl
theorem fillCB (h : CB B n nm data u w g mb C T L f os) (hcl : Clean T f on) (ht : 0 ≤ t) (ht2 : t < 64) (hc : c < data) (hs : s.size = 64) (hn : n < 80000) :
    Calls Tryd.prog 11 #[pt g, .int .i64 t, .int .i64 (c : Int), .string s] w fun e w' => e = .returned (.int .i64 0) ∧ ∃ (C' : CM) (T' : TS) (L' : List Int) (f' : Int → Option Ent), CB B (n + 1) nm data u w' g mb C' T' L' f' os ∧ Clean T' f' (onSet on t c s) ∧ T'.most = T.most := by
  have hg := h.g
  subst hg
  refine (Fill_gen t c s w h.at_ ht ht2 hc hs (hcl.canOpen h.at_.good t) (by omega)).mono ?_
  rintro e w' ⟨rfl, w1, C1, E, T1, L1, f1, ho, hA, hS⟩
  exact ⟨rfl, C1, T1, L1, _, h.step hS hA, (hcl.opened ho).fill ho.here (ho.at_.ent t E ho.here) hc ho.at_.d30, open_most ho⟩
theorem putCB (h : CB B n nm data u w g mb C T L f os) (hcl : Clean T f on) (ht : 0 ≤ t) (ht2 : t < 64) (hc : c < data) (hs : s.size = 64) (hn : n < 80000) :
    Calls Tryd.prog 10 #[pt g, .int .i64 t, .int .i64 (c : Int), .string s] w fun e w' => e = .returned (.int .i64 0) ∧ ∃ (C' : CM) (T1 : TS) (L' : List Int) (f1 : Int → Option Ent) (E : Ent), CB B (n + 2) nm data u w' g mb C' (T1.pinT t true) L' (upd f1 t (some (E.put c s))) os ∧ Clean ((T1.pinT t true).pinT t false) (upd f1 t (some (E.put c s).done)) (onSet on t c s) ∧ T1.most = T.most := by
  have hg := h.g
  subst hg
  refine (Put_gen t c s w h.at_ ht ht2 hc hs (hcl.canOpen h.at_.good t) (by omega)).mono ?_
  rintro e w' ⟨rfl, w1, C1, E, T1, L1, f1, C', ho, hA, hS⟩
  have ht1 : T1.has t = true := by rw [ho.at_.keys, ← ho.at_.map.some_, ho.here]; rfl
  exact ⟨rfl, C', T1, L1, f1, E, h.step hS hA, (hcl.opened ho).done ho.here (ho.at_.ent t E ho.here) hc ho.at_.d30 ht1, open_most ho⟩
theorem doneCB (h : CB B n nm data u w g mb C (T.pinT t true) L (upd f t (some (E.put c s))) os) (hcl : Clean ((T.pinT t true).pinT t false) (upd f t (some (E.put c s).done)) on) (ht : 0 ≤ t) (ht2 : t < 64) (hT : Tab w) (hn : n < 80000) :
    Calls Tryd.prog 12 #[pt g, .int .i64 t] w fun e w' => e = .returned (.bool true) ∧ ∃ (C' : CM) (T' : TS) (f' : Int → Option Ent), CB B (n + 1) nm data u w' g mb C' T' L f' os ∧ Clean T' f' on ∧ T'.most = T.most := by
  have hg := h.g
  subst hg
  refine (Done_yes t w h.at_ ⟨by omega, by omega⟩ (upd_same _ _ _) hT (by omega)).mono ?_
  rintro e w' ⟨rfl, C', hA, hS⟩
  rw [upd_upd] at hA hS
  exact ⟨rfl, C', _, _, h.step hS hA, hcl, by rw [pin_most, pin_most]⟩
theorem dropCB (h : CB B n nm data u w g mb C T L f os) (hcl : Clean T f on) (ht : 0 ≤ t) (ht2 : t < 64) :
    Calls Tryd.prog 15 #[pt g, .int .i64 t] w fun e w' => ∃ (b : Bool), e = .returned (.bool b) ∧ ∃ (C' : CM) (T' : TS) (L' : List Int) (f' : Int → Option Ent), CB B n nm data u w' g mb C' T' L' f' os ∧ Clean T' f' on ∧ T'.most = T.most := by
  have hg := h.g
  subst hg
  cases hd : canDrop f t with
  | true =>
    refine (Drop_yes t w h.at_ ⟨by omega, by omega⟩ hd).mono ?_
    rintro e w' ⟨rfl, M', hA, hS⟩
    exact ⟨_, rfl, _, _, _, _, h.step hS hA, hcl.drop t, rfl⟩
  | false =>
    refine (Drop_no t w h.at_ ⟨by omega, by omega⟩ hd).mono ?_
    rintro e w' ⟨rfl, hb⟩
    exact ⟨_, rfl, C, T, L, f, h.below hb, hcl, rfl⟩
theorem getCB (h : CB B n nm data u w g mb C T L f os) (hcl : Clean T f on) (ht : 0 ≤ t) (ht2 : t < 64) (hc : c < data) :
    Calls Tryd.prog 14 #[pt g, .int .i64 t, .int .i64 (c : Int)] w fun e w' => ∃ (v : ByteArray) (b : Bool), e = .returned (.tuple #[.string v, .bool b]) ∧ (b = true → v = on t (c : Int)) ∧ ∃ (C' : CM) (T' : TS), CB B n nm data u w' g mb C' T' L f os ∧ Clean T' f on ∧ T'.most = T.most := by
  have hg := h.g
  subst hg
  refine (Get_any t c w h.at_ ⟨by omega, by omega⟩ hc).mono ?_
  rintro e w' ⟨rfl, M', hA, hS⟩
  exact ⟨_, _, rfl, hcl.get, _, _, h.step hS hA, hcl.touched _ t, by split <;> first | exact touch_most T t | rfl⟩
end Go.Proofs.YtijagdpkclghnaaDoor
/- CacheClean's second part: a cache that fills with dirty stripes: plain laws, contracts. -/
namespace Go.Proofs.YtijagdpkclghnaaDoor
open Go Go.RowKit
set_option maxRecDepth 100000
variable {B n nm data g mb : Nat} {u w w' : World} {C C' : CM} {T T' T0 : TS} {L L' : List Int} {f f' f0 : Int → Option Ent} {E : Ent} {i t : Int} {c : Nat} {s : ByteArray} {on os : Int → Int → ByteArray}
theorem pmap_len {P : Program} {t k e ty : TypeId} {b : Nat} {g : Int → Option Nat} (ht : P.underlying t = some (.map k e)) (h : w.pmap P k b n L g) : (Builtin.len_ #[t] ty #[.map (some b)]).run P w = .ok (.int .i64 (L.length : Int)) w := by
  obtain ⟨D, hown, hP⟩ := h
  rw [← hP.size]
  exact hown.len ht ty
theorem CLen_any (w : World) (h : CacheAt B n data w C T L f) (hn : n ≤ 90000) :
    Calls Tryd.prog 16 #[pt C.g] w fun e w' => e = .returned (.tuple #[.int .i64 (L.length : Int), .int .i64 (((rising L).filter (dirtyOf f)).length : Int)]) ∧ Below w.heap.size w w' := by
  obtain ⟨c0, c1, c2⟩ := h.three
  have HC := Lib.hid (Dirty_any w h hn)
  have hlen := fun ty => pmap_len (ty := ty) Tryd.underlying54 h.map
  obtain ⟨m, hm⟩ : ∃ m, m = ((rising L).filter (dirtyOf f)).length := ⟨_, rfl⟩
  rw [← hm]
  have HM := Lib.hid hm
  clear h hm
  go_enter Tryd.func16, Tryd.ntmps16
  go_wp2_with fail
  refine HC.out.mono ?_
  rintro e w1 ⟨⟨v, rfl, hv⟩, b1⟩
  obtain ⟨a1, k1, rfl⟩ := irow_shape hv
  rw [← HM.out]
  have HB := Lib.hid b1
  clear b1 hv c0 c1 c2 hlen
  go_wp2_with fail
  go_ret2
  exact ⟨rfl, HB.out⟩
/-- The stripes below t are dirty, and pinned, and no others. -/
structure Ful (T : TS) (f : Int → Option Ent) (t : Int) : Prop where
  all : ∀ i, 0 ≤ i → i < t → ∃ E, f i = some E ∧ E.dt.empty = false
  oth : ∀ i E, f i = some E → ¬ (0 ≤ i ∧ i < t) → E.dt.empty = true
  pins : ∀ i, T.pins.contains i = true ↔ (0 ≤ i ∧ i < t)
theorem Clean.ful (h : Clean T f on) : Ful T f 0 :=
  ⟨fun i h1 h2 => by omega, fun i E hE _ => by rw [h.dt i E hE]; rfl, fun i => ⟨fun e => (by rw [h.pins] at e; simp at e), fun e => (by omega)⟩⟩
theorem put_dirty (E : Ent) {c : Nat} (hc : c < 256) (s : ByteArray) : (E.put c s).dt.empty = false := by
  obtain ⟨_, _, p3, _, _⟩ := put_f E c s
  rw [p3]
  cases e : (E.dt.with' c).empty
  · rfl
  · have h1 := with_same E.dt hc
    rw [(Set4.empty_iff _).1 e, Set4.has_zero] at h1
    cases h1
theorem Ful.opened {w1 : World} {C1 : CM} {T1 : TS} {L1 : List Int} {f1 : Int → Option Ent} (h : Ful T f t) (ht : 0 ≤ t) (ho : OpenedG B n data w C T f t w1 C1 E T1 L1 f1) (hc : c < 256) : Ful (T1.pinT t true) (upd f1 t (some (E.put c s))) (t + 1) := by
  have ht1 : T1.has t = true := by rw [ho.at_.keys, ← ho.at_.map.some_, ho.here]; rfl
  have hpin : (T1.pinT t true).pins = addTo T1.pins t := by unfold TS.pinT; rw [if_pos ht1]; rfl
  -- what the open leaves
  have key : (∀ i, i ≠ t → 0 ≤ i → i < t → f1 i = f i) ∧ (∀ i E, i ≠ t → f1 i = some E → f i = some E) ∧ (∀ i, T1.pins.contains i = T.pins.contains i) := by
    rcases ho.how with ⟨_, rfl, rfl⟩ | ⟨_, T0, f0, hr, _, _, _, rfl, rfl, _⟩
    · exact ⟨fun _ _ _ _ => rfl, fun _ _ _ h => h, fun i => by rw [touch_pins]⟩
    · rcases hr with ⟨_, rfl, rfl⟩ | ⟨_, v, hv, rfl, rfl⟩
      · exact ⟨fun i hi _ _ => upd_other _ _ hi, fun i F hi hF => by rw [upd_other _ _ hi] at hF; exact hF, fun i => by rw [add_pins]⟩
      · have hvp := (victim_in hv).2
        have hnp : ¬ (0 ≤ v ∧ v < t) := fun e => by rw [(h.pins v).2 e] at hvp; cases hvp
        refine ⟨fun i hi h0 h1 => ?_, fun i F hi hF => ?_, fun i => ?_⟩
        · rw [upd_other _ _ hi, upd_other f _ (fun e => hnp (by omega))]
        · rw [upd_other _ _ hi] at hF
          by_cases e : i = v
          · subst e; rw [upd_same] at hF; cases hF
          · rw [upd_other f _ e] at hF; exact hF
        · rw [add_pins]
          show (T.pins.erase v).contains i = _
          rw [List.erase_of_not_mem (by simpa using hvp)]
  obtain ⟨k1, k2, k3⟩ := key
  refine ⟨fun i h0 h1 => ?_, fun i F hF hn => ?_, fun i => ?_⟩
  · by_cases e : i = t
    · subst e; exact ⟨_, upd_same _ _ _, put_dirty E hc s⟩
    · obtain ⟨F, hF, hd⟩ := h.all i h0 (by omega)
      exact ⟨F, by rw [upd_other f1 _ e, k1 i e h0 (by omega)]; exact hF, hd⟩
  · have e : i ≠ t := fun e => hn (by omega)
    rw [upd_other f1 _ e] at hF
    exact h.oth i F (k2 i F e hF) (fun e2 => hn (by omega))
  · rw [hpin, addTo_has, k3]
    have hp := h.pins i
    by_cases e : t = i
    · subst e; simp; omega
    · rw [show (t == i) = false from beq_eq_false_iff_ne.2 e, Bool.or_false, hp]
      omega
theorem nodup_le {l l' : List Int} (hn : l.Nodup) (h : ∀ x ∈ l, x ∈ l') : l.length ≤ l'.length := by
  induction l generalizing l' with
  | nil => simp
  | cons a l ih =>
    have ha := h a (List.mem_cons_self ..)
    have h2 := ih (List.nodup_cons.1 hn).2 (l' := l'.erase a) fun x hx => by
      have hne : x ≠ a := fun e => (List.nodup_cons.1 hn).1 (e ▸ hx)
      exact (List.mem_erase_of_ne hne).2 (h x (List.mem_cons_of_mem _ hx))
    have h3 := erase_len ha
    simp only [List.length_cons]
    omega
def upto (t : Nat) : List Int := (List.range t).map fun k : Nat => (k : Int)
theorem upto_nodup (t : Nat) : (upto t).Nodup := by
  unfold upto
  exact List.pairwise_map.2 (List.nodup_range.imp fun h e => h (by omega))
theorem upto_mem {t : Nat} {x : Int} : x ∈ upto t ↔ 0 ≤ x ∧ x < t := by
  unfold upto
  simp only [List.mem_map, List.mem_range]
  constructor
  · rintro ⟨k, hk, rfl⟩; omega
  · intro h; exact ⟨x.toNat, by omega, by omega⟩
theorem Ful.keys {t : Nat} (h : Ful T f (t : Int)) (hA : CacheAt B n data w C T L f) : t ≤ L.length ∧ L.length ≤ T.most := by
  have hsub : ∀ x ∈ upto t, x ∈ L := fun x hx => by
    obtain ⟨h0, h1⟩ := upto_mem.1 hx
    obtain ⟨E, hE, _⟩ := h.all x h0 h1
    have := hA.map.some_ x
    rw [hE] at this
    simpa using this.symm
  have h1 := nodup_le (upto_nodup t) hsub
  have h2 : L.length ≤ (T.plain ++ T.dear).length := nodup_le hA.map.nodup fun x hx => (has_iff T x).1 (by rw [hA.keys]; simpa using hx)
  have h3 := hA.good.len
  rw [List.length_append] at h2
  have : (upto t).length = t := by simp [upto]
  omega
/-- Where there is no place any more, all is full of dirty stripes. -/
theorem Ful.full {t : Nat} (h : Ful T f (t : Int)) (hA : CacheAt B n data w C T L f) (hno : canOpen T f (t : Int) = false) : L.length = T.most ∧ t = T.most ∧ ((rising L).filter (dirtyOf f)).length = T.most := by
  unfold canOpen at hno
  obtain ⟨hf, hr2⟩ := Bool.or_eq_false_iff.1 hno
  obtain ⟨hfull, hv⟩ := Bool.or_eq_false_iff.1 hr2
  have hv : T.victim = none := by simpa using hv
  have hfull : T.full = true := by simpa using hfull
  have hl : T.most ≤ T.plain.length + T.dear.length := by simpa [TS.full] using hfull
  have hpin : ∀ x ∈ T.plain ++ T.dear, 0 ≤ x ∧ x < (t : Int) := fun x hx => by
    unfold TS.victim at hv
    have := List.find?_eq_none.1 hv x hx
    exact (h.pins x).1 (by simpa using this)
  have hk := h.keys hA
  have h1 : (T.plain ++ T.dear).length ≤ (upto t).length := nodup_le hA.good.nodup fun x hx => upto_mem.2 (hpin x hx)
  have h2 : (upto t).length = t := by simp [upto]
  rw [List.length_append] at h1
  have hall : ∀ x ∈ rising L, dirtyOf f x = true := fun x hx => by
    have hxL := (rising_perm L).mem_iff.1 hx
    have hx2 := hpin x ((has_iff T x).1 (by rw [hA.keys]; simpa using hxL))
    obtain ⟨E, hE, hd⟩ := h.all x hx2.1 hx2.2
    unfold dirtyOf
    rw [hE]
    simp [hd]
  rw [List.filter_eq_self.2 hall, rising_len]
  omega
/-- A cache that fills. -/
structure CF (B n data : Nat) (u w : World) (g most : Nat) (C : CM) (T : TS) (L : List Int) (f : Int → Option Ent) (t : Nat) : Prop where
  at_ : CacheAt B n data w C T L f
  g : C.g = g
  b : Below B u w
  ful : Ful T f (t : Int)
  most : T.most = most
theorem putCF {most t : Nat} (h : CF B n data u w g most C T L f t) (ht : t < 64) (hs : s.size = 64) (hn : n < 80000) :
    Calls Tryd.prog 10 #[pt g, .int .i64 (t : Int), .int .i64 0, .string s] w fun e w' =>
      (canOpen T f (t : Int) = true ∧ e = .returned (.int .i64 0) ∧ ∃ (C' : CM) (T' : TS) (L' : List Int) (f' : Int → Option Ent), CF B (n + 2) data u w' g most C' T' L' f' (t + 1)) ∨
      (canOpen T f (t : Int) = false ∧ e = .returned (.int .i64 10) ∧ CF B n data u w' g most C T L f t) := by
  have hg := h.g
  subst hg
  have hd := h.at_.d2
  cases hc : canOpen T f (t : Int) with
  | true =>
    refine (Put_gen (t : Int) 0 s w h.at_ (by omega) (by omega) (by omega) hs hc (by omega)).mono ?_
    rintro e w' ⟨rfl, w1, C1, E, T1, L1, f1, C', ho, hA, hS⟩
    exact .inl ⟨rfl, rfl, C', _, L1, _, hA, hS.g, hS.under h.at_ h.b, by have := h.ful.opened (c := 0) (s := s) (by omega) ho (by decide); exact this, by rw [pin_most, open_most ho]; exact h.most⟩
  | false =>
    refine (Put_no (t : Int) 0 s w h.at_ (by omega) (by omega) (by omega) hs hc).mono ?_
    rintro e w' ⟨rfl, hb⟩
    exact .inr ⟨rfl, rfl, h.at_.below hb, rfl, h.b.trans (hb.mono (Nat.le_trans h.at_.bg (Nat.le_of_lt h.at_.row.lt))), h.ful, h.most⟩
theorem lenCF {most t : Nat} (h : CF B n data u w g most C T L f t) (hno : canOpen T f (t : Int) = false) (hn : n < 80000) :
    Calls Tryd.prog 16 #[pt g] w fun e w' => e = .returned (.tuple #[.int .i64 (most : Int), .int .i64 (most : Int)]) ∧ Below w.heap.size w w' ∧ t = most := by
  have hg := h.g
  subst hg
  obtain ⟨h1, h2, h3⟩ := h.ful.full h.at_ hno
  refine (CLen_any w h.at_ (by omega)).mono ?_
  rintro e w' ⟨rfl, hb⟩
  rw [h1, h3, h.most]
  exact ⟨rfl, hb, by rw [h2, h.most]⟩
end Go.Proofs.YtijagdpkclghnaaDoor
/- CacheClean: the walk. -/
namespace Go.Proofs.YtijagdpkclghnaaDoor
open Go Go.RowKit
set_option maxRecDepth 100000
theorem and15 (x : Int) : 0 ≤ bits .and .i64 x 15 ∧ bits .and .i64 x 15 ≤ 15 := by
  have h : ((BitVec.ofInt 64 x) &&& (BitVec.ofInt 64 15)).toNat ≤ 15 := by
    rw [BitVec.toNat_and]
    exact Nat.le_trans Nat.and_le_right (by decide)
  obtain ⟨m, hm⟩ : ∃ m, m = ((BitVec.ofInt 64 x) &&& (BitVec.ofInt 64 15)).toNat := ⟨_, rfl⟩
  have e : bits .and .i64 x 15 = IntKind.i64.wrap (m : Int) := by rw [hm]; rfl
  rw [← hm] at h
  rw [e, show IntKind.i64.wrap (m : Int) = (m : Int) from by
    unfold IntKind.wrap
    simp [IntKind.bits, IntKind.signed]
    omega]
  omega
set_option maxHeartbeats 8000000 in
theorem clean_walk (x0 x1 x2 : Int) (a : Option Addr) (len cap : Nat) (l : List Ac) (w : World) (hT : Tab w) (hl : l.length = len) (hcap : len ≤ cap) (hna : a = none → len = 0 ∧ cap = 0)
    (hc : l = [] ∨ ∃ b o, a = some ⟨b, o, none⟩ ∧ ∀ i x, l[i]? = some x → ∀ j u, (act5 x)[j]? = some u → w.cell? ⟨b, o + i * 5 + j, none⟩ = some u) :
    Calls Tryd.prog 5 #[.agg #[.int .i64 x0, .int .i64 x1, .int .i64 x2], .slice a len cap] w fun e w' => e = .returned (.bool true) ∧ Below w.heap.size w w' := by
  have hmm := @run_makeMap Tryd.prog
  have HT := Lib.hid hT
  have HC := Lib.hid (And.intro hc hl)
  have HNA := Lib.hid hna
  clear hc hna hT
  obtain ⟨z0, hz0⟩ : ∃ z0, max 0 x0 = z0 := ⟨_, rfl⟩
  obtain ⟨z1, hz1⟩ : ∃ z1, max 0 x1 = z1 := ⟨_, rfl⟩
  obtain ⟨z2, hz2⟩ : ∃ z2, max 0 x2 = z2 := ⟨_, rfl⟩
  have hzz0 : 0 ≤ z0 := by omega
  have hzz1 : 0 ≤ z1 := by omega
  have hzz2 : 0 ≤ z2 := by omega
  obtain ⟨most, em⟩ : ∃ most : Nat, 1 + z0 % 8 = (most : Int) := ⟨(1 + z0 % 8).toNat, by omega⟩
  obtain ⟨data, ed⟩ : ∃ data : Nat, 2 + z2 % 5 = (data : Int) := ⟨(2 + z2 % 5).toNat, by omega⟩
  have hm1 : 1 ≤ most := by omega
  have hm8 : most ≤ 8 := by omega
  have hd2 : 2 ≤ data := by omega
  have hd6 : data ≤ 6 := by omega
  obtain ⟨limit, el⟩ : ∃ limit : Nat, z1 % (most : Int) = (limit : Int) := ⟨(z1 % (most : Int)).toNat, (Int.toNat_of_nonneg (Int.emod_nonneg _ (by omega))).symm⟩
  have hlm : limit < most := by
    have : z1 % (most : Int) < most := Int.emod_lt_of_pos _ (by omega)
    omega
  obtain ⟨n, hn⟩ : ∃ n, n = min len 80 := ⟨_, rfl⟩
  have hn1 : min (len : Int) 80 = (n : Int) := by omega
  have hn80 : n ≤ 80 := by omega
  have hnl : n ≤ len := by omega
  have HQ := Lib.hid (And.intro hm1 (And.intro hm8 (And.intro hd2 (And.intro hd6 (And.intro hlm (And.intro hn80 hnl))))))
  clear hn
  go_enter Tryd.func5, Tryd.ntmps5
  go_upto_region 1 with fail
  obtain ⟨gx, hgx⟩ : ∃ g, g = w.heap.size := ⟨_, rfl⟩
  refine wp_world (fun w0 => w0.row gx [.int .i64 x0, .int .i64 x1, .int .i64 x2] 37 ∧ Below w.heap.size w w0) ⟨World.row.new' hgx.symm, (by repeat' (first | (with_reducible exact Below.refl _ _) | (with_reducible assumption) | (with_reducible refine Below.setCell ?_ ?_ _) | (with_reducible refine Below.ext ?_ _ ?_) | (with_reducible refine Below.alloc ?_ ?_ _) | (with_reducible refine Below.drew ?_) | (with_reducible refine Below.drewN ?_ _) | (with_reducible exact Nat.le_refl _) | (dsimp only; omega) | (simp <;> omega)))⟩ ?_
  simp only [← hgx]
  have hgl : w.heap.size ≤ gx := Nat.le_of_eq hgx.symm
  rintro w0 ⟨rx, B0⟩
  rw [hgx] at B0
  clear hgx
  have k0 := rx.cell 0 rfl
  have k1 := rx.cell 1 rfl
  have k2 := rx.cell 2 rfl
  have H0 := Lib.hid B0
  clear rx B0
  go_wp2_with fail
  refine (CNew_ok (B := w0.heap.size) most limit data w0 (Nat.le_refl _) hm1 (by omega) hlm hd2 (by omega)).mono ?_
  rintro e w1 ⟨C1, rfl, hA1, hb1, hf1⟩
  obtain ⟨g, hg⟩ : ∃ g, C1.g = g := ⟨_, rfl⟩
  rw [hg]
  have H1 := Lib.hid (And.intro hA1 (And.intro hb1 hg))
  clear hA1 hb1 hf1 hg k0 k1 k2 em el ed hz0 hz1 hz2 hzz0 hzz1 hzz2
  go_wp2_with fail
  refine Calls.pure_to (wakes_any w1 (HT.out.below (H0.out.trans (H1.out.2.1.mono H0.out.size)) HT.out.lt)) ?_
  intro w2 b2
  have hA2 := H1.out.1.below b2
  have H2 := Lib.hid (And.intro hA2 (H1.out.2.1.trans (b2.mono H1.out.2.1.size)))
  clear hA2 b2
  go_upto_region 7 with fail
  obtain ⟨mb, hmb⟩ : ∃ g, g = w2.heap.size := ⟨_, rfl⟩
  refine wp_world (fun w3 => CB w0.heap.size 0 0 data w0 w3 g mb C1 ⟨most, limit, [], [], []⟩ [] (fun _ => none) (fun _ _ => noB)) ?_ ?_
  · have hb : Below w2.heap.size w2 (w2.alloc (.map #[] 0)) := (Below.refl _ _).alloc (Nat.le_refl _) _
    exact ⟨H2.out.1.below hb, H1.out.2.2, H2.out.2.trans (hb.mono H2.out.2.size), by rw [hmb]; exact World.smap_made w2, fun hf => by have := (H2.out.1.lts mb hf).2; omega, by rw [hmb]; exact H2.out.2.size⟩
  simp only [← hmb]
  clear hmb
  rintro w3 hcb
  have hcl : Clean ⟨most, limit, [], [], []⟩ (fun _ => none) (fun _ _ => noB) := ⟨(fun _ _ h => by cases h), rfl, (fun _ _ h => by cases h)⟩
  have H3 := Lib.hid (And.intro hcb hcl)
  clear hcb hcl
  go_wp2_with fail
  go_loopw [54] (fun i wr => ∃ (k nm : Nat) (C : CM) (T : TS) (L : List Int) (f : Int → Option Ent) (on : Int → Int → ByteArray), k ≤ n ∧ i = .int .i64 k ∧ CB w0.heap.size (4 * k) nm data w0 wr g mb C T L f on ∧ Clean T f on ∧ T.most = most ∧ nm ≤ k) (fun i _ => n - (intOf i).toNat)
  case atStart => exact ⟨0, 0, _, _, _, _, _, Nat.zero_le _, rfl, H3.out.1, H3.out.2, rfl, Nat.le_refl _⟩
  case round =>
    obtain ⟨k, nm, C, T, L, f, on, hk, rfl, hR, hcl, hmo, hnm⟩ := hrel
    by_cases hlt : k < n
    · have hne : l ≠ [] := by intro e; have := HC.out.2; rw [e] at this; simp at this; omega
      obtain ⟨b, o, rfl, hcell⟩ := HC.out.1.resolve_left hne
      obtain ⟨y, hy⟩ : ∃ y, l[k]? = some y := ⟨l[k]'(by have := HC.out.2; omega), by rw [List.getElem?_eq_getElem]⟩
      have Bw := H0.out.trans (hR.b.mono H0.out.size)
      have bcell := fun (p : Addr) v (hp : w.cell? p = some v) => (Bw.cell (p := p) (block_lt_of_cell hp)).trans hp
      have j0 := bcell _ _ (hcell k y hy 0 _ rfl)
      have j1 := bcell _ _ (hcell k y hy 1 _ rfl)
      have j2 := bcell _ _ (hcell k y hy 2 _ rfl)
      have j3 := bcell _ _ (hcell k y hy 3 _ rfl)
      have j4 := bcell _ _ (hcell k y hy 4 _ rfl)
      rw [Nat.add_zero] at j0
      have hbw : b < wr.heap.size := block_lt_of_cell j1
      clear hcell hy hne bcell Bw
      obtain ⟨yd, ys, yc, yb, yo⟩ := y
      simp only at j0 j1 j2 j3 j4
      have HR := Lib.hid (And.intro hR (And.intro hcl (And.intro hmo hnm)))
      clear hR hcl hmo hnm
      go_upto_region 10 with fail
      obtain ⟨ga, hga⟩ : ∃ g, g = wr.heap.size := ⟨_, rfl⟩
      refine wp_world (fun w5 => w5.row ga [.int .i64 yd, .int .i64 ys, .int .i64 yc, .int .u8 yb, .bool yo] tAct ∧ Below wr.heap.size wr w5) ⟨World.row.new' hga.symm, (Below.refl _ _).alloc (Nat.le_refl _) _⟩ ?_
      simp only [← hga]
      rintro w5 ⟨ra, b5⟩
      rw [hga] at b5
      clear hga j0 j1 j2 j3 j4 hbw
      have k1 := ra.cell 1 rfl
      have k2 := ra.cell 2 rfl
      have k3 := ra.cell 3 rfl
      have gal := ra.lt
      have R5 := HR.out.1.below b5
      have H5 := Lib.hid (And.intro R5 ra)
      obtain ⟨t, et⟩ : ∃ t, bits .and .i64 ys 15 = t := ⟨_, rfl⟩
      have htt := Lib.hid (et ▸ and15 ys)
      obtain ⟨zc, hzc⟩ : ∃ z, max 0 yc = z := ⟨_, rfl⟩
      have hzz : 0 ≤ zc := by omega
      obtain ⟨c, ec⟩ : ∃ c : Nat, zc % (data : Int) = (c : Int) := ⟨(zc % (data : Int)).toNat, (Int.toNat_of_nonneg (Int.emod_nonneg _ (by omega))).symm⟩
      have hcd : c < data := by
        have : zc % (data : Int) < data := Int.emod_lt_of_pos _ (by omega)
        omega
      have hB0 : w5.heap.size ≤ w5.heap.size := Nat.le_refl _
      clear R5 ra b5
      go_wp2_with fail
      refine wp_region_ext w5.heap.size hB0 (by kernel_rfl) (by kernel_rfl) ?_
      intro _
      repeat (go_big_quiet_step (first | with_reducible exact Calls.ext_of (sec_any yb _)))
      refine wpQuiet_nil ?_
      intro zx
      have bw6 := World.ext_below zx
      generalize World.ext w5 w5.heap.size zx = w6 at *
      clear zx
      simp only [ec]
      have R6 := H5.out.1.below bw6
      have k0 := (H5.out.2.below bw6 H5.out.2.lt).cell 0 rfl
      have H6 := Lib.hid R6
      have hsz := Lib.hid (secB_size yb)
      obtain ⟨s, hs⟩ : ∃ s, s = secB yb := ⟨_, rfl⟩
      rw [← hs] at hsz ⊢
      have hv := and3 yd
      obtain ⟨v, hve⟩ : ∃ v, bits .and .i64 yd 3 = v := ⟨_, rfl⟩
      rw [hve] at hv
      have hcc := Lib.hid (And.intro hcd (And.intro (show In64 t from ⟨by have := htt.out; omega, by have := htt.out; omega⟩) (show In64 (c : Int) from ⟨by omega, by omega⟩)))
      clear R6 bw6 k1 k2 k3 gal hB0 et ec hzc hzz hs hcd
      rcases hv with rfl | rfl | rfl | rfl
      · go_wp2_with fail
        refine (putCB H6.out HR.out.2.1 htt.out.1 (by have := htt.out.2; omega) hcc.out.1 hsz.out (by omega)).mono ?_
        rintro e w7 ⟨rfl, C7, T7, L7, f7, E7, R7, hcl7, hmo7⟩
        have H7 := Lib.hid (And.intro R7 (And.intro hcl7 hmo7))
        clear R7 hcl7 hmo7 k0 hve
        go_wp2_with fail
        refine (doneCB H7.out.1 H7.out.2.1 htt.out.1 (by have := htt.out.2; omega) (HT.out.below (H0.out.trans (H7.out.1.b.mono H0.out.size)) HT.out.lt) (by omega)).mono ?_
        rintro e w8 ⟨rfl, C8, T8, f8, R8, hcl8, hmo8⟩
        have H8 := Lib.hid (And.intro R8 (And.intro hcl8 hmo8))
        have hsm := R8.sm
        clear R8 hcl8 hmo8
        go_wp2_with (at_mapUpdate; refine wpList_mapUpdate_sm rfl _ _ _ rfl rfl hsm (by have := HR.out.2.2.2; omega) t c rfl hcc.out.2.1 hcc.out.2.2 s rfl (by have := hsz.out; unfold maxLen; omega) ?_; intro w9 hsm9 hg9; refine wpList_world (fun w10 => CB w0.heap.size (4 * k + 2 + 1) (nm + 1) data w0 w10 g mb C8 T8 L7 f8 (onSet on t c s)) (H8.out.1.set hg9 hsm9) ?_; clear hsm9 hg9 hsm w9; rintro w9 R9)
        have H9 := Lib.hid (And.intro R9 (And.intro H8.out.2.1 (And.intro (H8.out.2.2.trans (H7.out.2.2.trans HR.out.2.2.1)) (show nm + 1 ≤ k + 1 by have := HR.out.2.2.2; omega))))
        clear R9
        go_wp2_with fail
        refine (getCB H9.out.1 H9.out.2.1 htt.out.1 (by have := htt.out.2; omega) hcc.out.1).mono ?_
        rintro e w10 ⟨vv, bb, rfl, hvb, C10, T10, R10, hcl10, hmo10⟩
        have hsm := R10.sm
        have H10 := Lib.hid (And.intro R10 (And.intro hcl10 (And.intro (hmo10.trans H9.out.2.2.1) H9.out.2.2.2)))
        clear R10 hcl10 hmo10
        cases bb
        · clear hvb hsm
          go_wp2_with fail
          refine ⟨⟨k + 1, _, C10, T10, _, _, _, by omega, by go_num, H10.out.1.mono (by omega), H10.out.2.1, H10.out.2.2.1, H10.out.2.2.2⟩, ?_⟩
          simp [intOf] <;> omega
        · have hv2 := hvb rfl
          clear hvb
          subst hv2
          go_wp2_with (at_lookup; refine wpList_lookup_sm rfl _ _ rfl rfl hsm t c rfl hcc.out.2.1 hcc.out.2.2 ?_)
          refine ⟨⟨k + 1, _, C10, T10, _, _, _, by omega, by go_num, H10.out.1.mono (by omega), H10.out.2.1, H10.out.2.2.1, H10.out.2.2.2⟩, ?_⟩
          simp [intOf] <;> omega
      · go_wp2_with fail
        refine (fillCB H6.out HR.out.2.1 htt.out.1 (by have := htt.out.2; omega) hcc.out.1 hsz.out (by omega)).mono ?_
        rintro e w8 ⟨rfl, C8, T8, L8, f8, R8, hcl8, hmo8⟩
        have H8 := Lib.hid (And.intro R8 (And.intro hcl8 hmo8))
        have hsm := R8.sm
        clear R8 hcl8 hmo8 k0 hve
        go_wp2_with (at_mapUpdate; refine wpList_mapUpdate_sm rfl _ _ _ rfl rfl hsm (by have := HR.out.2.2.2; omega) t c rfl hcc.out.2.1 hcc.out.2.2 s rfl (by have := hsz.out; unfold maxLen; omega) ?_; intro w9 hsm9 hg9; refine wpList_world (fun w10 => CB w0.heap.size (4 * k + 1) (nm + 1) data w0 w10 g mb C8 T8 L8 f8 (onSet on t c s)) (H8.out.1.set hg9 hsm9) ?_; clear hsm9 hg9 hsm w9; rintro w9 R9)
        have H9 := Lib.hid (And.intro R9 (And.intro H8.out.2.1 (And.intro (H8.out.2.2.trans HR.out.2.2.1) (show nm + 1 ≤ k + 1 by have := HR.out.2.2.2; omega))))
        clear R9
        go_wp2_with fail
        refine (getCB H9.out.1 H9.out.2.1 htt.out.1 (by have := htt.out.2; omega) hcc.out.1).mono ?_
        rintro e w10 ⟨vv, bb, rfl, hvb, C10, T10, R10, hcl10, hmo10⟩
        have hsm := R10.sm
        have H10 := Lib.hid (And.intro R10 (And.intro hcl10 (And.intro (hmo10.trans H9.out.2.2.1) H9.out.2.2.2)))
        clear R10 hcl10 hmo10
        cases bb
        · clear hvb hsm
          go_wp2_with fail
          refine ⟨⟨k + 1, _, C10, T10, _, _, _, by omega, by go_num, H10.out.1.mono (by omega), H10.out.2.1, H10.out.2.2.1, H10.out.2.2.2⟩, ?_⟩
          simp [intOf] <;> omega
        · have hv2 := hvb rfl
          clear hvb
          subst hv2
          go_wp2_with (at_lookup; refine wpList_lookup_sm rfl _ _ rfl rfl hsm t c rfl hcc.out.2.1 hcc.out.2.2 ?_)
          refine ⟨⟨k + 1, _, C10, T10, _, _, _, by omega, by go_num, H10.out.1.mono (by omega), H10.out.2.1, H10.out.2.2.1, H10.out.2.2.2⟩, ?_⟩
          simp [intOf] <;> omega
      · go_wp2_with fail
        refine (dropCB H6.out HR.out.2.1 htt.out.1 (by have := htt.out.2; omega)).mono ?_
        rintro e w8 ⟨bd, rfl, C8, T8, L8, f8, R8, hcl8, hmo8⟩
        have H9 := Lib.hid (And.intro R8 (And.intro hcl8 (And.intro (hmo8.trans HR.out.2.2.1) (show nm ≤ k + 1 by have := HR.out.2.2.2; omega))))
        clear R8 hcl8 hmo8 k0 hve
        go_wp2_with fail
        refine (getCB H9.out.1 H9.out.2.1 htt.out.1 (by have := htt.out.2; omega) hcc.out.1).mono ?_
        rintro e w10 ⟨vv, bb, rfl, hvb, C10, T10, R10, hcl10, hmo10⟩
        have hsm := R10.sm
        have H10 := Lib.hid (And.intro R10 (And.intro hcl10 (And.intro (hmo10.trans H9.out.2.2.1) H9.out.2.2.2)))
        clear R10 hcl10 hmo10
        cases bb
        · clear hvb hsm
          go_wp2_with fail
          refine ⟨⟨k + 1, _, C10, T10, _, _, _, by omega, by go_num, H10.out.1.mono (by omega), H10.out.2.1, H10.out.2.2.1, H10.out.2.2.2⟩, ?_⟩
          simp [intOf] <;> omega
        · have hv2 := hvb rfl
          clear hvb
          subst hv2
          go_wp2_with (at_lookup; refine wpList_lookup_sm rfl _ _ rfl rfl hsm t c rfl hcc.out.2.1 hcc.out.2.2 ?_)
          refine ⟨⟨k + 1, _, C10, T10, _, _, _, by omega, by go_num, H10.out.1.mono (by omega), H10.out.2.1, H10.out.2.2.1, H10.out.2.2.2⟩, ?_⟩
          simp [intOf] <;> omega
      · have H9 := Lib.hid (And.intro H6.out (And.intro HR.out.2.1 (And.intro HR.out.2.2.1 (show nm ≤ k + 1 by have := HR.out.2.2.2; omega))))
        go_wp2_with fail
        refine (getCB H9.out.1 H9.out.2.1 htt.out.1 (by have := htt.out.2; omega) hcc.out.1).mono ?_
        rintro e w10 ⟨vv, bb, rfl, hvb, C10, T10, R10, hcl10, hmo10⟩
        have hsm := R10.sm
        have H10 := Lib.hid (And.intro R10 (And.intro hcl10 (And.intro (hmo10.trans H9.out.2.2.1) H9.out.2.2.2)))
        clear R10 hcl10 hmo10
        cases bb
        · clear hvb hsm
          go_wp2_with fail
          refine ⟨⟨k + 1, _, C10, T10, _, _, _, by omega, by go_num, H10.out.1.mono (by omega), H10.out.2.1, H10.out.2.2.1, H10.out.2.2.2⟩, ?_⟩
          simp [intOf] <;> omega
        · have hv2 := hvb rfl
          clear hvb
          subst hv2
          go_wp2_with (at_lookup; refine wpList_lookup_sm rfl _ _ rfl rfl hsm t c rfl hcc.out.2.1 hcc.out.2.2 ?_)
          refine ⟨⟨k + 1, _, C10, T10, _, _, _, by omega, by go_num, H10.out.1.mono (by omega), H10.out.2.1, H10.out.2.2.1, H10.out.2.2.2⟩, ?_⟩
          simp [intOf] <;> omega
    · obtain rfl : k = n := by omega
      have hF : CF w0.heap.size (4 * k) data w0 wr g most C T L f 0 := ⟨hR.at_, hR.g, hR.b, hcl.ful, hmo⟩
      have H8 := Lib.hid hF
      clear hR hcl hmo hnm hF H3 H2 H1
      go_wp2_with fail
      go_loopw [126] (fun i wr => ∃ (t : Nat) (C : CM) (T : TS) (L : List Int) (f : Int → Option Ent), t ≤ 64 ∧ i = .int .i64 t ∧ CF w0.heap.size (4 * k + 2 * t) data w0 wr g most C T L f t) (fun i _ => 64 - (intOf i).toNat)
      case atStart => exact ⟨0, _, _, _, _, Nat.zero_le _, rfl, H8.out⟩
      case round =>
        obtain ⟨t, C, T, L, f, ht, rfl, hF⟩ := hrel
        have hcnt := hF.ful.keys hF.at_
        have HF := Lib.hid hF
        have ht8 : t ≤ 8 := by have := HF.out.most; omega
        clear hF hcnt
        have htI : (t : Int) < 64 := by omega
        go_wp2_with fail
        refine Calls.pure_to (sec_any _ _) ?_
        intro w5 b5
        have hF5 : CF w0.heap.size (4 * k + 2 * t) data w0 w5 g most C T L f t := ⟨HF.out.at_.below b5, HF.out.g, HF.out.b.trans (b5.mono (Nat.le_trans HF.out.at_.bg (Nat.le_of_lt HF.out.at_.row.lt))), HF.out.ful, HF.out.most⟩
        have H5 := Lib.hid hF5
        clear hF5 b5
        go_wp2_with fail
        refine (putCF H5.out (by omega) (secB_size _) (by omega)).mono ?_
        rintro e w6 (⟨hc, rfl, C', T', L', f', h⟩ | ⟨hc, rfl, h⟩)
        · go_wp2_with fail
          refine ⟨⟨t + 1, C', T', L', f', by omega, by go_num, (show 4 * k + 2 * t + 2 = 4 * k + 2 * (t + 1) by omega) ▸ h⟩, ?_⟩
          simp [intOf] <;> omega
        · have hl := lenCF h hc (by omega)
          go_wp2_with fail
          refine hl.mono ?_
          rintro e w7 ⟨rfl, b7, htm⟩
          subst htm
          go_wp2_with fail
          go_returns
          exact ⟨rfl, H0.out.trans ((h.b.trans (b7.mono h.b.size)).mono H0.out.size)⟩
end Go.Proofs.YtijagdpkclghnaaDoor
/- CacheClean: what isn't dirty is as it was filled last, or put and done, or isn't there; a full cache of dirty stripes takes no other one: for every input the Go function trunnionlaw24.CacheClean returns true and leaves its arguments as they were. The row lists the variable math/bits.deBruijn64tab, which the card ties to the program's text. -/
namespace Go.Proofs.YtijagdpkclghnaaDoor
open Go Go.ChangeShapes Go.WideShapes Go.ChangeAt Go.RowKit
set_option maxRecDepth 100000 in
theorem cacheClean_lifted (os : Os) (started : os.Started) (H : Type) (enc : TypeId × Value → H) :
    ReturnsInHanded {} Tryd.checked os 5 .any (fun w args => (Rows.cacheCleanSpec.pre enc Tryd.prog Tryd.f5 [] false w args ∧ laidMet Tryd.prog [("math/bits.deBruijn64tab", Rows.laid_math_bits_deBruijn64tab)] w) ∧ sizedMet enc Tryd.prog Tryd.f5 (OpenSpec.ofChange Rows.cacheCleanSpec) false w args)
      (Rows.cacheCleanSpec.post enc Tryd.prog Tryd.f5 false true false false) := by
  refine law_row Tryd.func5 rfl (by kernel_rfl) (by kernel_rfl) (by rw [Tryd.params5]; intro t ht; simp at ht; rcases ht with rfl | rfl <;> exact ⟨by kernel_rfl, of_decide_eq_true (by kernel_rfl)⟩) os started H enc #[.agg #[.int .i64 0, .int .i64 0, .int .i64 0], .slice none 0 0] (by kernel_rfl) (by kernel_rfl) (by kernel_rfl) (by kernel_rfl) (by kernel_rfl) ?_
  intro W base args ds p hval hA hsz hT
  rw [Tryd.params5] at hA hval
  obtain ⟨v0, vs0, d0, ds0, p0, q0, hargs, rfl, rfl, h0, r0⟩ := trodAll_cons hA
  obtain ⟨v1, vs1, d1, ds1, p1, q1, rfl, rfl, rfl, h1, r1⟩ := trodAll_cons r0
  obtain ⟨rfl, rfl, rfl⟩ := trodAll_nil r1
  obtain rfl : args = #[v0, v1] := by cases args; simp_all
  obtain ⟨x0, y0, z0, rfl, _, _, _⟩ := open_three Tryd.underlying37 Tryd.underlying3 (by kernel_rfl) (by kernel_rfl) (hval 0 _ v0 rfl rfl) h0
  obtain ⟨a1, m1, c1, rfl⟩ := okWide_slice Tryd.underlying23 (hval 1 _ v1 rfl rfl)
  obtain ⟨l1, hl1, hc1, _, hn1, hd1⟩ := open_acts h1
  exact ⟨rfl, clean_walk x0 y0 z0 a1 m1 c1 l1 W hT hl1 hc1 hn1 hd1⟩
theorem cacheClean_said : Rows.CacheCleanSaid :=
  OpenClaim.holds_of_wide 5 Tryd.f5 rfl rfl rfl rfl rfl rfl rfl ⟨rfl, rfl, rfl, rfl, rfl⟩ rfl rfl rfl rfl rfl (by kernel_rfl) Tryd.func5 (by kernel_rfl)
    (of_decide_eq_true (by kernel_rfl)) (by unfold Func.isWrapper; first | (rw [if_pos (by decide +kernel)]; kernel_rfl) | (rw [if_neg (by decide +kernel)]; exact ⟨rfl, rfl⟩))
    (fun os started H enc _ => cacheClean_lifted os started H enc)
theorem cacheClean_card : Rows.CacheCleanCardSaid :=
  Claim7.holds_tied_plain_at .later [] [.data] true Rows.cacheCleanCard.stood.harness false
    cacheClean_said (fun _ h => by cases h) (by kernel_rfl) (fun _ h => by cases h) cacheClean_row_tie rfl ⟨rfl, rfl⟩ (by kernel_rfl) rfl
    (fun f fn hf hfn => by
      obtain rfl : f = 5 := Option.some.inj ((show Tryd.prog.funcNamed "trunnion/trunnionlaw24.CacheClean" = some 5 by kernel_rfl).symm.trans hf) |>.symm
      obtain rfl : fn = Tryd.f5 := (Option.some.inj (Tryd.func5.symm.trans hfn)).symm
      refine ⟨by kernel_rfl, fun j t ht => ?_⟩
      rw [Tryd.params5] at ht
      have hm : t ∈ [37, 23] := by simpa using Array.mem_of_getElem? ht
      simp at hm
      rcases hm with rfl | rfl <;> exact (show Tryd.prog.wantsStandIn _ = false by kernel_rfl))
    (by kernel_rfl)
#print axioms cacheClean_card
end Go.Proofs.YtijagdpkclghnaaDoor
