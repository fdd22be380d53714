/- Several texts in one: KSum KPair KSame KSec KLaw KLawAll LCachePlays. -/
import Derived.Test.YtijagdpkclghnaaDoorKcpg
/- What is seen of a cache is what is seen of the document's cells: plain laws. -/
namespace Go.Proofs.YtijagdpkclghnaaDoor
open Go Go.RowKit
set_option maxRecDepth 100000
variable {B n data : Nat} {w w' : World} {C C' : CM} {T T1 T' T0 : TS} {L L' : List Int} {f f' f0 : Int → Option Ent} {E E' : Ent} {i j v : Int} {c k : Nat} {s old now : ByteArray} {d : Bool} {cs cs' cs0 cs1 : List CL} {x y z : CL} {R : RS} {P D : List RK}
/-- The sum of powers of unlike numbers has their bits. -/
def sumL (l : List Nat) : Nat := (l.map fun c => 2 ^ c).sum
theorem tot_none (g : Nat → Bool) (hg : ∀ j, g j = false) : ∀ n base, Set4.tot g base n = 0
  | 0, _ => rfl
  | n + 1, base => by unfold Set4.tot; rw [tot_none g hg n, hg]; rfl
theorem tot_add (g g' : Nat → Bool) (c : Nat) (hc : g c = false) (h1 : g' c = true) (h2 : ∀ j, j ≠ c → g' j = g j) : ∀ n base, base ≤ c → c < base + n → Set4.tot g' base n = 2 ^ (c - base) + Set4.tot g base n
  | 0, base, h3, h4 => by omega
  | n + 1, base, h3, h4 => by
    unfold Set4.tot
    by_cases e : base = c
    · subst e
      have hr : ∀ n b, base < b → Set4.tot g' b n = Set4.tot g b n := by
        intro n
        induction n with
        | zero => intro b _; rfl
        | succ n ih => intro b hb; unfold Set4.tot; rw [ih (b + 1) (by omega), h2 b (by omega)]
      rw [hr n (base + 1) (by omega), h1, hc, Nat.sub_self]
      simp
    · rw [tot_add g g' c hc h1 h2 n (base + 1) (by omega) (by omega), h2 base e]
      have : c - base = (c - (base + 1)) + 1 := by omega
      rw [this, Nat.pow_succ]
      omega
theorem sumL_tot : ∀ l : List Nat, l.Nodup → (∀ c ∈ l, c < 64) → sumL l = Set4.tot (fun j => decide (j ∈ l)) 0 64
  | [], _, _ => (tot_none _ (fun j => by simp) 64 0).symm
  | c :: l, hn, hb => by
    obtain ⟨h1, h2⟩ := List.nodup_cons.1 hn
    have ih := sumL_tot l h2 fun c hc => hb c (List.mem_cons_of_mem _ hc)
    have := tot_add (fun j => decide (j ∈ l)) (fun j => decide (j ∈ c :: l)) c (by simpa using h1) (by simp) (fun j hj => by simp [hj]) 64 0 (Nat.zero_le _) (by have := hb c (List.mem_cons_self ..); omega)
    rw [this, ← ih]
    unfold sumL
    simp
/-- A set whose numbers are those of a list, all of them small. -/
theorem set_sum (t : Set4) {l : List Nat} (hn : l.Nodup) (hm : ∀ c, c ∈ l ↔ t.has c = true) (hb : ∀ c, t.has c = true → c < 30) : t.a = sumL l ∧ t.b = 0 ∧ t.c = 0 ∧ t.d = 0 := by
  have hl : ∀ c ∈ l, c < 64 := fun c hc => by have := hb c ((hm c).1 hc); omega
  have hz : ∀ k, 0 < k → k < 4 → t.word k = 0 := fun k h0 h4 => Set4.word_eq (t.word_lt k) (by omega) fun j hj => by
    rw [← Set4.has_at t k j h4 hj, Nat.zero_testBit]
    cases e : t.has (64 * k + j)
    · rfl
    · have := hb _ e; omega
  refine ⟨?_, hz 1 (by omega) (by omega), hz 2 (by omega) (by omega), hz 3 (by omega) (by omega)⟩
  rw [sumL_tot l hn hl]
  refine Set4.word_eq (t.word_lt 0) (Set4.tot_lt _ 64 0) fun j hj => ?_
  rw [show t.a.testBit j = t.has j by have := Set4.has_at t 0 j (by omega) hj; rw [Nat.mul_zero, Nat.zero_add] at this; exact this.symm, Set4.testBit_tot]
  simp only [Nat.zero_add, hj, decide_true, Bool.true_and]
  rw [Bool.eq_iff_iff, decide_eq_true_iff]
  exact (hm j).symm
/-- The columns of a stripe that are counted. -/
def colsK (kind i : Int) (cs : List CL) : List Nat := (cs.filter (hitK kind i)).map fun x => x.c.toNat
theorem sumK_cols (kind i : Int) (cs : List CL) : sumK kind i cs = sumL (colsK kind i cs) := by unfold sumK sumL colsK; rw [List.map_map]; rfl
theorem mem_cols {kind : Int} : c ∈ colsK kind i cs ↔ ∃ x ∈ cs, x.s = i ∧ inK kind x = true ∧ x.c.toNat = c := by
  unfold colsK
  simp only [List.mem_map, List.mem_filter]
  constructor
  · rintro ⟨x, ⟨h1, h2⟩, h3⟩
    unfold hitK at h2
    rw [Bool.and_eq_true, decide_eq_true_iff] at h2
    exact ⟨x, h1, h2.1, h2.2, h3⟩
  · rintro ⟨x, h1, h2, h3, h4⟩
    exact ⟨x, ⟨h1, by unfold hitK; rw [Bool.and_eq_true, decide_eq_true_iff]; exact ⟨h2, h3⟩⟩, h4⟩
theorem RelC.col0 (h : RelC f cs) (hx : x ∈ cs) : 0 ≤ x.c := by
  obtain ⟨E, c, _, h2, _⟩ := h.cell x hx
  omega
theorem cols_nodup (h : RelC f cs) (kind : Int) : (colsK kind i cs).Nodup := by
  unfold colsK
  have h1 : ((cs.filter (hitK kind i)).map CL.pr).Nodup := h.nd.sublist (List.filter_sublist.map _)
  refine List.pairwise_map.2 ?_
  refine (List.pairwise_map.1 h1).imp_of_mem fun {a b} ha hb hne e => hne ?_
  have ha1 := (List.mem_filter.1 ha)
  have hb1 := (List.mem_filter.1 hb)
  unfold hitK at ha1 hb1
  rw [Bool.and_eq_true, decide_eq_true_iff] at ha1 hb1
  have h3 := h.col0 ha1.1
  have h4 := h.col0 hb1.1
  unfold CL.pr
  rw [ha1.2.1, hb1.2.1, show a.c = b.c by omega]
/-- Which set a kind is. -/
def setK (kind : Int) (f : Int → Option Ent) (i : Int) : Set4 := if kind = 1 then dirtS f i else if kind = 2 then knownS f i else haveS f i
theorem setK_none (kind : Int) (hf : f i = none) : setK kind f i = Set4.zero := by unfold setK dirtS knownS haveS; rw [hf]; split <;> first | rfl | (split <;> rfl)
theorem RelC.mem (h : RelC f cs) (kind : Int) : c ∈ colsK kind i cs ↔ (setK kind f i).has c = true := by
  rw [mem_cols]
  constructor
  · rintro ⟨x, hx, hs, hin, hc⟩
    obtain ⟨E, e, hE, he, hC, hN⟩ := h.cell x hx
    rw [hs] at hE
    obtain rfl : e = c := by omega
    unfold setK dirtS knownS haveS
    rw [hE]
    unfold inK at hin
    split at hin
    · rw [if_pos ‹_›]; show E.dt.has e = true; rw [hC.dt]; exact hin
    · rw [if_neg ‹_›]
      split at hin
      · rw [if_pos ‹_›]; show E.ot.has e = true; rw [hC.ot]; simpa using hin
      · rw [if_neg ‹_›]; exact hC.nt
  · intro hh
    cases hf : f i with
    | none => rw [setK_none kind hf, Set4.has_zero] at hh; cases hh
    | some E =>
      have hnt : E.nt.has c = true := by
        cases e : E.nt.has c
        · have := h.non i E c hf e
          unfold setK dirtS knownS haveS at hh
          rw [hf] at hh
          split at hh
          · exact absurd hh (by show ¬ E.dt.has c = true; rw [this.2]; simp)
          · split at hh
            · exact absurd hh (by show ¬ E.ot.has c = true; rw [this.1]; simp)
            · exact absurd hh (by show ¬ E.nt.has c = true; rw [e]; simp)
        · rfl
      obtain ⟨x, hx, h1, h2⟩ := h.all i E c hf hnt
      obtain ⟨F, e, hF, he, hC, hN⟩ := h.cell x hx
      rw [h1, hf] at hF
      cases hF
      obtain rfl : e = c := by omega
      refine ⟨x, hx, h1, ?_, by omega⟩
      unfold setK dirtS knownS haveS at hh
      rw [hf] at hh
      unfold inK
      split at hh
      · rw [if_pos ‹_›, ← hC.dt]; exact hh
      · rw [if_neg ‹_›]
        split at hh
        · rw [if_pos ‹_›]
          have hh2 : E.ot.has e = true := hh
          rw [hC.ot] at hh2; simpa using hh2
        · rw [if_neg ‹_›]; simpa using hN
theorem RelC.small (h : RelC f cs) (hA : CacheAt B n data w C T L f) (kind : Int) : ∀ c, (setK kind f i).has c = true → c < 30 := fun c hc => by
  obtain ⟨x, hx, h1, h2, h3⟩ := mem_cols.1 ((h.mem kind).2 hc)
  obtain ⟨E, e, hE, he, hC, hN⟩ := h.cell x hx
  have := (hA.ent _ E hE).i1 e hC.nt
  have := hA.d30
  omega
/-- What Columns tells is the set. -/
theorem RelC.sum (h : RelC f cs) (hA : CacheAt B n data w C T L f) (kind : Int) : (setK kind f i).a = sumK kind i cs ∧ (setK kind f i).b = 0 ∧ (setK kind f i).c = 0 ∧ (setK kind f i).d = 0 := by
  rw [sumK_cols]
  exact set_sum _ (cols_nodup h kind) (fun c => h.mem kind) (h.small hA kind)
theorem RelC.cols30 (h : RelC f cs) (hA : CacheAt B n data w C T L f) : ∀ x ∈ cs, 0 ≤ x.c ∧ x.c < 30 := fun x hx => by
  obtain ⟨E, e, hE, he, hC, hN⟩ := h.cell x hx
  have := (hA.ent _ E hE).i1 e hC.nt
  have := hA.d30
  omega
theorem RelC.nows (h : RelC f cs) : ∀ x ∈ cs, x.now ≠ noB := fun x hx => by
  obtain ⟨E, e, hE, he, hC, hN⟩ := h.cell x hx
  exact hN
theorem set4_empty (t : Set4) (h : t.b = 0 ∧ t.c = 0 ∧ t.d = 0) : t.empty = (t.a == 0) := by unfold Set4.empty; rw [h.1, h.2.1, h.2.2]; simp
theorem RelC.dirty (h : RelC f cs) (hA : CacheAt B n data w C T L f) (i : Int) : dirtyK cs i = dirtyOf f i := by
  obtain ⟨h1, h2⟩ := h.sum (i := i) hA 1
  have e : (setK 1 f i) = dirtS f i := by unfold setK; rw [if_pos rfl]
  rw [e] at h1 h2
  unfold dirtyK dirtyOf
  rw [← h1]
  unfold dirtS at *
  cases hf : f i with
  | none => rfl
  | some E =>
    rw [hf] at h2
    show _ = !E.dt.empty
    rw [set4_empty E.dt h2]
/-- Rising lists of the same numbers are the same. -/
theorem sorted_eq {l l' : List Int} (h1 : l.Pairwise (· < ·)) (h2 : l'.Pairwise (· < ·)) (hm : ∀ x, x ∈ l ↔ x ∈ l') : l = l' := by
  induction l generalizing l' with
  | nil =>
    cases l' with
    | nil => rfl
    | cons a l' => exact absurd ((hm a).2 (List.mem_cons_self ..)) (by simp)
  | cons a l ih =>
    cases l' with
    | nil => exact absurd ((hm a).1 (List.mem_cons_self ..)) (by simp)
    | cons b l' =>
      obtain ⟨a1, a2⟩ := List.pairwise_cons.1 h1
      obtain ⟨b1, b2⟩ := List.pairwise_cons.1 h2
      have e : a = b := by
        rcases List.mem_cons.1 ((hm a).1 (List.mem_cons_self ..)) with e | e
        · exact e
        · rcases List.mem_cons.1 ((hm b).2 (List.mem_cons_self ..)) with e' | e'
          · exact e'.symm
          · have := a1 b e'; have := b1 a e; omega
      subst e
      rw [ih a2 b2 fun x => ?_]
      constructor
      · intro hx
        rcases List.mem_cons.1 ((hm x).1 (List.mem_cons_of_mem _ hx)) with e | e
        · subst e; have := a1 x hx; omega
        · exact e
      · intro hx
        rcases List.mem_cons.1 ((hm x).2 (List.mem_cons_of_mem _ hx)) with e | e
        · subst e; have := b1 x hx; omega
        · exact e
theorem rising_lt {L : List Int} (hn : L.Nodup) : (rising L).Pairwise (· < ·) := by
  have h1 : (rising L).Pairwise fun x y => decide (x ≤ y) = true := List.pairwise_mergeSort (fun a b c h1 h2 => by simp at *; omega) (fun a b => by simp; omega) L
  have h2 : (rising L).Nodup := (rising_perm L).nodup_iff.2 hn
  exact (h1.and h2).imp fun h => by have := h.1; have := h.2; simp at *; omega
theorem upto_lt (t : Nat) : (upto t).Pairwise (· < ·) := by
  unfold upto
  exact List.pairwise_map.2 (List.pairwise_lt_range.imp fun h => by omega)
theorem RelC.dirties (h : RelC f cs) (hA : CacheAt B n data w C T L f) : (upto 64).filter (dirtyK cs) = (rising L).filter (dirtyOf f) := by
  refine sorted_eq ((upto_lt 64).filter _) ((rising_lt hA.map.nodup).filter _) fun x => ?_
  rw [List.mem_filter, List.mem_filter, h.dirty hA, (rising_perm L).mem_iff, upto_mem]
  have key : dirtyOf f x = true → (0 ≤ x ∧ x < (64 : Nat)) ∧ x ∈ L := fun hd => by
    unfold dirtyOf at hd
    cases hf : f x with
    | none => rw [hf] at hd; cases hd
    | some E =>
      have h1 := h.st x E hf
      have h2 := hA.map.some_ x
      rw [hf] at h2
      exact ⟨by omega, by simpa using h2.symm⟩
  constructor
  · rintro ⟨_, h2⟩; exact ⟨(key h2).2, h2⟩
  · rintro ⟨_, h2⟩; exact ⟨(key h2).1, h2⟩
theorem RelC.hasT (hA : CacheAt B n data w C T L f) (i : Int) : T.has i = (f i).isSome := by
  rw [hA.keys, ← hA.map.some_]; cases f i <;> rfl
theorem keysK_len (hA : CacheAt B n data w C T L f) (hrel : Rel T R P D) : R.ks.length = L.length := by
  rw [hrel.len, ← List.length_append]
  have h1 := nodup_le hA.good.nodup (l' := L) fun x hx => by have := (has_iff T x).2 hx; rw [hA.keys] at this; simpa using this
  have h2 := nodup_le hA.map.nodup (l' := T.plain ++ T.dear) fun x hx => (has_iff T x).1 (by rw [hA.keys]; simpa using hx)
  omega
end Go.Proofs.YtijagdpkclghnaaDoor
/- A cache and the document's cache, side by side: what each call leaves of both. -/
namespace Go.Proofs.YtijagdpkclghnaaDoor
open Go Go.RowKit
set_option maxRecDepth 100000
variable {B n data g q m b : Nat} {u w w' : World} {C C' : CM} {M M' : RM} {T T1 T' T0 : TS} {L L' : List Int} {f f' f0 : Int → Option Ent} {E E' : Ent} {i j : Int} {c k : Nat} {s : ByteArray} {cs cs' cs0 cs1 : List CL} {x y z : CL} {R R' : RS} {P D : List RK}
theorem CacheAt.same (h : CacheAt B n data w C T L f) (hs : ∀ k, C.foot f k → w'.heap[k]? = w.heap[k]?) : CacheAt B n data w' C T L f :=
  ⟨rowSame h.row (hs _ (.inl rfl)),
    ⟨rowSame h.turn.row (hs _ (.inr (.inr (.inl (.inl rfl))))), irow_same h.turn.o1 fun x hx => hs x (.inr (.inr (.inl (.inr (.inr (.inl hx)))))), irow_same h.turn.o2 fun x hx => hs x (.inr (.inr (.inl (.inr (.inr (.inr hx)))))), h.turn.pm.same (hs _ (.inr (.inr (.inl (.inr (.inl rfl)))))), h.turn.gm, h.turn.g1, h.turn.g2, h.turn.m1, h.turn.m2, h.turn.d12, h.turn.bg, h.turn.bm⟩,
    h.good, h.map.same (hs _ (.inr (.inl rfl))), fun k E hE => (h.ent k E hE).same fun x hx => hs x (.inr (.inr (.inr ⟨k, E, hE, hx⟩))), h.apart, h.off, h.gm, h.gM, h.mM, h.bg, h.bm, h.keys, h.d2, h.d30⟩
/-- Both, side by side, behind m acts. -/
structure Pair (u : World) (g q data m : Nat) (w : World) (C : CM) (M : RM) (T : TS) (L : List Int) (f : Int → Option Ent) (R : RS) (cs : List CL) : Prop where
  c : CacheAt u.heap.size (3 * m) data w C T L f
  r : RCAt u.heap.size w M data R cs
  ap : ∀ k, C.foot f k → ¬ M.foot k
  rel : ∃ P D, Rel T R P D
  tab : RelC f cs
  clk : R.clock ≤ 3 * m
  len : cs.length ≤ m
  g : C.g = g
  q : M.q = q
  b : Below u.heap.size u w
/-- A block that is neither's. -/
structure Off (C : CM) (f : Int → Option Ent) (M : RM) (w : World) (b : Nat) : Prop where
  lt : b < w.heap.size
  c : ¬ C.foot f b
  r : ¬ M.foot b
/-- Where the cache has stepped, and the document's not yet. -/
structure Half (u : World) (g q data m : Nat) (w0 w : World) (C : CM) (M : RM) (T : TS) (L : List Int) (f : Int → Option Ent) (R : RS) (cs : List CL) : Prop where
  c : CacheAt u.heap.size (3 * m) data w C T L f
  r : RCAt u.heap.size w M data R cs
  ap : ∀ k, C.foot f k → ¬ M.foot k
  g : C.g = g
  q : M.q = q
  b : Below u.heap.size u w
theorem Pair.toHalf (h : Pair u g q data m w C M T L f R cs) (hs : CStep C f C' f' w w') (ha : CacheAt u.heap.size n data w' C' T' L' f') (hn : n ≤ 3 * (m + 1)) : Half u g q data (m + 1) w w' C' M T' L' f' R cs :=
  ⟨ha.mono hn, h.r.same fun k hk => hs.block k (h.r.lts k hk).2 fun h2 => h.ap k h2 hk, fun k hk hr => (hs.foot k hk).elim (fun h2 => h.ap k h2 hr) fun h2 => by have := (h.r.lts k hr).2; omega, hs.g.trans h.g, h.q, hs.under h.c h.b⟩
theorem Half.toPair {w0 : World} (h : Half u g q data m w0 w C M T L f R cs) (hs : MStep M M' w w') (ha : RCAt u.heap.size w' M' data R' cs') (hrel : ∃ P D, Rel T R' P D) (ht : RelC f cs') (hc : R'.clock ≤ 3 * m) (hl : cs'.length ≤ m) : Pair u g q data m w' C M' T L f R' cs' :=
  ⟨h.c.same fun k hk => hs.block k (h.c.lts k hk).2 (h.ap k hk), ha, fun k hk hr => (hs.foot k hr).elim (h.ap k hk) fun h2 => by have := (h.c.lts k hk).2; omega, hrel, ht, hc, hl, h.g, hs.q.trans h.q, hs.under h.r h.b⟩
theorem Off.step (h : Off C f M w b) (hs : CStep C f C' f' w w') : Off C' f' M w' b ∧ w'.heap[b]? = w.heap[b]? :=
  ⟨⟨Nat.lt_of_lt_of_le h.lt hs.size, fun h2 => (hs.foot b h2).elim h.c fun h3 => by have := h.lt; omega, h.r⟩, hs.block b h.lt h.c⟩
theorem Off.stepR (h : Off C f M w b) (hs : MStep M M' w w') : Off C f M' w' b ∧ w'.heap[b]? = w.heap[b]? :=
  ⟨⟨Nat.lt_of_lt_of_le h.lt hs.size, h.c, fun h2 => (hs.foot b h2).elim h.r fun h3 => by have := h.lt; omega⟩, hs.block b h.lt h.r⟩
theorem Pair.below (h : Pair u g q data m w C M T L f R cs) (hb : Below w.heap.size w w') : Pair u g q data m w' C M T L f R cs :=
  ⟨h.c.below hb, h.r.below hb, h.ap, h.rel, h.tab, h.clk, h.len, h.g, h.q, h.b.trans (hb.mono h.b.size)⟩
theorem Pair.mono {m' : Nat} (h : Pair u g q data m w C M T L f R cs) (hm : m ≤ m') : Pair u g q data m' w C M T L f R cs :=
  ⟨h.c.mono (by omega), h.r, h.ap, h.rel, h.tab, by have := h.clk; omega, by have := h.len; omega, h.g, h.q, h.b⟩
theorem Off.below (h : Off C f M w b) (hb : Below w.heap.size w w') : Off C f M w' b ∧ w'.heap[b]? = w.heap[b]? :=
  ⟨⟨Nat.lt_of_lt_of_le h.lt hb.size, h.c, h.r⟩, hb.block b h.lt⟩
/-- What is left of both, behind one act more; block b is as it was. -/
def After (u : World) (g q data m b : Nat) (w w' : World) : Prop := w'.heap[b]? = w.heap[b]? ∧ ∃ (C : CM) (M : RM) (T : TS) (L : List Int) (f : Int → Option Ent) (R : RS) (cs : List CL), Pair u g q data m w' C M T L f R cs
theorem Pair.after (h : Pair u g q data m w C M T L f R cs) (ho : Off C f M w b) (hb : Below w.heap.size w w') : After u g q data (m + 1) b w w' :=
  ⟨(ho.below hb).2, C, M, T, L, f, R, cs, (h.below hb).mono (Nat.le_succ m)⟩
theorem hasT (h : CacheAt B n data w C T L f) (i : Int) : T.has i = (f i).isSome := RelC.hasT h i
/-- The four answers of Fill and Put. -/
theorem Pair.refused (h : Pair u g q data m w C M T L f R cs) (s : ByteArray) (i j : Int) :
    (∃ er, (er = 3 ∨ er = 4 ∨ er = 10) ∧ (∀ w', Below w.heap.size w w' → Calls Tryd.prog 26 #[pt C.g, .int .i64 i, .int .i64 j, .string s] w' fun e w'' => e = .returned (.tuple #[pnil, .int .i64 er]) ∧ Below w'.heap.size w' w'') ∧
      (∀ w', Below w.heap.size w w' → Calls Tryd.prog 40 #[pt M.q, .int .i64 i, .int .i64 j, .string s] w' fun e w'' => e = .returned (.tuple #[.int .i64 0, .int .i64 er]) ∧ Below w'.heap.size w' w'')) ∨
    (0 ≤ i ∧ i < 64 ∧ (∃ c : Nat, j = (c : Int) ∧ c < data) ∧ s.size = 64 ∧ canOpen T f i = true) := by
  by_cases hr : i < 0 ∨ 64 ≤ i ∨ j < 0 ∨ (data : Int) ≤ j
  · exact .inl ⟨3, .inl rfl, fun w' hb => open_range s w' (h.c.below hb) hr, fun w' hb => (ROpen_range s w' (h.r.below hb) hr).mono fun e w'' he => ⟨he.1, he.2 ▸ Below.refl _ _⟩⟩
  · by_cases hs : s.size = 64
    · obtain ⟨c, hc⟩ : ∃ c : Nat, j = (c : Int) := ⟨j.toNat, by omega⟩
      subst hc
      cases ho : canOpen T f i
      · left
        have ho2 := ho
        unfold canOpen at ho2
        obtain ⟨hf, hr2⟩ := Bool.or_eq_false_iff.1 ho2
        obtain ⟨hfull, hv⟩ := Bool.or_eq_false_iff.1 hr2
        obtain ⟨P, D, hrel⟩ := h.rel
        refine ⟨10, .inr (.inr rfl), fun w' hb => openG_no i c s w' (h.c.below hb) (by omega) (by omega) (by omega) hs ho, fun w' hb => ROpen_full s w' (h.r.below hb) hrel h.c.good (by omega) (by omega) (by omega) (by omega) hs (by rw [hasT h.c, hf]) (by simpa using hfull) (by simpa using hv)⟩
      · exact .inr ⟨by omega, by omega, ⟨c, rfl, by omega⟩, hs, rfl⟩
    · exact .inl ⟨4, .inr (.inl rfl), fun w' hb => open_form s w' (h.c.below hb) (by omega) (by omega) (by omega) (by omega) hs, fun w' hb => (ROpen_form s w' (h.r.below hb) (by omega) (by omega) (by omega) (by omega) hs).mono fun e w'' he => ⟨he.1, he.2 ▸ Below.refl _ _⟩⟩
theorem canT (h : CacheAt B n data w C T L f) (ho : canOpen T f i = true) : T.has i = true ∨ T.full = false ∨ T.victim.isSome = true := by
  unfold canOpen at ho
  rw [Bool.or_eq_true, Bool.or_eq_true] at ho
  rcases ho with h1 | h1 | h1
  · exact .inl (by rw [hasT h, h1])
  · exact .inr (.inl (by simpa using h1))
  · exact .inr (.inr h1)
theorem roomGood (hg : Good T) (hn : T.pins.Nodup) (hi : In64 i) (hr : RoomR T cs i T1 cs0) : Good T1 ∧ T1.pins.Nodup := by
  rcases hr with ⟨_, rfl, _⟩ | ⟨_, _, rfl, _⟩ | ⟨_, _, v, _, rfl, _⟩
  · exact ⟨hg.touch i, by rw [keepTouch]; exact hn⟩
  · exact ⟨hg.add i hi, by rw [keepAdd]; exact hn⟩
  · exact ⟨(hg.drop v).add i hi, by rw [keepAdd]; exact hn.sublist List.erase_sublist⟩
theorem InR.len (h : InR cs0 i j k x cs1) : cs1.length ≤ cs0.length + 1 := by
  rcases h with ⟨rfl, _⟩ | ⟨_, _, _, rfl⟩
  · omega
  · simp
theorem RoomR.len (h : RoomR T cs i T1 cs0) : cs0.length ≤ cs.length := by
  rcases h with ⟨_, _, rfl⟩ | ⟨_, _, _, rfl⟩ | ⟨_, _, v, _, _, rfl⟩
  · omega
  · omega
  · exact List.length_filter_le _ _
theorem size_ne {s : ByteArray} (h : s.size = 64) : s ≠ noB := fun e => by rw [e] at h; simp [ByteArray.size] at h
/-- Fill on both sides. -/
theorem fill_both (h : Pair u g q data m w C M T L f R cs) (ho : Off C f M w b) (hm : m ≤ 200) (i j : Int) (s : ByteArray) :
    Calls Tryd.prog 11 #[pt g, .int .i64 i, .int .i64 j, .string s] w fun e w1 => ∃ er, e = .returned (.int .i64 er) ∧ w1.heap[b]? = w.heap[b]? ∧
      Calls Tryd.prog 19 #[pt q, .int .i64 i, .int .i64 j, .string s] w1 fun e w2 => e = .returned (.int .i64 er) ∧ After u g q data (m + 1) b w w2 := by
  rcases h.refused s i j with ⟨er, he, h1, h2⟩ | ⟨hi, hi2, ⟨c, rfl, hc⟩, hs, hop⟩
  · rw [← h.g, ← h.q]
    refine (Fill_er s _ er w (he.imp id id |> fun h => .inr h) (h1 w (Below.refl _ _))).mono ?_
    rintro e w1 ⟨rfl, b1⟩
    refine ⟨er, rfl, (ho.below b1).2, (RFill_er s er w1 _ he (h2 w1 b1)).mono ?_⟩
    rintro e w2 ⟨rfl, b2⟩
    have := h.after ho (b1.trans (b2.mono b1.size))
    rw [h.g, h.q]
    exact ⟨rfl, this⟩
  · obtain ⟨P, D, hrel⟩ := h.rel
    have hd := h.c.d30
    have hF := Fill_gen i c s w h.c hi hi2 hc hs hop (by omega)
    rw [h.g] at hF
    refine hF.mono ?_
    rintro e w1 ⟨rfl, wz, C1, E, T1, L1, f1, hop1, A1, S1⟩
    have H := h.toHalf S1 A1 (by omega)
    obtain ⟨o1, k1⟩ := ho.step S1
    have hR := RFill_yes s w1 H.r (by have := h.len; omega) hrel h.c.good h.c.turn.pnodup (by have := h.clk; omega) hi hi2 (Int.natCast_nonneg c) (by omega) hs (canT h.c hop)
    rw [H.q] at hR
    refine ⟨0, rfl, k1, hR.mono ?_⟩
    rintro e w2 ⟨rfl, k, x, M2, T2, R2, cs0, cs1, A2, hr2, S2, hc2, hro, hin⟩
    obtain ⟨tb, rfl⟩ := h.tab.room (hasT h.c i) hi hi2 hop1.how hro
    have hE := hop1.at_.ent i E hop1.here
    have tb2 := tb.fill hop1.here hin (by omega) (by rw [hE.l1]; exact hc) (by rw [hE.l2]; exact hc) (size_ne hs)
    obtain ⟨o2, k2⟩ := o1.stepR S2
    have := hin.len
    have := hro.len
    have := h.len
    have := h.clk
    exact ⟨rfl, k2.trans k1, C1, M2, T2, L1, _, R2, _, H.toPair S2 A2 hr2 tb2 (by omega) (by rw [List.length_set]; omega)⟩
/-- Put on both sides. -/
theorem put_both (h : Pair u g q data m w C M T L f R cs) (ho : Off C f M w b) (hm : m ≤ 200) (i j : Int) (s : ByteArray) :
    Calls Tryd.prog 10 #[pt g, .int .i64 i, .int .i64 j, .string s] w fun e w1 => ∃ er, e = .returned (.int .i64 er) ∧ w1.heap[b]? = w.heap[b]? ∧
      Calls Tryd.prog 23 #[pt q, .int .i64 i, .int .i64 j, .string s] w1 fun e w2 => e = .returned (.int .i64 er) ∧ After u g q data (m + 1) b w w2 := by
  rcases h.refused s i j with ⟨er, he, h1, h2⟩ | ⟨hi, hi2, ⟨c, rfl, hc⟩, hs, hop⟩
  · rw [← h.g, ← h.q]
    refine (Put_er s _ er w (.inr he) (h1 w (Below.refl _ _))).mono ?_
    rintro e w1 ⟨rfl, b1⟩
    refine ⟨er, rfl, (ho.below b1).2, (RPut_er s er w1 _ he (h2 w1 b1)).mono ?_⟩
    rintro e w2 ⟨rfl, b2⟩
    have := h.after ho (b1.trans (b2.mono b1.size))
    rw [h.g, h.q]
    exact ⟨rfl, this⟩
  · obtain ⟨P, D, hrel⟩ := h.rel
    have hd := h.c.d30
    have hF := Put_gen i c s w h.c hi hi2 hc hs hop (by omega)
    rw [h.g] at hF
    refine hF.mono ?_
    rintro e w1 ⟨rfl, wz, C1, E, T1, L1, f1, C2, hop1, A1, S1⟩
    have H := h.toHalf S1 A1 (by omega)
    obtain ⟨o1, k1⟩ := ho.step S1
    have hi64 : In64 i := ⟨by omega, by omega⟩
    have hR := RPut_yes s w1 H.r (by have := h.len; omega) hrel h.c.good h.c.turn.pnodup (by have := h.clk; omega) hi hi2 (Int.natCast_nonneg c) (by omega) hs (canT h.c hop) fun T1 cs0 hr => roomGood h.c.good h.c.turn.pnodup hi64 hr
    rw [H.q] at hR
    refine ⟨0, rfl, k1, hR.mono ?_⟩
    rintro e w2 ⟨rfl, k, x, M2, T2, R2, cs0, cs1, A2, hr2, S2, hc2, hro, hin⟩
    obtain ⟨tb, rfl⟩ := h.tab.room (hasT h.c i) hi hi2 hop1.how hro
    have hE := hop1.at_.ent i E hop1.here
    have tb2 := tb.put hop1.here hin (by omega) (by rw [hE.l1]; exact hc) (size_ne hs)
    obtain ⟨o2, k2⟩ := o1.stepR S2
    have := hin.len
    have := hro.len
    have := h.len
    have := h.clk
    exact ⟨rfl, k2.trans k1, C2, M2, _, L1, _, R2, _, H.toPair S2 A2 hr2 tb2 (by omega) (by rw [List.length_set]; omega)⟩
/-- Done on both sides. -/
theorem done_both (h : Pair u g q data m w C M T L f R cs) (ho : Off C f M w b) (hm : m ≤ 200) (i : Int) (hi : In64 i) (hT : Tab w) :
    Calls Tryd.prog 12 #[pt g, .int .i64 i] w fun e w1 => ∃ ok, e = .returned (.bool ok) ∧ w1.heap[b]? = w.heap[b]? ∧
      Calls Tryd.prog 21 #[pt q, .int .i64 i] w1 fun e w2 => e = .returned (.bool ok) ∧ After u g q data (m + 1) b w w2 := by
  obtain ⟨P, D, hrel⟩ := h.rel
  have := h.len
  have := h.clk
  cases hf : f i with
  | none =>
    rw [← h.g, ← h.q]
    refine (Done_no i w h.c hi hf).mono ?_
    rintro e w1 ⟨rfl, rfl⟩
    refine ⟨false, rfl, rfl, (RDone_no i w h.r hrel h.c.good (by rw [hasT h.c, hf]; rfl)).mono ?_⟩
    rintro e w2 ⟨rfl, b2⟩
    have := h.after ho b2
    rw [h.g, h.q]
    exact ⟨rfl, this⟩
  | some E =>
    have hF := Done_yes i w h.c hi hf hT (by omega)
    rw [h.g] at hF
    refine hF.mono ?_
    rintro e w1 ⟨rfl, C1, A1, S1⟩
    have H := h.toHalf S1 A1 (by omega)
    obtain ⟨o1, k1⟩ := ho.step S1
    have hR := RDone_yes i w1 H.r (by omega) hrel h.c.good h.c.turn.pnodup (by rw [hasT h.c, hf]; rfl) h.tab.nows
    rw [H.q] at hR
    refine ⟨true, rfl, k1, hR.mono ?_⟩
    rintro e w2 ⟨rfl, R2, P2, D2, A2, hr2, S2, hc2⟩
    obtain ⟨o2, k2⟩ := o1.stepR S2
    exact ⟨rfl, k2.trans k1, C1, M, _, _, _, R2, _, H.toPair S2 A2 ⟨P2, D2, hr2⟩ (h.tab.done hf (h.c.ent i E hf)) (by omega) (by rw [List.length_map]; omega)⟩
/-- Drop on both sides. -/
theorem drop_both (h : Pair u g q data m w C M T L f R cs) (ho : Off C f M w b) (hm : m ≤ 200) (i : Int) (hi : In64 i) :
    Calls Tryd.prog 15 #[pt g, .int .i64 i] w fun e w1 => ∃ ok, e = .returned (.bool ok) ∧ w1.heap[b]? = w.heap[b]? ∧
      Calls Tryd.prog 22 #[pt q, .int .i64 i] w1 fun e w2 => e = .returned (.bool ok) ∧ After u g q data (m + 1) b w w2 := by
  obtain ⟨P, D, hrel⟩ := h.rel
  have := h.len
  have := h.clk
  have hdk : dirtyK cs i = dirtyOf f i := h.tab.dirty h.c i
  cases hc : canDrop f i with
  | false =>
    have hno : T.has i = false ∨ sumK 1 i cs ≠ 0 := by
      unfold canDrop at hc
      cases hf : f i with
      | none => exact .inl (by rw [hasT h.c, hf]; rfl)
      | some E =>
        rw [hf] at hc
        have hc : E.dt.empty = false := hc
        right
        unfold dirtyK dirtyOf at hdk
        rw [hf] at hdk
        have hdk : (!(sumK 1 i cs == 0)) = !E.dt.empty := hdk
        rw [hc] at hdk
        simpa using hdk
    rw [← h.g, ← h.q]
    refine (Drop_no i w h.c hi hc).mono ?_
    rintro e w1 ⟨rfl, b1⟩
    refine ⟨false, rfl, (ho.below b1).2, (RDropC_no i w1 (h.r.below b1) (by omega) hrel h.c.good (h.tab.cols30 h.c) hno).mono ?_⟩
    rintro e w2 ⟨rfl, b2⟩
    have := h.after ho (b1.trans (b2.mono b1.size))
    rw [h.g, h.q]
    exact ⟨rfl, this⟩
  | true =>
    obtain ⟨E, hf, hE⟩ : ∃ E, f i = some E ∧ E.dt.empty = true := by
      unfold canDrop at hc
      cases hf : f i with
      | none => rw [hf] at hc; cases hc
      | some E => rw [hf] at hc; exact ⟨E, rfl, hc⟩
    have hz0 : sumK 1 i cs = 0 := by
      unfold dirtyK dirtyOf at hdk
      rw [hf] at hdk
      have hdk : (!(sumK 1 i cs == 0)) = !E.dt.empty := hdk
      rw [hE] at hdk
      simpa using hdk
    have hF := Drop_yes i w h.c hi hc
    rw [h.g] at hF
    refine hF.mono ?_
    rintro e w1 ⟨rfl, M1, A1, S1⟩
    have H := h.toHalf S1 A1 (by omega)
    obtain ⟨o1, k1⟩ := ho.step S1
    have hR := RDropC_yes i w1 H.r (by omega) hrel h.c.good h.c.turn.pnodup (h.tab.cols30 h.c) (by rw [hasT h.c, hf]; rfl) hz0
    rw [H.q] at hR
    refine ⟨true, rfl, k1, hR.mono ?_⟩
    rintro e w2 ⟨rfl, M2, R2, P2, D2, A2, hr2, S2, hc2⟩
    obtain ⟨o2, k2⟩ := o1.stepR S2
    exact ⟨rfl, k2.trans k1, _, M2, _, _, _, R2, _, H.toPair S2 A2 ⟨P2, D2, hr2⟩ (h.tab.gone i) (by omega) (by have := List.length_filter_le (notS i) cs; omega)⟩
/-- Get on both sides. -/
theorem get_both (h : Pair u g q data m w C M T L f R cs) (ho : Off C f M w b) (hm : m ≤ 200) (i j : Int) (hi : In64 i) :
    Calls Tryd.prog 14 #[pt g, .int .i64 i, .int .i64 j] w fun e w1 => ∃ v ok, e = .returned (.tuple #[.string v, .bool ok]) ∧ w1.heap[b]? = w.heap[b]? ∧
      ∀ w1', Below w1.heap.size w1 w1' → Calls Tryd.prog 20 #[pt q, .int .i64 i, .int .i64 j] w1' fun e w2 => e = .returned (.tuple #[.string v, .bool ok]) ∧ After u g q data (m + 1) b w w2 := by
  obtain ⟨P, D, hrel⟩ := h.rel
  have := h.len
  have := h.clk
  by_cases hex : ∃ E, ∃ c : Nat, f i = some E ∧ j = (c : Int) ∧ E.nt.has c = true
  · obtain ⟨E, c, hf, rfl, hnt⟩ := hex
    have hcd := (h.c.ent i E hf).i1 c hnt
    have hF := Get_any i c w h.c hi hcd
    have hb1 : nowB f i c = atB E.nb c := by unfold nowB; rw [hf]; show (if E.nt.has c = true then _ else _) = _; rw [if_pos hnt]
    have hh1 : nowH f i c = true := by unfold nowH; rw [hf]; exact hnt
    rw [h.g, hb1, hh1, if_pos rfl] at hF
    refine hF.mono ?_
    rintro e w1 ⟨rfl, M1, A1, S1⟩
    obtain ⟨o1, k1⟩ := ho.step S1
    refine ⟨_, _, rfl, k1, fun w1' hb => ?_⟩
    have S1' := S1.trans (CStep.of_below _ _ hb)
    have H := h.toHalf S1' (A1.below hb) (by omega)
    obtain ⟨o1', k1'⟩ := ho.step S1'
    have hR := RGet_any (i := i) (j := (c : Int)) w1' H.r (by omega) hrel h.c.good (by omega) h.tab.nows
    rw [H.q] at hR
    refine hR.mono ?_
    rintro e w2 (⟨hno, _⟩ | ⟨x, hx, hxs, hxc, rfl, R2, P2, D2, A2, hr2, S2, hc2⟩)
    · obtain ⟨x, hx, h1, h2⟩ := h.tab.all i E c hf hnt
      exact absurd ⟨h1, h2⟩ (hno x hx)
    · obtain ⟨F, e, hF2, he, hC, hN⟩ := h.tab.cell x hx
      rw [hxs, hf] at hF2
      cases hF2
      obtain rfl : e = c := by omega
      obtain ⟨o2, k2⟩ := o1'.stepR S2
      exact ⟨by rw [hC.nb], k2.trans k1', _, M, _, _, _, R2, _, H.toPair S2 A2 ⟨P2, D2, hr2⟩ h.tab (by omega) (by omega)⟩
  · have hn : ∀ E (c : Nat), f i = some E → j = (c : Int) → E.nt.has c = false := fun E c hf hj => by
      cases e : E.nt.has c
      · rfl
      · exact absurd ⟨E, c, hf, hj, e⟩ hex
    rw [← h.g, ← h.q]
    refine (Get_no w h.c hi hn).mono ?_
    rintro e w1 ⟨rfl, b1⟩
    refine ⟨noB, false, rfl, (ho.below b1).2, fun w1' hb => (RGet_any (i := i) (j := j) w1' (h.r.below (b1.trans (hb.mono b1.size))) (by omega) hrel h.c.good (by omega) h.tab.nows).mono ?_⟩
    rintro e w2 (⟨hno, rfl, rfl⟩ | ⟨x, hx, hxs, hxc, _⟩)
    · have := h.after ho (b1.trans (hb.mono b1.size))
      rw [h.g, h.q]
      exact ⟨rfl, this⟩
    · obtain ⟨F, e, hF2, he, hC, hN⟩ := h.tab.cell x hx
      rw [hxs] at hF2
      have := hn F e hF2 (hxc ▸ he)
      rw [hC.nt] at this; cases this
end Go.Proofs.YtijagdpkclghnaaDoor
/- The law's 'same' over a cache and the document's: its contract. -/
namespace Go.Proofs.YtijagdpkclghnaaDoor
open Go Go.RowKit
set_option maxRecDepth 100000
variable {B n data g q m b : Nat} {u w w' : World} {C C' : CM} {M M' : RM} {T T1 T' T0 : TS} {L L' : List Int} {f f' f0 : Int → Option Ent} {E E' : Ent} {i j : Int} {c k : Nat} {s : ByteArray} {cs cs' cs0 cs1 : List CL} {x y z : CL} {R R' : RS} {P D : List RK}
/-- What Old answers, on both sides. -/
theorem Pair.old (h : Pair u g q data m w C M T L f R cs) (i j : Int) (hi : In64 i) : ∃ ob : ByteArray,
    (∀ w', Below w.heap.size w w' → Calls Tryd.prog 13 #[pt g, .int .i64 i, .int .i64 j] w' fun e w'' => e = .returned (.tuple #[.string ob, .bool (!ob.toList.isEmpty)]) ∧ Below w'.heap.size w' w'') ∧
    (∀ x ∈ cs, x.s = i → x.c = j → x.old = ob) ∧ ((∀ x ∈ cs, ¬ (x.s = i ∧ x.c = j)) → ob = noB) := by
  by_cases hex : ∃ E, ∃ c : Nat, f i = some E ∧ j = (c : Int) ∧ c < data
  · obtain ⟨E, c, hf, rfl, hcd⟩ := hex
    have h1 : oldB f i c = if E.ot.has c = true then atB E.ob c else noB := by unfold oldB; rw [hf]
    have h2 : oldH f i c = E.ot.has c := by unfold oldH; rw [hf]
    have hin : ∀ x ∈ cs, x.s = i → x.c = (c : Int) → x.old = oldB f i c ∧ oldH f i c = !decide (x.old = noB) := fun x hx hs hc => by
      obtain ⟨F, e, hF, he, hC, hN⟩ := h.tab.cell x hx
      rw [hs, hf] at hF
      cases hF
      obtain rfl : e = c := by omega
      rw [h1, h2, hC.ot]
      refine ⟨?_, rfl⟩
      by_cases ho : x.old = noB
      · rw [if_neg (by simp [ho])]; exact ho
      · rw [if_pos (by simp [ho])]; exact (hC.ob ho).symm
    have hout : (∀ x ∈ cs, ¬ (x.s = i ∧ x.c = (c : Int))) → oldB f i c = noB ∧ oldH f i c = false := fun hno => by
      have hn : E.nt.has c = false := by
        cases e : E.nt.has c
        · rfl
        · obtain ⟨x, hx, h3, h4⟩ := h.tab.all i E c hf e
          exact absurd ⟨h3, h4⟩ (hno x hx)
      have ho := (h.tab.non i E c hf hn).1
      rw [h1, h2, ho]
      exact ⟨if_neg (by simp), rfl⟩
    refine ⟨oldB f i c, fun w' hb => ?_, fun x hx hs hc => (hin x hx hs hc).1, fun hno => (hout hno).1⟩
    have := Old_any i c w' (h.c.below hb) hi hcd
    rw [h.g] at this
    have e : oldH f i c = !(oldB f i c).toList.isEmpty := by
      rw [str_is]
      by_cases hx : ∃ x ∈ cs, x.s = i ∧ x.c = (c : Int)
      · obtain ⟨x, hx, hs, hc⟩ := hx
        obtain ⟨e1, e2⟩ := hin x hx hs hc
        rw [← e1]; exact e2
      · obtain ⟨e1, e2⟩ := hout fun x hxm hh => hx ⟨x, hxm, hh⟩
        rw [e1, e2]; simp
    rw [← e]
    exact this
  · refine ⟨noB, fun w' hb => ?_, fun x hx hs hc => ?_, fun _ => rfl⟩
    · have := Old_no (j := j) w' (h.c.below hb) hi fun E c hf hj => by
        cases e : E.ot.has c
        · rfl
        · exact absurd ⟨E, c, hf, hj, (h.c.ent i E hf).i2 c e⟩ hex
      rw [h.g] at this
      rw [str_is]
      simpa using this
    · obtain ⟨F, e, hF, he, hC, hN⟩ := h.tab.cell x hx
      rw [hs] at hF
      exact absurd ⟨F, e, hF, hc ▸ he, (h.c.ent i F hF).i1 e hC.nt⟩ hex
/-- What Have and Known tell, as numbers. -/
theorem Pair.sets (h : Pair u g q data m w C M T L f R cs) (i : Int) :
    (haveS f i).val = .agg #[.int .u64 (sumK 0 i cs : Int), .int .u64 0, .int .u64 0, .int .u64 0] ∧ (dirtS f i).val = .agg #[.int .u64 (sumK 1 i cs : Int), .int .u64 0, .int .u64 0, .int .u64 0] ∧ (knownS f i).val = .agg #[.int .u64 (sumK 2 i cs : Int), .int .u64 0, .int .u64 0, .int .u64 0] ∧
    sumK 0 i cs < 18446744073709551616 ∧ sumK 1 i cs < 18446744073709551616 ∧ sumK 2 i cs < 18446744073709551616 := by
  have e0 : setK 0 f i = haveS f i := by unfold setK; rw [if_neg (by decide), if_neg (by decide)]
  have e1 : setK 1 f i = dirtS f i := by unfold setK; rw [if_pos rfl]
  have e2 : setK 2 f i = knownS f i := by unfold setK; rw [if_neg (by decide), if_pos rfl]
  obtain ⟨a0, a1, a2, a3⟩ := h.tab.sum (i := i) h.c 0
  obtain ⟨b0, b1, b2, b3⟩ := h.tab.sum (i := i) h.c 1
  obtain ⟨c0, c1, c2, c3⟩ := h.tab.sum (i := i) h.c 2
  rw [e0] at a0 a1 a2 a3
  rw [e1] at b0 b1 b2 b3
  rw [e2] at c0 c1 c2 c3
  refine ⟨?_, ?_, ?_, by rw [← a0]; exact (haveS f i).ha, by rw [← b0]; exact (dirtS f i).ha, by rw [← c0]; exact (knownS f i).ha⟩
  · unfold Set4.val; rw [a0, a1, a2, a3]; rfl
  · unfold Set4.val; rw [b0, b1, b2, b3]; rfl
  · unfold Set4.val; rw [c0, c1, c2, c3]; rfl
theorem wrap_u (n : Nat) (h : n < 18446744073709551616) : IntKind.u64.wrap (n : Int) = (n : Int) := by
  rw [show IntKind.u64.wrap (n : Int) = ((n : Int) % 18446744073709551616) from rfl]; omega
set_option maxHeartbeats 4000000 in
theorem same_any (h : Pair u g q data m w C M T L f R cs) (hm : m ≤ 300) (i j : Int) (hi : In64 i) :
    Calls Tryd.prog 24 #[pt g, pt q, .int .i64 i, .int .i64 j] w fun e w' => e = .returned (.bool true) ∧ Below w.heap.size w w' := by
  obtain ⟨P, D, hrel⟩ := h.rel
  have hlen := h.len
  obtain ⟨nL, hnL⟩ : ∃ n, n = L.length := ⟨_, rfl⟩
  obtain ⟨dl, hdl⟩ : ∃ l, l = (rising L).filter (dirtyOf f) := ⟨_, rfl⟩
  obtain ⟨nd, hnd⟩ : ∃ n, n = dl.length := ⟨_, rfl⟩
  have hks : R.ks.length = nL := by rw [hnL]; exact keysK_len h.c hrel
  have hnL64 : nL ≤ 64 := by rw [← hks]; exact hrel.len64 h.c.good
  have hnd64 : nd ≤ 64 := by
    have := List.length_filter_le (dirtyOf f) (rising L)
    rw [rising_len, ← hdl] at this
    omega
  obtain ⟨ob, hOld, hob1, hob2⟩ := h.old i j hi
  obtain ⟨t0, t1, t2, u0, u1, u2⟩ := h.sets i
  have hLen := CLen_any w h.c (by omega)
  rw [h.g, ← hdl, ← hnd, ← hnL] at hLen
  have hDir := fun w' (hb : Below w.heap.size w w') => Dirty_any w' (h.c.below hb) (by omega)
  rw [h.g, ← hdl] at hDir
  have hRDir := fun w' (hb : Below w.heap.size w w') => RDirty_any w' (h.r.below hb) (by omega) (h.tab.cols30 h.c)
  rw [h.q, h.tab.dirties h.c, ← hdl] at hRDir
  have hHave := fun w' (hb : Below w.heap.size w w') => Have_any i w' (h.c.below hb) hi
  rw [h.g, t0, t1] at hHave
  have hKnown := fun w' (hb : Below w.heap.size w w') => Known_any i w' (h.c.below hb) hi
  rw [h.g, t2] at hKnown
  have hC0 := fun w' (hb : Below w.heap.size w w') => RCol0 i w' (h.r.below hb) (by omega) (h.tab.cols30 h.c)
  have hC1 := fun w' (hb : Below w.heap.size w w') => RCol1 i w' (h.r.below hb) (by omega) (h.tab.cols30 h.c)
  have hC2 := fun w' (hb : Below w.heap.size w w') => RCol2 i w' (h.r.below hb) (by omega) (h.tab.cols30 h.c)
  have hFi := fun w' (hb : Below w.heap.size w w') => RFindC_any i j w' (h.r.below hb) (by omega)
  rw [h.q] at hC0 hC1 hC2 hFi
  obtain ⟨s0, hs0⟩ : ∃ n, n = sumK 0 i cs := ⟨_, rfl⟩
  obtain ⟨s1, hs1⟩ : ∃ n, n = sumK 1 i cs := ⟨_, rfl⟩
  obtain ⟨s2, hs2⟩ : ∃ n, n = sumK 2 i cs := ⟨_, rfl⟩
  rw [← hs0] at hHave hC0 u0
  rw [← hs1] at hHave hC1 u1
  rw [← hs2] at hKnown hC2 u2
  have HA := Lib.hid (And.intro hLen (And.intro hDir hRDir))
  have HB := Lib.hid (And.intro hHave hKnown)
  have HC := Lib.hid (And.intro hC0 (And.intro hC1 hC2))
  have HD := Lib.hid (And.intro hOld (And.intro hFi (And.intro hob1 hob2)))
  have HE := Lib.hid (And.intro hks (And.intro hnd hdl))
  have HP := Lib.hid h
  have HU := Lib.hid (And.intro (wrap_u s0 u0) (And.intro (wrap_u s1 u1) (wrap_u s2 u2)))
  clear hLen hDir hRDir hHave hKnown hC0 hC1 hC2 hOld hFi hob1 hob2 hks hnd hnL hdl h t0 t1 t2 u0 u1 u2 hs0 hs1 hs2 hrel hi hlen
  go_enter Tryd.func24, Tryd.ntmps24
  go_wp2_with fail
  refine Calls.pure_to HA.out.1 ?_
  intro w1 b1
  have B1 := Lib.hid b1
  clear b1
  go_wp2_with fail
  refine (HA.out.2.1 w1 B1.out).mono ?_
  rintro e w2 ⟨⟨v1, rfl, hv1⟩, b2⟩
  have B2 := Lib.hid (B1.out.trans (b2.mono B1.out.size))
  have V1 := Lib.hid hv1
  clear b2 hv1
  go_wp2_with fail
  refine (HA.out.2.2 w2 B2.out).mono ?_
  rintro e w3 ⟨⟨v2, rfl, hv2⟩, b3⟩
  have B3 := Lib.hid (B2.out.trans (b3.mono B2.out.size))
  have V3 := Lib.hid (And.intro (irow_below V1.out b3) hv2)
  clear b3 hv2
  have A3 := HP.out.r.below B3.out
  obtain ⟨c0, c1, c2, cz⟩ := A3.three
  rw [HP.out.q] at c0 c1 c2
  obtain ⟨d0, d1, d2, d3, dz⟩ := A3.turn.row.four
  obtain ⟨ak, ck, hkv⟩ := A3.turn.kr.shape
  rw [hkv, HE.out.1] at d2
  have ql := A3.row.lt
  have rl := A3.turn.row.lt
  rw [HP.out.q] at ql
  obtain ⟨a1, k1, hs1⟩ := irow_shape V3.out.1
  obtain ⟨a2, k2, hs2⟩ := irow_shape V3.out.2
  rw [← HE.out.2.1] at hs1 hs2
  subst hs1 hs2
  clear A3 hkv
  go_wp2_with fail
  go_loopw [55] (fun x wr => ∃ (k : Nat), k ≤ nd ∧ x = .int .i64 k ∧ Below w3.heap.size w3 wr) (fun x _ => nd - (intOf x).toNat)
  case atStart => exact ⟨0, by omega, rfl, Below.refl _ _⟩
  case round =>
    obtain ⟨k, hk, rfl, hBl⟩ := hrel
    clear c0 c1 c2 cz d0 d1 d2 d3 dz
    by_cases hlt : k < nd
    · obtain ⟨y, hy⟩ : ∃ y, dl[k]? = some y := ⟨_, List.getElem?_eq_getElem (by rw [← HE.out.2.1]; exact hlt)⟩
      have f1 := V3.out.1.form
      have f2 := V3.out.2.form
      rcases f1 with ⟨_, h0⟩ | ⟨g1, q1, e1, _, l1, _, _, z1⟩
      · rw [h0] at hy; simp at hy
      rcases f2 with ⟨_, h0⟩ | ⟨g2, q2, e2, _, l2, _, _, z2⟩
      · rw [h0] at hy; simp at hy
      obtain ⟨rfl, _, _⟩ := Value.slice.inj e1
      obtain ⟨rfl, _, _⟩ := Value.slice.inj e2
      have x1 := (hBl.cell (p := ⟨g1, k, none⟩) l1).trans (z1 k y hy)
      have x2 := (hBl.cell (p := ⟨g2, k, none⟩) l2).trans (z2 k y hy)
      have HX := Lib.hid hBl
      clear hBl hy e1 e2 z1 z2
      go_wp2_with fail
      go_quiet (fail)
      go_wp2_with fail
      go_roundw
      case rel => exact ⟨k + 1, by omega, by go_num, HX.out.drewN _⟩
      case measure => simp [intOf] <;> omega
    · have B4 := Lib.hid (B3.out.trans (hBl.mono B3.out.size))
      clear hBl
      go_wp2_with fail
      refine Calls.pure_to (HB.out.1 wr B4.out) ?_
      intro w5 b5
      have B5 := Lib.hid (B4.out.trans (b5.mono B4.out.size))
      have hsz5 := B5.out.size
      clear b5
      go_upto_region 12 with fail
      refine wp_world (fun w6 => w6.row w5.heap.size [.int .u64 (s0 : Int), .int .u64 0, .int .u64 0, .int .u64 0] 63 ∧ w6.row (w5.heap.size + 1) [.int .u64 (s1 : Int), .int .u64 0, .int .u64 0, .int .u64 0] 63 ∧ Below w5.heap.size w5 w6) ⟨(by repeat' (first | (with_reducible exact World.row.new' (by simp)) | (with_reducible refine World.row.alloc ?_ _) | (with_reducible refine World.row.drew ?_) | (with_reducible refine World.row.drewN ?_ _))), (by repeat' (first | (with_reducible exact World.row.new' (by simp)) | (with_reducible refine World.row.alloc ?_ _) | (with_reducible refine World.row.drew ?_) | (with_reducible refine World.row.drewN ?_ _))), (by repeat' (first | (with_reducible exact Below.refl _ _) | (with_reducible assumption) | (with_reducible refine Below.setCell ?_ ?_ _) | (with_reducible refine Below.ext ?_ _ ?_) | (with_reducible refine Below.alloc ?_ ?_ _) | (with_reducible refine Below.drew ?_) | (with_reducible refine Below.drewN ?_ _) | (with_reducible exact Nat.le_refl _) | (dsimp only; omega) | (simp <;> omega)))⟩ ?_
      rintro w6 ⟨r4, r5, b6⟩
      obtain ⟨g4, hg4⟩ : ∃ n, n = w5.heap.size := ⟨_, rfl⟩
      rw [← hg4] at r4 r5
      simp only [← hg4]
      have B6 := Lib.hid (B5.out.trans (b6.mono B5.out.size))
      have R6 := Lib.hid (And.intro r4 r5)
      clear b6 r4 r5 hg4 hsz5
      go_wp2_with fail
      refine Calls.pure_to (HB.out.2 w6 B6.out) ?_
      intro w7 b7
      have B7 := Lib.hid (B6.out.trans (b7.mono B6.out.size))
      have r4 := R6.out.1.below b7 R6.out.1.lt
      have r5 := R6.out.2.below b7 R6.out.2.lt
      have h4 := r4.lt
      have h5 := r5.lt
      have hsz7 := B7.out.size
      clear b7
      go_upto_region 13 with fail
      refine wp_world (fun w8 => w8.row g4 [.int .u64 (s0 : Int), .int .u64 0, .int .u64 0, .int .u64 0] 63 ∧ w8.row (g4 + 1) [.int .u64 (s1 : Int), .int .u64 0, .int .u64 0, .int .u64 0] 63 ∧ w8.row w7.heap.size [.int .u64 (s2 : Int), .int .u64 0, .int .u64 0, .int .u64 0] 63 ∧ Below w7.heap.size w7 w8) ⟨r4.alloc _, r5.alloc _, (by repeat' (first | (with_reducible exact World.row.new' (by simp)) | (with_reducible refine World.row.alloc ?_ _) | (with_reducible refine World.row.drew ?_) | (with_reducible refine World.row.drewN ?_ _))), (by repeat' (first | (with_reducible exact Below.refl _ _) | (with_reducible assumption) | (with_reducible refine Below.setCell ?_ ?_ _) | (with_reducible refine Below.ext ?_ _ ?_) | (with_reducible refine Below.alloc ?_ ?_ _) | (with_reducible refine Below.drew ?_) | (with_reducible refine Below.drewN ?_ _) | (with_reducible exact Nat.le_refl _) | (dsimp only; omega) | (simp <;> omega)))⟩ ?_
      clear r4 r5 h4 h5 hsz7
      rintro w8 ⟨r4, r5, r6, b8⟩
      obtain ⟨g6, hg6⟩ : ∃ n, n = w7.heap.size := ⟨_, rfl⟩
      rw [← hg6] at r6
      simp only [← hg6]
      have B8 := Lib.hid (B7.out.trans (b8.mono B7.out.size))
      have q0 := r4.cell 0 rfl
      have q1 := r4.cell 1 rfl
      have q2 := r4.cell 2 rfl
      have q3 := r4.cell 3 rfl
      have p0 := r5.cell 0 rfl
      have p1 := r5.cell 1 rfl
      have p2 := r5.cell 2 rfl
      have p3 := r5.cell 3 rfl
      have o0 := r6.cell 0 rfl
      have o1 := r6.cell 1 rfl
      have o2 := r6.cell 2 rfl
      have o3 := r6.cell 3 rfl
      have l4 := r4.lt
      have l5 := r5.lt
      have l6 := r6.lt
      have e0 := HU.out.1
      have e1 := HU.out.2.1
      have e2 := HU.out.2.2
      clear b8 r4 r5 r6 hg6
      have hB0 : w8.heap.size ≤ w8.heap.size := Nat.le_refl _
      refine wp_region_mix_ext w8.heap.size [] false hB0 (by kernel_rfl) (by kernel_rfl) ?_
      intro _
      repeat ((with_reducible refine wpMix_light ?hh ?_); (case hh => rfl); go_big_quiet_step (fail); (with_reducible refine wpQuiet_nil ?_))
      (with_reducible refine wpMix_heavy ?hh ?hw (fun K hK => ?_)); (case hh => rfl); (case hw => rfl)
      go_simp
      refine (HC.out.1 _ (B8.out.trans ((Below.refl _ _).drew.mono B8.out.size))).mono ?_
      rintro e wA ⟨rfl, hbA⟩
      have hA1 : Below w8.heap.size w8 wA := ((Below.refl _ _).drew).trans (hbA.mono (Nat.le_refl _))
      refine hK.out _ _ (Below.toExt hA1 hB0) ?_
      clear hK K
      try simp only [Act.put, List.setIfInBounds_toArray, List.set_cons_zero, List.set_cons_succ]
      repeat ((with_reducible refine wpMix_light ?hh ?_); (case hh => rfl); go_big_quiet_step (fail); (with_reducible refine wpQuiet_nil ?_))
      (with_reducible refine wpMix_heavy ?hh ?hw (fun K hK => ?_)); (case hh => rfl); (case hw => rfl)
      go_simp
      refine (HC.out.2.1 _ (B8.out.trans (hA1.mono B8.out.size))).mono ?_
      rintro e wB ⟨rfl, hbB⟩
      have hB1 : Below w8.heap.size w8 wB := hA1.trans (hbB.mono hA1.size)
      refine hK.out _ _ (Below.toExt hB1 hB0) ?_
      clear hK K
      try simp only [Act.put, List.setIfInBounds_toArray, List.set_cons_zero, List.set_cons_succ]
      repeat ((with_reducible refine wpMix_light ?hh ?_); (case hh => rfl); go_big_quiet_step (fail); (with_reducible refine wpQuiet_nil ?_))
      (with_reducible refine wpMix_heavy ?hh ?hw (fun K hK => ?_)); (case hh => rfl); (case hw => rfl)
      go_simp
      refine (HC.out.2.2 _ (B8.out.trans (hB1.mono B8.out.size))).mono ?_
      rintro e wC ⟨rfl, hbC⟩
      have hC1 : Below w8.heap.size w8 wC := hB1.trans (hbC.mono hB1.size)
      refine hK.out _ _ (Below.toExt hC1 hB0) ?_
      clear hK K
      try simp only [Act.put, List.setIfInBounds_toArray, List.set_cons_zero, List.set_cons_succ]
      repeat ((with_reducible refine wpMix_light ?hh ?_); (case hh => rfl); go_big_quiet_step (fail); (with_reducible refine wpQuiet_nil ?_))
      refine wpMix_nil ?_
      have BC := Lib.hid (B8.out.trans (hC1.mono B8.out.size))
      clear hA1 hB1 hC1 hbA hbB hbC q0 q1 q2 q3 p0 p1 p2 p3 o0 o1 o2 o3 l4 l5 l6 e0 e1 e2 hB0
      have AC := HP.out.r.below BC.out
      obtain ⟨okv, hokv⟩ : ∃ b, b = !ob.toList.isEmpty := ⟨_, rfl⟩
      have hOld := HD.out.1 wC BC.out
      rw [← hokv] at hOld
      have HO := Lib.hid hOld
      have HK := Lib.hid hokv
      clear hOld hokv
      go_wp2_with fail
      refine Calls.pure_to HO.out ?_
      intro wD bD
      have BD := Lib.hid (BC.out.trans (bD.mono BC.out.size))
      clear bD AC
      have AD := HP.out.r.below BD.out
      obtain ⟨c0, c1, c2, cz⟩ := AD.three
      rw [HP.out.q] at c0 c1 c2
      have ql2 := AD.row.lt
      rw [HP.out.q] at ql2
      go_wp2_with fail
      refine (HD.out.2.1 wD BD.out).mono ?_
      rintro e wE ⟨⟨z, rfl, hz⟩, rfl⟩
      rcases hz with ⟨rfl, hz⟩ | ⟨kf, x, rfl, hx, hxs, hxc⟩
      · have ho0 := HD.out.2.2.2 hz
        have hoe : ob.toList.isEmpty = true := by rw [str_is, ho0]; simp
        have hok : okv = false := by rw [HK.out, hoe]; rfl
        subst hok
        clear hz AD
        go_wp2_with fail
        go_returns
        exact ⟨rfl, BD.out⟩
      · have hxo := HD.out.2.2.1 x (List.mem_of_getElem? hx) hxs hxc
        obtain ⟨g, c', ev, hBg, hgl, d0, d1, d2, d3, d4, dz⟩ := AD.cr.at hx
        have hkl : kf < cs.length := (List.getElem?_eq_some_iff.1 hx).1
        obtain ⟨mm, hmm⟩ : ∃ m, m = cs.length := ⟨_, rfl⟩
        rw [ev, ← hmm] at c2
        rw [← hmm] at hkl
        rw [hxo] at d3
        have hok := HK.out
        clear hx hxs hxc hxo ev hBg d0 d1 d2 d4 hmm AD
        cases heb : ob.toList.isEmpty
        all_goals
          rw [heb] at hok
          have hok : okv = _ := hok
          subst hok
          go_wp2_with fail
          go_returns
          exact ⟨rfl, BD.out⟩
end Go.Proofs.YtijagdpkclghnaaDoor
/- The law's sector, odd or not: contract. -/
namespace Go.Proofs.YtijagdpkclghnaaDoor
open Go Go.RowKit
set_option maxRecDepth 100000
def zs62 : Array Value := madeCells #[.int .u8 0] 62
def Z62 (w : World) (g : Nat) : Prop := w.heap[g]? = some (.cells zs62 tU8 (0, 0))
@[go_sem] theorem Z62.alloc (w : World) (n : Nat) (o : Obj) : Z62 (w.alloc o) n = (if n = w.heap.size then o = .cells zs62 tU8 else Z62 w n) := by
  unfold Z62 World.alloc
  by_cases e : n = w.heap.size
  · simp [e]
  · simp [e, Array.getElem?_push]
@[go_sem] theorem Z62.drew (w : World) (n : Nat) : Z62 w.drew n = Z62 w n := propext Iff.rfl
def zer62 : ByteArray := strOfNums (List.replicate 62 0)
def secO (b : Int) (odd : Bool) : ByteArray := if odd then one8 b ++ zer62 else secB b
theorem zs62_at : ∀ i, i < 62 → zs62[i]? = some (.int .u8 ((List.replicate 62 (0 : Int)).getD i 0)) := fun i hi => by
  have h1 : ∀ n : Nat, i < n → (List.replicate n (0 : Int)).getD i 0 = 0 := fun n hn => by simp [List.getD, hn]
  have h2 : ∀ n : Nat, i < n → (madeCells #[Value.int .u8 0] n)[i]? = some (.int .u8 0) := fun n hn => by
    unfold madeCells
    simp [hn, Nat.mod_one]
  rw [h1 62 hi]
  exact h2 62 hi
@[go_sem] theorem conv_z62 (w : World) (g : Nat) (h : Z62 w g) : (convert 57 9 (.slice (some ⟨g, 0, none⟩) 62 62)).run Tryd.prog w = .ok (.string zer62) w :=
  run_convert_bytes_arg w 57 tU8 Tryd.underlying57 Tryd.underlying5 g 0 62 62 (List.replicate 62 0) (by simp) (fun i hi => by
    unfold Z62 at h
    rw [Nat.zero_add]
    simp only [World.cell?, h]
    exact zs62_at i hi) 9 Tryd.underlying9
theorem sec_odd (b : Int) (w : World) : Calls Tryd.prog 9 #[.int .u8 b, .bool true] w fun e w' => e = .returned (.string (one8 b ++ zer62)) ∧ Below w.heap.size w w' := by
  have hmk : ∀ w, (Instr.makeSlice 57 (.int .i64 62) (.int .i64 62)).run Tryd.prog w = .ok (.slice (some ⟨w.heap.size, 0, none⟩) 62 62) (w.alloc (.cells zs62 tU8)) := fun w => run_make_row' (P := Tryd.prog) 57 tU8 (.int .u8 0) 1 Tryd.underlying57 infoU8 rfl .i64 .i64 62 (by decide) (by decide) w
  have hadd : ∀ w, (Op.stringOp .add (one8 b) zer62).run Tryd.prog w = .ok (.string (one8 b ++ zer62)) w := fun w => run_string_add_sum w _ _ (by unfold one8 zer62; rw [strOfNums_size, strOfNums_size]; simp)
  go_enter Tryd.func9, Tryd.ntmps9
  go_wp2_with fail
  go_region
  all_goals
    go_wp2_with fail
    go_returns
    exact ⟨rfl, (by repeat' (first | (with_reducible exact Below.refl _ _) | (with_reducible assumption) | (with_reducible refine Below.setCell ?_ ?_ _) | (with_reducible refine Below.ext ?_ _ ?_) | (with_reducible refine Below.alloc ?_ ?_ _) | (with_reducible refine Below.drew ?_) | (with_reducible refine Below.drewN ?_ _) | (with_reducible exact Nat.le_refl _) | (dsimp only; omega) | (simp <;> omega)))⟩
theorem secO_any (b : Int) (odd : Bool) (w : World) : Calls Tryd.prog 9 #[.int .u8 b, .bool odd] w fun e w' => e = .returned (.string (secO b odd)) ∧ Below w.heap.size w w' := by
  cases odd
  · exact sec_any b w
  · exact sec_odd b w
end Go.Proofs.YtijagdpkclghnaaDoor
/- CachePlays: its walk. -/
namespace Go.Proofs.YtijagdpkclghnaaDoor
open Go Go.RowKit
set_option maxRecDepth 100000
variable {B n data g q m b : Nat} {u w w' : World} {C C' : CM} {M M' : RM} {T T1 T' T0 : TS} {L L' : List Int} {f f' f0 : Int → Option Ent} {E E' : Ent} {cs cs' cs0 cs1 : List CL} {R R' : RS} {P D : List RK}
theorem mask7K (x : Int) : 0 ≤ bits .and .i64 x 7 ∧ bits .and .i64 x 7 ≤ 7 := by
  have h : ((BitVec.ofInt 64 x) &&& (BitVec.ofInt 64 7)).toNat ≤ 7 := by
    rw [BitVec.toNat_and]
    exact Nat.le_trans Nat.and_le_right (by decide)
  obtain ⟨m, hm⟩ : ∃ m, m = ((BitVec.ofInt 64 x) &&& (BitVec.ofInt 64 7)).toNat := ⟨_, rfl⟩
  have e : bits .and .i64 x 7 = IntKind.i64.wrap (m : Int) := by rw [hm]; rfl
  rw [← hm] at h
  rw [e, show IntKind.i64.wrap (m : Int) = (m : Int) from by
    unfold IntKind.wrap
    simp [IntKind.bits, IntKind.signed]
    omega]
  omega
theorem RCAt.down (h : RCAt n w M data R cs) (hB : B ≤ n) : RCAt B w M data R cs :=
  ⟨h.row, ⟨h.turn.row, krow_mono h.turn.kr hB, h.turn.vr, Nat.le_trans hB h.turn.br⟩, crow_mono h.cr hB, h.qr, h.qv, h.qc, h.rc, h.vc, Nat.le_trans hB h.bq⟩
theorem relC_nil : RelC (fun _ => none) [] := ⟨by simp, (fun x hx => by cases hx), (fun i E c h => by cases h), (fun i E c h => by cases h), (fun i E h => by cases h)⟩
theorem Pair.off (h : Pair u g q data m w C M T L f R cs) (h1 : w.heap.size ≤ b) (h2 : b < w'.heap.size) : Off C f M w' b :=
  ⟨h2, fun hf => by have := (h.c.lts b hf).2; omega, fun hf => by have := (h.r.lts b hf).2; omega⟩
set_option maxHeartbeats 8000000 in
theorem plays_good (most limit data : Nat) (a : Option Addr) (len cap : Nat) (l : List Ac) (w : World) (hT : Tab w) (hl : l.length = len) (hcap : len ≤ cap) (hin : ∀ y ∈ l, In5 y) (hna : a = none → len = 0 ∧ cap = 0)
    (h1 : 1 ≤ most) (h2 : most ≤ 64) (h3 : limit < most) (h4 : 2 ≤ data) (h5 : data ≤ 30)
    (hc : l = [] ∨ ∃ b o, a = some ⟨b, o, none⟩ ∧ ∀ i x, l[i]? = some x → ∀ j u, (act5 x)[j]? = some u → w.cell? ⟨b, o + i * 5 + j, none⟩ = some u) :
    Calls Tryd.prog 6 #[.agg #[.int .i64 (most : Int), .int .i64 (limit : Int), .int .i64 (data : Int)], .slice a len cap] w fun e w' => e = .returned (.bool true) ∧ Below w.heap.size w w' := by
  have HT := Lib.hid hT
  have HC := Lib.hid (And.intro hc (And.intro hl hin))
  have HNA := Lib.hid hna
  have HQ := Lib.hid (And.intro h1 (And.intro h2 (And.intro h3 (And.intro h4 h5))))
  clear hc hna hT hin h1 h2 h3 h4 h5
  obtain ⟨n, hn⟩ : ∃ n, n = min len 80 := ⟨_, rfl⟩
  have hn1 : min (len : Int) 80 = (n : Int) := by omega
  have hn80 : n ≤ 80 := by omega
  have hnl : n ≤ len := by omega
  clear hn
  go_enter Tryd.func6, Tryd.ntmps6
  go_upto_region 1 with fail
  obtain ⟨gx, hgx⟩ : ∃ g, g = w.heap.size := ⟨_, rfl⟩
  refine wp_world (fun w0 => w0.row gx [.int .i64 (most : Int), .int .i64 (limit : Int), .int .i64 (data : Int)] 37 ∧ Below w.heap.size w w0) ⟨World.row.new' hgx.symm, (by repeat' (first | (with_reducible exact Below.refl _ _) | (with_reducible assumption) | (with_reducible refine Below.setCell ?_ ?_ _) | (with_reducible refine Below.ext ?_ _ ?_) | (with_reducible refine Below.alloc ?_ ?_ _) | (with_reducible refine Below.drew ?_) | (with_reducible refine Below.drewN ?_ _) | (with_reducible exact Nat.le_refl _) | (dsimp only; omega) | (simp <;> omega)))⟩ ?_
  simp only [← hgx]
  rintro w0 ⟨rx, B0⟩
  rw [hgx] at B0
  clear hgx
  have k0 := rx.cell 0 rfl
  have k1 := rx.cell 1 rfl
  have k2 := rx.cell 2 rfl
  have H0 := Lib.hid (And.intro B0 rx)
  clear rx B0
  go_wp2_with fail
  refine (CNew_ok (B := w0.heap.size) most limit data w0 (Nat.le_refl _) HQ.out.1 HQ.out.2.1 HQ.out.2.2.1 HQ.out.2.2.2.1 HQ.out.2.2.2.2).mono ?_
  rintro e w1 ⟨C1, rfl, hA1, hb1, hf1⟩
  obtain ⟨g, hg⟩ : ∃ g, C1.g = g := ⟨_, rfl⟩
  rw [hg]
  have rx1 := H0.out.2.below hb1 H0.out.2.lt
  have H1 := Lib.hid (And.intro hA1 (And.intro hb1 hg))
  clear hA1 hb1 hf1 hg k0 k1 k2
  have k0 := rx1.cell 0 rfl
  have k1 := rx1.cell 1 rfl
  have k2 := rx1.cell 2 rfl
  clear rx1
  go_wp2_with fail
  refine (R24New_ok (B := w1.heap.size) most limit data w1 (Nat.le_refl _) HQ.out.1 HQ.out.2.1 HQ.out.2.2.1 HQ.out.2.2.2.1 HQ.out.2.2.2.2).mono ?_
  rintro e w2 ⟨M1, rfl, hR2, hq2, hb2⟩
  obtain ⟨q, hq⟩ : ∃ q, M1.q = q := ⟨_, rfl⟩
  rw [hq]
  have hP : Pair w0 g q data 0 w2 C1 M1 ⟨most, limit, [], [], []⟩ [] (fun _ => none) ⟨most, limit, [], 0⟩ [] :=
    ⟨H1.out.1.below hb2, hR2.down H1.out.2.1.size, fun k hk hr => by have := (H1.out.1.lts k hk).2; have := (hR2.lts k hr).1; omega, ⟨[], [], Rel.new most limit⟩, relC_nil, Nat.le_refl _, Nat.le_refl _, H1.out.2.2, hq, H1.out.2.1.trans (hb2.mono H1.out.2.1.size)⟩
  have HP := Lib.hid hP
  clear hR2 hq2 hb2 hP hq k0 k1 k2
  go_wp2_with fail
  refine Calls.pure_to (wakes_any w2 (HT.out.below (H0.out.1.trans (HP.out.b.mono H0.out.1.size)) HT.out.lt)) ?_
  intro w3 b3
  have HP3 := Lib.hid (HP.out.below b3)
  clear HP b3
  go_wp2_with fail
  go_loopw [94] (fun x wr => ∃ (k : Nat) (C : CM) (M : RM) (T : TS) (L : List Int) (f : Int → Option Ent) (R : RS) (cs : List CL), k ≤ n ∧ x = .int .i64 k ∧ Pair w0 g q data k wr C M T L f R cs) (fun x _ => n - (intOf x).toNat)
  case atStart => exact ⟨0, _, _, _, _, _, _, _, Nat.zero_le _, rfl, HP3.out⟩
  case round =>
    clear HP3
    obtain ⟨k, C, M, T, L, f, R, cs, hk, rfl, hP⟩ := hrel
    by_cases hlt : k < n
    · have hne : l ≠ [] := by intro e; have := HC.out.2.1; rw [e] at this; simp at this; omega
      obtain ⟨b, o, rfl, hcell⟩ := HC.out.1.resolve_left hne
      obtain ⟨y, hy⟩ : ∃ y, l[k]? = some y := ⟨l[k]'(by have := HC.out.2.1; omega), by rw [List.getElem?_eq_getElem]⟩
      have hy5 := HC.out.2.2 y (List.mem_of_getElem? hy)
      have Bw := H0.out.1.trans (hP.b.mono H0.out.1.size)
      have bcell := fun (p : Addr) v (hp : w.cell? p = some v) => (Bw.cell (p := p) (block_lt_of_cell hp)).trans hp
      have j0 := bcell _ _ (hcell k y hy 0 _ rfl)
      have j1 := bcell _ _ (hcell k y hy 1 _ rfl)
      have j2 := bcell _ _ (hcell k y hy 2 _ rfl)
      have j3 := bcell _ _ (hcell k y hy 3 _ rfl)
      have j4 := bcell _ _ (hcell k y hy 4 _ rfl)
      rw [Nat.add_zero] at j0
      have hbw : b < wr.heap.size := block_lt_of_cell j1
      clear hcell hy hne bcell
      obtain ⟨yd, ys, yc, yb, yo⟩ := y
      simp only at j0 j1 j2 j3 j4
      have hi64 : In64 ys := hy5.2.1
      have HR := Lib.hid (And.intro hP (And.intro hi64 Bw))
      clear hP hy5 hi64 Bw
      go_upto_region 11 with fail
      obtain ⟨ga, hga⟩ : ∃ g, g = wr.heap.size := ⟨_, rfl⟩
      refine wp_world (fun w5 => w5.row ga [.int .i64 yd, .int .i64 ys, .int .i64 yc, .int .u8 yb, .bool yo] tAct ∧ Below wr.heap.size wr w5) ⟨World.row.new' hga.symm, (Below.refl _ _).alloc (Nat.le_refl _) _⟩ ?_
      simp only [← hga]
      rintro w5 ⟨ra, b5⟩
      have HG := Lib.hid hga
      clear hga j0 j1 j2 j3 j4 hbw
      have k3 := ra.cell 3 rfl
      have k4 := ra.cell 4 rfl
      have gal := ra.lt
      rw [HG.out] at b5
      have H4 := Lib.hid (And.intro b5 ra)
      clear b5 ra
      go_wp2_with fail
      refine Calls.pure_to (secO_any yb yo w5) ?_
      intro w6 b6
      obtain ⟨s, hs⟩ : ∃ s, s = secO yb yo := ⟨_, rfl⟩
      rw [← hs]
      have ra := H4.out.2.below b6 H4.out.2.lt
      have B6 : Below wr.heap.size wr w6 := H4.out.1.trans (b6.mono H4.out.1.size)
      have hO := HR.out.1.off (b := ga) (by rw [HG.out]; exact Nat.le_refl _) ra.lt
      have H5 := Lib.hid (And.intro (HR.out.1.below B6) (And.intro ra (And.intro HR.out.2.1 (And.intro hO (HT.out.below (HR.out.2.2.trans (B6.mono HR.out.2.2.size)) HT.out.lt)))))
      have k0 := ra.cell 0 rfl
      have k1 := ra.cell 1 rfl
      have k2 := ra.cell 2 rfl
      clear hs ra B6 hO b6 k3 k4 gal
      have gal := H5.out.2.1.lt
      obtain ⟨v, hve⟩ : ∃ v, bits .and .i64 yd 7 = v := ⟨_, rfl⟩
      have hv : 0 ≤ v ∧ v ≤ 7 := hve ▸ mask7K yd
      go_upto_region 15 with fail
      have hv8 : v = 0 ∨ v = 1 ∨ v = 2 ∨ v = 3 ∨ v = 4 ∨ v = 5 ∨ v = 6 ∨ v = 7 := by omega
      clear hv hve k0
      rcases hv8 with rfl | rfl | rfl | rfl | rfl | rfl | rfl | rfl
      ·
        go_wp2_with fail
        have hPd := H5.out.1.below ((Below.refl _ _).drew)
        have hOd := (H5.out.2.2.2.1.below ((Below.refl _ _).drew)).1
        refine wp_region_mix_exts (· = ga) [] false (by kernel_rfl) (by kernel_rfl) ?_
        intro _
        repeat ((with_reducible refine wpMix_light ?hh ?_); (case hh => rfl); go_big_quiet_step (fail); (with_reducible refine wpQuiet_nil ?_))
        (with_reducible refine wpMix_heavy ?hh ?hw (fun K hK => ?_)); (case hh => rfl); (case hw => rfl)
        go_simp
        refine (put_both hPd hOd (by omega) ys yc s).mono ?_
        rintro e w2 ⟨er, rfl, hk2, hR⟩
        refine hK.out _ _ (toExtS (fun b hb => by cases hb; exact hk2)) ?_
        clear hK K
        try simp only [Act.put, List.setIfInBounds_toArray, List.set_cons_zero, List.set_cons_succ]
        repeat ((with_reducible refine wpMix_light ?hh ?_); (case hh => rfl); go_big_quiet_step (fail); (with_reducible refine wpQuiet_nil ?_))
        (with_reducible refine wpMix_heavy ?hh ?hw (fun K hK => ?_)); (case hh => rfl); (case hw => rfl)
        go_simp
        refine hR.mono ?_
        rintro e w4 ⟨rfl, hk4, C4, M4, T4, L4, f4, R4, cs4, hP4⟩
        refine hK.out _ _ (toExtS (fun b hb => by cases hb; exact hk4)) ?_
        clear hK K
        try simp only [Act.put, List.setIfInBounds_toArray, List.set_cons_zero, List.set_cons_succ]
        repeat ((with_reducible refine wpMix_light ?hh ?_); (case hh => rfl); go_big_quiet_step (fail); (with_reducible refine wpQuiet_nil ?_))
        refine wpMix_nil ?_
        clear hk2 hR hPd hOd
        have HP4 := Lib.hid hP4
        have rg := rowSame H5.out.2.1 hk4
        have q1 := rg.cell 1 rfl
        have q2 := rg.cell 2 rfl
        have hs := same_any hP4 (by omega) ys yc H5.out.2.2.1
        clear hP4 hk4 rg k1 k2
        go_wp2_with fail
        refine Calls.pure_to hs ?_
        intro wz hbz
        have HZ := Lib.hid (HP4.out.below hbz)
        clear hbz hs q1 q2
        go_wp2_with fail
        go_roundw
        case rel => exact ⟨k + 1, C4, M4, T4, L4, f4, R4, cs4, by omega, by go_num, HZ.out⟩
        case measure => simp [intOf] <;> omega
      ·
        go_wp2_with fail
        have hPd := H5.out.1.below ((Below.refl _ _).drew)
        have hOd := (H5.out.2.2.2.1.below ((Below.refl _ _).drew)).1
        refine wp_region_mix_exts (· = ga) [] false (by kernel_rfl) (by kernel_rfl) ?_
        intro _
        repeat ((with_reducible refine wpMix_light ?hh ?_); (case hh => rfl); go_big_quiet_step (fail); (with_reducible refine wpQuiet_nil ?_))
        (with_reducible refine wpMix_heavy ?hh ?hw (fun K hK => ?_)); (case hh => rfl); (case hw => rfl)
        go_simp
        refine (put_both hPd hOd (by omega) ys yc s).mono ?_
        rintro e w2 ⟨er, rfl, hk2, hR⟩
        refine hK.out _ _ (toExtS (fun b hb => by cases hb; exact hk2)) ?_
        clear hK K
        try simp only [Act.put, List.setIfInBounds_toArray, List.set_cons_zero, List.set_cons_succ]
        repeat ((with_reducible refine wpMix_light ?hh ?_); (case hh => rfl); go_big_quiet_step (fail); (with_reducible refine wpQuiet_nil ?_))
        (with_reducible refine wpMix_heavy ?hh ?hw (fun K hK => ?_)); (case hh => rfl); (case hw => rfl)
        go_simp
        refine hR.mono ?_
        rintro e w4 ⟨rfl, hk4, C4, M4, T4, L4, f4, R4, cs4, hP4⟩
        refine hK.out _ _ (toExtS (fun b hb => by cases hb; exact hk4)) ?_
        clear hK K
        try simp only [Act.put, List.setIfInBounds_toArray, List.set_cons_zero, List.set_cons_succ]
        repeat ((with_reducible refine wpMix_light ?hh ?_); (case hh => rfl); go_big_quiet_step (fail); (with_reducible refine wpQuiet_nil ?_))
        refine wpMix_nil ?_
        clear hk2 hR hPd hOd
        have HP4 := Lib.hid hP4
        have rg := rowSame H5.out.2.1 hk4
        have q1 := rg.cell 1 rfl
        have q2 := rg.cell 2 rfl
        have hs := same_any hP4 (by omega) ys yc H5.out.2.2.1
        clear hP4 hk4 rg k1 k2
        go_wp2_with fail
        refine Calls.pure_to hs ?_
        intro wz hbz
        have HZ := Lib.hid (HP4.out.below hbz)
        clear hbz hs q1 q2
        go_wp2_with fail
        go_roundw
        case rel => exact ⟨k + 1, C4, M4, T4, L4, f4, R4, cs4, by omega, by go_num, HZ.out⟩
        case measure => simp [intOf] <;> omega
      ·
        go_wp2_with fail
        have hPd := H5.out.1.below ((Below.refl _ _).drew)
        have hOd := (H5.out.2.2.2.1.below ((Below.refl _ _).drew)).1
        refine wp_region_mix_exts (· = ga) [] false (by kernel_rfl) (by kernel_rfl) ?_
        intro _
        repeat ((with_reducible refine wpMix_light ?hh ?_); (case hh => rfl); go_big_quiet_step (fail); (with_reducible refine wpQuiet_nil ?_))
        (with_reducible refine wpMix_heavy ?hh ?hw (fun K hK => ?_)); (case hh => rfl); (case hw => rfl)
        go_simp
        refine (fill_both hPd hOd (by omega) ys yc s).mono ?_
        rintro e w2 ⟨er, rfl, hk2, hR⟩
        refine hK.out _ _ (toExtS (fun b hb => by cases hb; exact hk2)) ?_
        clear hK K
        try simp only [Act.put, List.setIfInBounds_toArray, List.set_cons_zero, List.set_cons_succ]
        repeat ((with_reducible refine wpMix_light ?hh ?_); (case hh => rfl); go_big_quiet_step (fail); (with_reducible refine wpQuiet_nil ?_))
        (with_reducible refine wpMix_heavy ?hh ?hw (fun K hK => ?_)); (case hh => rfl); (case hw => rfl)
        go_simp
        refine hR.mono ?_
        rintro e w4 ⟨rfl, hk4, C4, M4, T4, L4, f4, R4, cs4, hP4⟩
        refine hK.out _ _ (toExtS (fun b hb => by cases hb; exact hk4)) ?_
        clear hK K
        try simp only [Act.put, List.setIfInBounds_toArray, List.set_cons_zero, List.set_cons_succ]
        repeat ((with_reducible refine wpMix_light ?hh ?_); (case hh => rfl); go_big_quiet_step (fail); (with_reducible refine wpQuiet_nil ?_))
        refine wpMix_nil ?_
        clear hk2 hR hPd hOd
        have HP4 := Lib.hid hP4
        have rg := rowSame H5.out.2.1 hk4
        have q1 := rg.cell 1 rfl
        have q2 := rg.cell 2 rfl
        have hs := same_any hP4 (by omega) ys yc H5.out.2.2.1
        clear hP4 hk4 rg k1 k2
        go_wp2_with fail
        refine Calls.pure_to hs ?_
        intro wz hbz
        have HZ := Lib.hid (HP4.out.below hbz)
        clear hbz hs q1 q2
        go_wp2_with fail
        go_roundw
        case rel => exact ⟨k + 1, C4, M4, T4, L4, f4, R4, cs4, by omega, by go_num, HZ.out⟩
        case measure => simp [intOf] <;> omega
      ·
        go_wp2_with fail
        have hPd := H5.out.1.below ((Below.refl _ _).drew)
        have hOd := (H5.out.2.2.2.1.below ((Below.refl _ _).drew)).1
        refine wp_region_mix_exts (· = ga) [] false (by kernel_rfl) (by kernel_rfl) ?_
        intro _
        repeat ((with_reducible refine wpMix_light ?hh ?_); (case hh => rfl); go_big_quiet_step (fail); (with_reducible refine wpQuiet_nil ?_))
        (with_reducible refine wpMix_heavy ?hh ?hw (fun K hK => ?_)); (case hh => rfl); (case hw => rfl)
        go_simp
        refine (fill_both hPd hOd (by omega) ys yc s).mono ?_
        rintro e w2 ⟨er, rfl, hk2, hR⟩
        refine hK.out _ _ (toExtS (fun b hb => by cases hb; exact hk2)) ?_
        clear hK K
        try simp only [Act.put, List.setIfInBounds_toArray, List.set_cons_zero, List.set_cons_succ]
        repeat ((with_reducible refine wpMix_light ?hh ?_); (case hh => rfl); go_big_quiet_step (fail); (with_reducible refine wpQuiet_nil ?_))
        (with_reducible refine wpMix_heavy ?hh ?hw (fun K hK => ?_)); (case hh => rfl); (case hw => rfl)
        go_simp
        refine hR.mono ?_
        rintro e w4 ⟨rfl, hk4, C4, M4, T4, L4, f4, R4, cs4, hP4⟩
        refine hK.out _ _ (toExtS (fun b hb => by cases hb; exact hk4)) ?_
        clear hK K
        try simp only [Act.put, List.setIfInBounds_toArray, List.set_cons_zero, List.set_cons_succ]
        repeat ((with_reducible refine wpMix_light ?hh ?_); (case hh => rfl); go_big_quiet_step (fail); (with_reducible refine wpQuiet_nil ?_))
        refine wpMix_nil ?_
        clear hk2 hR hPd hOd
        have HP4 := Lib.hid hP4
        have rg := rowSame H5.out.2.1 hk4
        have q1 := rg.cell 1 rfl
        have q2 := rg.cell 2 rfl
        have hs := same_any hP4 (by omega) ys yc H5.out.2.2.1
        clear hP4 hk4 rg k1 k2
        go_wp2_with fail
        refine Calls.pure_to hs ?_
        intro wz hbz
        have HZ := Lib.hid (HP4.out.below hbz)
        clear hbz hs q1 q2
        go_wp2_with fail
        go_roundw
        case rel => exact ⟨k + 1, C4, M4, T4, L4, f4, R4, cs4, by omega, by go_num, HZ.out⟩
        case measure => simp [intOf] <;> omega
      ·
        go_wp2_with fail
        refine (get_both H5.out.1 H5.out.2.2.2.1 (by omega) ys yc H5.out.2.2.1).mono ?_
        rintro e w2 ⟨v2, ok2, rfl, hk2, hR⟩
        have rg2 := rowSame H5.out.2.1 hk2
        have j1 := rg2.cell 1 rfl
        have j2 := rg2.cell 2 rfl
        have HR := Lib.hid (hR w2 (Below.refl _ _))
        clear k1 k2 rg2 hR hk2
        go_wp2_with fail
        refine HR.out.mono ?_
        rintro e w4 ⟨rfl, hk4, C4, M4, T4, L4, f4, R4, cs4, hP4⟩
        have HP4 := Lib.hid hP4
        have rg := rowSame H5.out.2.1 hk4
        have q1 := rg.cell 1 rfl
        have q2 := rg.cell 2 rfl
        have hs := same_any hP4 (by omega) ys yc H5.out.2.2.1
        clear hP4 hk4 rg j1 j2
        go_wp2_with fail
        refine Calls.pure_to hs ?_
        intro wz hbz
        have HZ := Lib.hid (HP4.out.below hbz)
        clear hbz hs q1 q2
        go_wp2_with fail
        go_roundw
        case rel => exact ⟨k + 1, C4, M4, T4, L4, f4, R4, cs4, by omega, by go_num, HZ.out⟩
        case measure => simp [intOf] <;> omega
      ·
        go_wp2_with fail
        have hPd := H5.out.1.below ((Below.refl _ _).drew)
        have hOd := (H5.out.2.2.2.1.below ((Below.refl _ _).drew)).1
        refine wp_region_mix_exts (· = ga) [] false (by kernel_rfl) (by kernel_rfl) ?_
        intro _
        repeat ((with_reducible refine wpMix_light ?hh ?_); (case hh => rfl); go_big_quiet_step (fail); (with_reducible refine wpQuiet_nil ?_))
        (with_reducible refine wpMix_heavy ?hh ?hw (fun K hK => ?_)); (case hh => rfl); (case hw => rfl)
        go_simp
        refine (done_both hPd hOd (by omega) ys H5.out.2.2.1 H5.out.2.2.2.2).mono ?_
        rintro e w2 ⟨er, rfl, hk2, hR⟩
        refine hK.out _ _ (toExtS (fun b hb => by cases hb; exact hk2)) ?_
        clear hK K
        try simp only [Act.put, List.setIfInBounds_toArray, List.set_cons_zero, List.set_cons_succ]
        repeat ((with_reducible refine wpMix_light ?hh ?_); (case hh => rfl); go_big_quiet_step (fail); (with_reducible refine wpQuiet_nil ?_))
        (with_reducible refine wpMix_heavy ?hh ?hw (fun K hK => ?_)); (case hh => rfl); (case hw => rfl)
        go_simp
        refine hR.mono ?_
        rintro e w4 ⟨rfl, hk4, C4, M4, T4, L4, f4, R4, cs4, hP4⟩
        refine hK.out _ _ (toExtS (fun b hb => by cases hb; exact hk4)) ?_
        clear hK K
        try simp only [Act.put, List.setIfInBounds_toArray, List.set_cons_zero, List.set_cons_succ]
        repeat ((with_reducible refine wpMix_light ?hh ?_); (case hh => rfl); go_big_quiet_step (fail); (with_reducible refine wpQuiet_nil ?_))
        refine wpMix_nil ?_
        clear hk2 hR hPd hOd
        have HP4 := Lib.hid hP4
        have rg := rowSame H5.out.2.1 hk4
        have q1 := rg.cell 1 rfl
        have q2 := rg.cell 2 rfl
        have hs := same_any hP4 (by omega) ys yc H5.out.2.2.1
        clear hP4 hk4 rg k1 k2
        go_wp2_with fail
        refine Calls.pure_to hs ?_
        intro wz hbz
        have HZ := Lib.hid (HP4.out.below hbz)
        clear hbz hs q1 q2
        go_wp2_with fail
        go_roundw
        case rel => exact ⟨k + 1, C4, M4, T4, L4, f4, R4, cs4, by omega, by go_num, HZ.out⟩
        case measure => simp [intOf] <;> omega
      ·
        go_wp2_with fail
        have hPd := H5.out.1.below ((Below.refl _ _).drew)
        have hOd := (H5.out.2.2.2.1.below ((Below.refl _ _).drew)).1
        refine wp_region_mix_exts (· = ga) [] false (by kernel_rfl) (by kernel_rfl) ?_
        intro _
        repeat ((with_reducible refine wpMix_light ?hh ?_); (case hh => rfl); go_big_quiet_step (fail); (with_reducible refine wpQuiet_nil ?_))
        (with_reducible refine wpMix_heavy ?hh ?hw (fun K hK => ?_)); (case hh => rfl); (case hw => rfl)
        go_simp
        refine (drop_both hPd hOd (by omega) ys H5.out.2.2.1).mono ?_
        rintro e w2 ⟨er, rfl, hk2, hR⟩
        refine hK.out _ _ (toExtS (fun b hb => by cases hb; exact hk2)) ?_
        clear hK K
        try simp only [Act.put, List.setIfInBounds_toArray, List.set_cons_zero, List.set_cons_succ]
        repeat ((with_reducible refine wpMix_light ?hh ?_); (case hh => rfl); go_big_quiet_step (fail); (with_reducible refine wpQuiet_nil ?_))
        (with_reducible refine wpMix_heavy ?hh ?hw (fun K hK => ?_)); (case hh => rfl); (case hw => rfl)
        go_simp
        refine hR.mono ?_
        rintro e w4 ⟨rfl, hk4, C4, M4, T4, L4, f4, R4, cs4, hP4⟩
        refine hK.out _ _ (toExtS (fun b hb => by cases hb; exact hk4)) ?_
        clear hK K
        try simp only [Act.put, List.setIfInBounds_toArray, List.set_cons_zero, List.set_cons_succ]
        repeat ((with_reducible refine wpMix_light ?hh ?_); (case hh => rfl); go_big_quiet_step (fail); (with_reducible refine wpQuiet_nil ?_))
        refine wpMix_nil ?_
        clear hk2 hR hPd hOd
        have HP4 := Lib.hid hP4
        have rg := rowSame H5.out.2.1 hk4
        have q1 := rg.cell 1 rfl
        have q2 := rg.cell 2 rfl
        have hs := same_any hP4 (by omega) ys yc H5.out.2.2.1
        clear hP4 hk4 rg k1 k2
        go_wp2_with fail
        refine Calls.pure_to hs ?_
        intro wz hbz
        have HZ := Lib.hid (HP4.out.below hbz)
        clear hbz hs q1 q2
        go_wp2_with fail
        go_roundw
        case rel => exact ⟨k + 1, C4, M4, T4, L4, f4, R4, cs4, by omega, by go_num, HZ.out⟩
        case measure => simp [intOf] <;> omega
      ·
        go_wp2_with fail
        refine (get_both H5.out.1 H5.out.2.2.2.1 (by omega) ys yc H5.out.2.2.1).mono ?_
        rintro e w2 ⟨v2, ok2, rfl, hk2, hR⟩
        have rg2 := rowSame H5.out.2.1 hk2
        have j1 := rg2.cell 1 rfl
        have j2 := rg2.cell 2 rfl
        have HR := Lib.hid (hR w2 (Below.refl _ _))
        clear k1 k2 rg2 hR hk2
        go_wp2_with fail
        refine HR.out.mono ?_
        rintro e w4 ⟨rfl, hk4, C4, M4, T4, L4, f4, R4, cs4, hP4⟩
        have HP4 := Lib.hid hP4
        have rg := rowSame H5.out.2.1 hk4
        have q1 := rg.cell 1 rfl
        have q2 := rg.cell 2 rfl
        have hs := same_any hP4 (by omega) ys yc H5.out.2.2.1
        clear hP4 hk4 rg j1 j2
        go_wp2_with fail
        refine Calls.pure_to hs ?_
        intro wz hbz
        have HZ := Lib.hid (HP4.out.below hbz)
        clear hbz hs q1 q2
        go_wp2_with fail
        go_roundw
        case rel => exact ⟨k + 1, C4, M4, T4, L4, f4, R4, cs4, by omega, by go_num, HZ.out⟩
        case measure => simp [intOf] <;> omega
    · have BF := Lib.hid (H0.out.1.trans (hP.b.mono H0.out.1.size))
      clear hP
      go_wp2_with fail
      go_returns
      exact ⟨rfl, BF.out⟩
theorem plays_nil (x0 x1 x2 : Int) (v : Value) (w : World) (hT : Tab w) (hN : ∀ w', Calls Tryd.prog 7 #[.int .i64 x0, .int .i64 x1, .int .i64 x2] w' fun e w'' => e = .returned (.tuple #[pnil, .int .i64 2]) ∧ Below w'.heap.size w' w'')
    (hR : ∀ w', Calls Tryd.prog 17 #[.int .i64 x0, .int .i64 x1, .int .i64 x2] w' fun e w'' => e = .returned (.tuple #[pnil, .int .i64 2]) ∧ Below w'.heap.size w' w'') :
    Calls Tryd.prog 6 #[.agg #[.int .i64 x0, .int .i64 x1, .int .i64 x2], v] w fun e w' => e = .returned (.bool true) ∧ Below w.heap.size w w' := by
  have HT := Lib.hid hT
  have HN := Lib.hid (And.intro hN hR)
  clear hT hN hR
  go_enter Tryd.func6, Tryd.ntmps6
  go_upto_region 1 with fail
  obtain ⟨gx, hgx⟩ : ∃ g, g = w.heap.size := ⟨_, rfl⟩
  refine wp_world (fun w0 => w0.row gx [.int .i64 x0, .int .i64 x1, .int .i64 x2] 37 ∧ Below w.heap.size w w0) ⟨World.row.new' hgx.symm, (by repeat' (first | (with_reducible exact Below.refl _ _) | (with_reducible assumption) | (with_reducible refine Below.setCell ?_ ?_ _) | (with_reducible refine Below.ext ?_ _ ?_) | (with_reducible refine Below.alloc ?_ ?_ _) | (with_reducible refine Below.drew ?_) | (with_reducible refine Below.drewN ?_ _) | (with_reducible exact Nat.le_refl _) | (dsimp only; omega) | (simp <;> omega)))⟩ ?_
  simp only [← hgx]
  rintro w0 ⟨rx, B0⟩
  rw [hgx] at B0
  clear hgx
  have k0 := rx.cell 0 rfl
  have k1 := rx.cell 1 rfl
  have k2 := rx.cell 2 rfl
  have H0 := Lib.hid (And.intro B0 rx)
  clear rx B0
  go_wp2_with fail
  refine Calls.pure_to (HN.out.1 w0) ?_
  intro w1 b1
  have rx1 := H0.out.2.below b1 H0.out.2.lt
  have B1 := Lib.hid (H0.out.1.trans (b1.mono H0.out.1.size))
  clear b1 k0 k1 k2
  have k0 := rx1.cell 0 rfl
  have k1 := rx1.cell 1 rfl
  have k2 := rx1.cell 2 rfl
  clear rx1
  go_wp2_with fail
  refine Calls.pure_to (HN.out.2 w1) ?_
  intro w2 b2
  have B2 := Lib.hid (B1.out.trans (b2.mono B1.out.size))
  clear b2 k0 k1 k2
  go_wp2_with fail
  refine Calls.pure_to (wakes_any w2 (HT.out.below B2.out HT.out.lt)) ?_
  intro w3 b3
  have B3 := Lib.hid (B2.out.trans (b3.mono B2.out.size))
  clear b3
  go_wp2_with fail
  refine (Get_nil w3).mono ?_
  rintro e w4 ⟨rfl, rfl⟩
  go_wp2_with fail
  refine Calls.pure_to (Put_er _ _ 1 w3 (.inl rfl) (open_nil _ w3)) ?_
  intro w4 b4
  have B4 := Lib.hid (B3.out.trans (b4.mono B3.out.size))
  clear b4
  go_wp2_with fail
  refine Calls.pure_to (Fill_er _ _ 1 w4 (.inl rfl) (open_nil _ w4)) ?_
  intro w5 b5
  have B5 := Lib.hid (B4.out.trans (b5.mono B4.out.size))
  clear b5
  go_wp2_with fail
  refine (Done_nil w5).mono ?_
  rintro e w6 ⟨rfl, rfl⟩
  go_wp2_with fail
  refine (Drop_nil w5).mono ?_
  rintro e w6 ⟨rfl, rfl⟩
  go_wp2_with fail
  refine (Dirty_nil w5).mono ?_
  rintro e w6 ⟨rfl, rfl⟩
  go_wp2_with fail
  go_returns
  exact ⟨rfl, B5.out⟩
end Go.Proofs.YtijagdpkclghnaaDoor
/- CachePlays: for all inputs. -/
namespace Go.Proofs.YtijagdpkclghnaaDoor
open Go Go.RowKit
set_option maxRecDepth 100000
theorem CNew_wide (most limit : Nat) (dt : Int) (w : World) (h1 : 1 ≤ most) (h2 : most ≤ 64) (h3 : limit < most) (h4 : dt < 2 ∨ 30 < dt) : Calls Tryd.prog 7 #[.int .i64 (most : Int), .int .i64 (limit : Int), .int .i64 dt] w fun e w' => e = .returned (.tuple #[pnil, .int .i64 2]) ∧ Below w.heap.size w w' := by
  have HN := Lib.hid (New_ok most limit w (Nat.le_refl _) h1 h2 h3)
  clear h1 h2 h3
  by_cases h5 : dt < 2
  · clear h4
    go_enter Tryd.func7, Tryd.ntmps7
    go_wp2_with fail
    refine HN.out.mono ?_
    rintro e w1 ⟨M, rfl, hT, hb, hf⟩
    have HB := Lib.hid hb
    clear hb hT hf
    go_wp2_with fail
    go_ret2
    exact ⟨rfl, HB.out⟩
  · have h6 : 30 < dt := by omega
    clear h4
    go_enter Tryd.func7, Tryd.ntmps7
    go_wp2_with fail
    refine HN.out.mono ?_
    rintro e w1 ⟨M, rfl, hT, hb, hf⟩
    have HB := Lib.hid hb
    clear hb hT hf
    go_wp2_with fail
    go_ret2
    exact ⟨rfl, HB.out⟩
theorem plays_walk (x0 x1 x2 : Int) (a : Option Addr) (len cap : Nat) (l : List Ac) (w : World) (hT : Tab w) (hl : l.length = len) (hcap : len ≤ cap) (hin : ∀ y ∈ l, In5 y) (hna : a = none → len = 0 ∧ cap = 0)
    (hc : l = [] ∨ ∃ b o, a = some ⟨b, o, none⟩ ∧ ∀ i x, l[i]? = some x → ∀ j u, (act5 x)[j]? = some u → w.cell? ⟨b, o + i * 5 + j, none⟩ = some u) :
    Calls Tryd.prog 6 #[.agg #[.int .i64 x0, .int .i64 x1, .int .i64 x2], .slice a len cap] w fun e w' => e = .returned (.bool true) ∧ Below w.heap.size w w' := by
  by_cases hb : x0 < 1 ∨ 64 < x0 ∨ x1 < 0 ∨ x0 ≤ x1
  · exact plays_nil x0 x1 x2 _ w hT (fun w' => CNew_bad x0 x1 x2 w' hb) fun w' => RNew_bad x0 x1 x2 w' hb
  · obtain ⟨most, rfl⟩ : ∃ n : Nat, x0 = (n : Int) := ⟨x0.toNat, by omega⟩
    obtain ⟨limit, rfl⟩ : ∃ n : Nat, x1 = (n : Int) := ⟨x1.toNat, by omega⟩
    by_cases hd : x2 < 2 ∨ 30 < x2
    · exact plays_nil _ _ x2 _ w hT (fun w' => CNew_wide most limit x2 w' (by omega) (by omega) (by omega) hd) fun w' => RNew_wide most limit x2 w' (by omega) (by omega) (by omega) hd
    · obtain ⟨data, rfl⟩ : ∃ n : Nat, x2 = (n : Int) := ⟨x2.toNat, by omega⟩
      exact plays_good most limit data a len cap l w hT hl hcap hin hna (by omega) (by omega) (by omega) (by omega) (by omega) hc
end Go.Proofs.YtijagdpkclghnaaDoor
/- CachePlays: behind every calls a cache answers, and has, what the document says, step by step: for every input the Go function trunnionlaw24.CachePlays returns true and leaves its arguments as they were. The row lists the variable math/bits.deBruijn64tab, which the card ties to the program's text. -/
namespace Go.Proofs.YtijagdpkclghnaaDoor
open Go Go.ChangeShapes Go.WideShapes Go.ChangeAt Go.RowKit
set_option maxRecDepth 100000 in
theorem cachePlays_lifted (os : Os) (started : os.Started) (H : Type) (enc : TypeId × Value → H) :
    ReturnsInHanded {} Tryd.checked os 6 .any (fun w args => (Rows.cachePlaysSpec.pre enc Tryd.prog Tryd.f6 [] false w args ∧ laidMet Tryd.prog [("math/bits.deBruijn64tab", Rows.laid_math_bits_deBruijn64tab)] w) ∧ sizedMet enc Tryd.prog Tryd.f6 (OpenSpec.ofChange Rows.cachePlaysSpec) false w args)
      (Rows.cachePlaysSpec.post enc Tryd.prog Tryd.f6 false true false false) := by
  refine law_row Tryd.func6 rfl (by kernel_rfl) (by kernel_rfl) (by rw [Tryd.params6]; intro t ht; simp at ht; rcases ht with rfl | rfl <;> exact ⟨by kernel_rfl, of_decide_eq_true (by kernel_rfl)⟩) os started H enc #[.agg #[.int .i64 0, .int .i64 0, .int .i64 0], .slice none 0 0] (by kernel_rfl) (by kernel_rfl) (by kernel_rfl) (by kernel_rfl) (by kernel_rfl) ?_
  intro W base args ds p hval hA hsz hT
  rw [Tryd.params6] at hA hval
  obtain ⟨v0, vs0, d0, ds0, p0, q0, hargs, rfl, rfl, h0, r0⟩ := trodAll_cons hA
  obtain ⟨v1, vs1, d1, ds1, p1, q1, rfl, rfl, rfl, h1, r1⟩ := trodAll_cons r0
  obtain ⟨rfl, rfl, rfl⟩ := trodAll_nil r1
  obtain rfl : args = #[v0, v1] := by cases args; simp_all
  obtain ⟨x0, y0, z0, rfl, _, _, _⟩ := open_three Tryd.underlying37 Tryd.underlying3 (by kernel_rfl) (by kernel_rfl) (hval 0 _ v0 rfl rfl) h0
  obtain ⟨a1, m1, c1, rfl⟩ := okWide_slice Tryd.underlying23 (hval 1 _ v1 rfl rfl)
  obtain ⟨l1, hl1, hc1, hi1, hn1, hd1⟩ := open_acts h1
  exact ⟨rfl, plays_walk x0 y0 z0 a1 m1 c1 l1 W hT hl1 hc1 hi1 hn1 hd1⟩
theorem cachePlays_said : Rows.CachePlaysSaid :=
  OpenClaim.holds_of_wide 6 Tryd.f6 rfl rfl rfl rfl rfl rfl rfl ⟨rfl, rfl, rfl, rfl, rfl⟩ rfl rfl rfl rfl rfl (by kernel_rfl) Tryd.func6 (by kernel_rfl)
    (of_decide_eq_true (by kernel_rfl)) (by unfold Func.isWrapper; first | (rw [if_pos (by decide +kernel)]; kernel_rfl) | (rw [if_neg (by decide +kernel)]; exact ⟨rfl, rfl⟩))
    (fun os started H enc _ => cachePlays_lifted os started H enc)
theorem cachePlays_card : Rows.CachePlaysCardSaid :=
  Claim7.holds_tied_plain_at .later [] [.data] true Rows.cachePlaysCard.stood.harness false
    cachePlays_said (fun _ h => by cases h) (by kernel_rfl) (fun _ h => by cases h) cachePlays_row_tie rfl ⟨rfl, rfl⟩ (by kernel_rfl) rfl
    (fun f fn hf hfn => by
      obtain rfl : f = 6 := Option.some.inj ((show Tryd.prog.funcNamed "trunnion/trunnionlaw24.CachePlays" = some 6 by kernel_rfl).symm.trans hf) |>.symm
      obtain rfl : fn = Tryd.f6 := (Option.some.inj (Tryd.func6.symm.trans hfn)).symm
      refine ⟨by kernel_rfl, fun j t ht => ?_⟩
      rw [Tryd.params6] at ht
      have hm : t ∈ [37, 23] := by simpa using Array.mem_of_getElem? ht
      simp at hm
      rcases hm with rfl | rfl <;> exact (show Tryd.prog.wantsStandIn _ = false by kernel_rfl))
    (by kernel_rfl)
#print axioms cachePlays_card
end Go.Proofs.YtijagdpkclghnaaDoor
