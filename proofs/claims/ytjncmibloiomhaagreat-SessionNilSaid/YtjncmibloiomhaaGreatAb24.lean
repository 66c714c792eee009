/-
  A region that draws: any order.
-/
import Derived.Test.YtjncmibloiomhaaGreatAb23
namespace Go.Ab
section
variable {P : Program}
theorem wanted_look {ops : Array Oper} {o : Oper} {tm tm' : List Value} (h : ∀ d ∈ o.looksAt ops, tm[d]? = tm'[d]?) : wantedA ops.toList o tm = wantedA ops.toList o tm' := by
  unfold wantedA
  cases hg : o.guard with
  | none => rfl
  | some p =>
    obtain ⟨j, want⟩ := p
    simp only
    rw [Array.getElem?_toList]
    cases hj : ops[j]? with
    | none => rfl
    | some g =>
      simp only
      cases hd : g.dst with
      | none => rfl
      | some d =>
        simp only
        rw [h d (List.mem_append_right _ (by simp [hg, hj, hd]))]
theorem evT_look {ops : Array Oper} {o : Oper} {tm tm' : List Value} (h : ∀ d ∈ o.looksAt ops, tm[d]? = tm'[d]?) (x : Operand) (hx : x ∈ o.op.operands.toList) : evT tm x = evT tm' x := by
  cases x with
  | tmp t =>
    have := h t (List.mem_append_left _ (List.mem_filterMap.2 ⟨.tmp t, hx, rfl⟩))
    show tm.getD t undef = tm'.getD t undef
    rw [List.getD_eq_getElem?_getD, List.getD_eq_getElem?_getD, this]
  | const v => rfl
  | global g => rfl
  | func f => rfl
structure Inv (P : Program) (l : List SStep) (X : Nat → Acc) (V : Nat → Value) (tm0 : List Value) (marks : List Nat) (ρ0 : Loc) (H0 : AHeap) (w0 : World) (L : Nat → Bool) (p : Nat) (ρ : Loc) (G : AHeap) (a : Act) (w : World) : Prop where
  pl : p ≤ l.length
  lt : ∀ i o, (X p).H.get i = some o → i < (X p).H.next
  cur : (X p).cur = (X p).H
  cnt : ∀ m, m < p → (X m).c < (X p).c
  low : ∀ (n : Nat) (s : SStep), n < p → l[n]? = some s → L s.i = true
  high : ∀ (n : Nat) (s : SStep), p ≤ n → l[n]? = some s → s.eff = true → L s.i = false
  closed : ∀ s ∈ l, L s.i = true → ∀ j, s.mask.testBit j = true → L j = true
  tm : LRel ρ (tmTo L l V tm0 l.length) a.tmps.toList
  marks : MRel ρ marks a.defers
  get : ∀ i o, G.get i = some o ↔ (X p).H.get i = some o ∨ ∃ (n : Nat) (s : SStep) (f : Flo), p ≤ n ∧ l[n]? = some s ∧ L s.i = true ∧ Lays X n f ∧ f.id = i ∧ f.ob = o
  next : G.next = (X l.length).H.next
  step : Step ρ0 H0 w0 ρ G w
  fresh : ∀ i, (X p).H.next ≤ i → i < (X l.length).H.next → (∀ (n : Nat) (s : SStep) (f : Flo), p ≤ n → l[n]? = some s → L s.i = true → Lays X n f → f.id ≠ i) → ρ i = none
section
variable {ops : Array Oper} {all : List Oper} {l : List SStep} {x0 : Acc} {X : Nat → Acc} {V : Nat → Value} {L L' : Nat → Bool} {marks : List Nat} {ρ0 ρ : Loc} {H0 G : AHeap} {w0 w : World} {a : Act} {p : Nat}
theorem Sched.inj (S : Sched P ops l) {m n : Nat} {t s : SStep} (hm : l[m]? = some t) (hn : l[n]? = some s) (h : t.i = s.i) : m = n := by
  rcases Nat.lt_trichotomy m n with k | k | k
  · exact absurd h (pairOk_spec (S.pair m n t s k hm hn)).1
  · exact k
  · exact absurd h.symm (pairOk_spec (S.pair n m s t k hn hm)).1
/-- what an order's next step leaves to show: the list of what is over -/
theorem Inv.closed' (S : Sched P ops l) (I : Inv P l X V x0.tm marks ρ0 H0 w0 L p ρ G a w) {n : Nat} {s : SStep} (hn : l[n]? = some s) (hm : ∀ j, s.mask.testBit j = true → L j = true) (hL' : ∀ j, L' j = true ↔ L j = true ∨ j = s.i) :
    ∀ t ∈ l, L' t.i = true → ∀ j, t.mask.testBit j = true → L' j = true := by
  intro t ht hl j hj
  rcases (hL' _).1 hl with h | h
  · exact (hL' j).2 (.inl (I.closed t ht h j hj))
  · obtain ⟨m, hmt⟩ := List.getElem?_of_mem ht
    have := S.inj hmt hn h
    subst this
    rw [hn] at hmt; cases hmt
    exact (hL' j).2 (.inl (hm j hj))
/-- a floater that lays nothing -/
theorem Inv.quiet (S : Sched P ops l) (T : Trace P all l x0 X V) (I : Inv P l X V x0.tm marks ρ0 H0 w0 L p ρ G a w) {n : Nat} {s : SStep} (hn : l[n]? = some s) (hu : L s.i = false) (hm : ∀ j, s.mask.testBit j = true → L j = true) (hL' : ∀ j, L' j = true ↔ L j = true ∨ j = s.i)
    (he : s.eff = false) (hno : ∀ f, ¬ Lays X n f) {r : Value} (hv : VRel ρ (V n) r) : Inv P l X V x0.tm marks ρ0 H0 w0 L' p ρ G (a.put s.o.dst r) w := by
  have up : ∀ j, L j = true → L' j = true := fun j h => (hL' j).2 (.inl h)
  have down : ∀ (m : Nat) (t : SStep), l[m]? = some t → L' t.i = true → L t.i = true ∨ m = n := fun m t ht h => ((hL' _).1 h).imp id (fun e => S.inj ht hn e)
  refine ⟨I.pl, I.lt, I.cur, I.cnt, fun m t h1 h2 => up _ (I.low m t h1 h2), fun m t h1 h2 h3 => ?_, I.closed' S hn hm hL', ?_, by rw [put_defers]; exact I.marks, fun i o => ?_, I.next, I.step, fun i h1 h2 h3 => I.fresh i h1 h2 (fun m t f a b c d => h3 m t f a b (up _ c) d)⟩
  · cases hb : L' t.i with
    | false => rfl
    | true =>
      rcases down m t h2 hb with h | h
      · rw [I.high m t h1 h2 h3] at h; cases h
      · subst h; rw [hn] at h2; cases h2; rw [he] at h3; cases h3
  · rw [tmTo_more S I.closed hn hu hL']
    exact put_rel I.tm hv _
  · rw [I.get]
    constructor
    · rintro (h | ⟨m, t, f, a, b, c, d, k⟩)
      · exact .inl h
      · exact .inr ⟨m, t, f, a, b, up _ c, d, k⟩
    · rintro (h | ⟨m, t, f, a, b, c, d, k⟩)
      · exact .inl h
      · rcases down m t b c with h | h
        · exact .inr ⟨m, t, f, a, b, h, d, k⟩
        · subst h; exact absurd d (hno f)
/-- a floater that lays a block -/
theorem Inv.lays (S : Sched P ops l) (T : Trace P all l x0 X V) (I : Inv P l X V x0.tm marks ρ0 H0 w0 L p ρ G a w) (h0 : H0.next ≤ (X 0).H.next) {n : Nat} {s : SStep} (hn : l[n]? = some s) (hu : L s.i = false) (hm : ∀ j, s.mask.testBit j = true → L j = true) (hL' : ∀ j, L' j = true ↔ L j = true ∨ j = s.i)
    {f : Flo} (hf : Lays X n f) : ρ f.id = none ∧ ∀ {ρ' : Loc} {w' : World} {r : Value}, Step ρ ⟨f.id, .leaf⟩ w ρ' ((⟨f.id, .leaf⟩ : AHeap).new f.ob) w' → VRel ρ' (V n) r → ∃ G', Inv P l X V x0.tm marks ρ0 H0 w0 L' p ρ' G' (a.put s.o.dst r) w' := by
  have hlen : n < l.length := (List.getElem?_eq_some_iff.1 hn).1
  obtain ⟨he, hfi, hfc, hid, hH⟩ := T.lays hn hf
  have hpn : p ≤ n := Nat.le_of_not_lt (fun h => by rw [I.low n s h hn] at hu; cases hu)
  have hnx : (X (n + 1)).H.next = f.id + 1 := by rw [hH, AHeap.next_new, hid]
  have hF : f.id < (X l.length).H.next := by have := T.next_le (m := n + 1) (n := l.length) (by omega) (Nat.le_refl _); omega
  have hge : ∀ m, m ≤ n → (X m).H.next ≤ f.id := fun m h => by rw [hid]; exact T.next_le h (by omega)
  have hother : ∀ (m : Nat) (t : SStep) (g : Flo), l[m]? = some t → m ≠ n → Lays X m g → g.id ≠ f.id := by
    intro m t g ht hne hg
    have hml : m < l.length := (List.getElem?_eq_some_iff.1 ht).1
    obtain ⟨_, _, _, gid, gH⟩ := T.lays ht hg
    have gnx : (X (m + 1)).H.next = g.id + 1 := by rw [gH, AHeap.next_new, gid]
    rcases Nat.lt_or_gt_of_ne hne with h | h
    · have := T.next_le (m := m + 1) (n := n) (by omega) (by omega); omega
    · have := T.next_le (m := n + 1) (n := m) (by omega) (by omega); omega
  have up : ∀ j, L j = true → L' j = true := fun j h => (hL' j).2 (.inl h)
  have down : ∀ (m : Nat) (t : SStep), l[m]? = some t → L' t.i = true → L t.i = true ∨ m = n := fun m t ht h => ((hL' _).1 h).imp id (fun e => S.inj ht hn e)
  have hnone : ρ f.id = none := I.fresh _ (hge p hpn) hF (fun m t g a b c d => hother m t g b (fun e => by subst e; rw [hn] at b; cases b; rw [hu] at c; cases c) d)
  refine ⟨hnone, fun {ρ' w' r} S1 hv => ?_⟩
  have hHe : HRel ρ (⟨f.id, .leaf⟩ : AHeap) w := ⟨fun i o h => (by cases h), I.step.rel.dom, fun i j o o' b s s' _ h => (by cases h), fun i o h => (by cases h)⟩
  have hFr : Fresh ρ (⟨f.id, .leaf⟩ : AHeap).next ((⟨f.id, .leaf⟩ : AHeap).new f.ob).next := fun i h1 h2 => by
    have h1 : f.id ≤ i := h1
    have h2 : i < f.id + 1 := h2
    have : i = f.id := by omega
    rw [this]; exact hnone
  have hGn : G.get f.id = none := by
    cases hg : G.get f.id with
    | none => rfl
    | some o => obtain ⟨b, s, r, e, _⟩ := I.step.rel.obj _ _ hg; rw [hnone] at e; cases e
  have hle := S1.le hHe hFr
  have hst : Step ρ0 H0 w0 ρ' (G.put f.id (some f.ob)) w' := by
    refine I.step.frame hHe hFr S1 (fun i o => G.get i = some o) (fun i o => ⟨fun h => .inr h, fun h => h.elim (fun h => by cases h) id⟩) (fun i o => ?_) (fun i o h => ⟨rfl, fun h2 => ?_⟩) (AHeap.next_put _ _ _) (Nat.le_trans (Nat.le_trans h0 (T.next_le (Nat.zero_le n) (by omega))) (by rw [← hid]; exact Nat.le_refl _)) ?_
    · rw [AHeap.get_put, AHeap.get_new]
      by_cases e : f.id = i
      · subst e; rw [if_pos rfl, if_pos rfl, hGn]; simp
      · rw [if_neg e, if_neg e]
        exact ⟨fun h => .inr h, fun h => h.elim (fun h => by cases h) id⟩
    · have h1 : f.id ≤ i := h2.1
      have h2 : i < f.id + 1 := h2.2
      have : i = f.id := by omega
      rw [this, hGn] at h; cases h
    · rw [I.next]; exact hF
  refine ⟨_, I.pl, I.lt, I.cur, I.cnt, fun m t h1 h2 => up _ (I.low m t h1 h2), fun m t h1 h2 h3 => ?_, I.closed' S hn hm hL', ?_, by rw [put_defers]; exact I.marks.mono hle, fun i o => ?_, by rw [AHeap.next_put, I.next], hst, fun i h1 h2 h3 => ?_⟩
  · cases hb : L' t.i with
    | false => rfl
    | true =>
      rcases down m t h2 hb with h | h
      · rw [I.high m t h1 h2 h3] at h; cases h
      · subst h; rw [hn] at h2; cases h2; rw [he] at h3; cases h3
  · rw [tmTo_more S I.closed hn hu hL']
    exact put_rel (I.tm.mono hle) hv _
  · rw [AHeap.get_put]
    by_cases e : f.id = i
    · rw [if_pos e]
      constructor
      · intro h
        exact .inr ⟨n, s, f, hpn, hn, (hL' _).2 (.inr rfl), hf, e, Option.some.inj h⟩
      · rintro (h | ⟨m, t, g, a, b, c, d, k, k2⟩)
        · have := I.lt i o h; have := hge p hpn; omega
        · by_cases em : m = n
          · subst em
            unfold Lays at hf d
            rw [hf] at d
            simp only [List.cons.injEq, and_true] at d
            rw [d, k2]
          · exact absurd (k.trans e.symm) (hother m t g b em d)
    · rw [if_neg e, I.get]
      constructor
      · rintro (h | ⟨m, t, g, a, b, c, d, k⟩)
        · exact .inl h
        · exact .inr ⟨m, t, g, a, b, up _ c, d, k⟩
      · rintro (h | ⟨m, t, g, a, b, c, d, k, k2⟩)
        · exact .inl h
        · rcases down m t b c with h | h
          · exact .inr ⟨m, t, g, a, b, h, d, k, k2⟩
          · subst h
            unfold Lays at hf d
            rw [hf] at d
            simp only [List.cons.injEq, and_true] at d
            rw [d] at e; exact absurd k e
  · have hne : i ≠ f.id := fun e => h3 n s f hpn hn ((hL' _).2 (.inr rfl)) hf e.symm
    rw [S1.ext i (fun k => by
      have h1 : f.id ≤ i := k.1
      have h2 : i < f.id + 1 := k.2
      omega)]
    exact I.fresh i h1 h2 (fun m t g a b c d => h3 m t g a b (up _ c) d)
/-- the next effect -/
theorem Inv.effect (S : Sched P ops l) (T : Trace P all l x0 X V) (I : Inv P l X V x0.tm marks ρ0 H0 w0 L p ρ G a w) (h0 : H0.next ≤ (X 0).H.next) {n : Nat} {s : SStep} (hn : l[n]? = some s) (hu : L s.i = false) (hm : ∀ j, s.mask.testBit j = true → L j = true) (hL' : ∀ j, L' j = true ↔ L j = true ∨ j = s.i)
    (he : s.eff = true) : HRel ρ (X n).H w ∧ Fresh ρ (X n).H.next (X (n + 1)).H.next ∧ ∀ {ρ' : Loc} {w' : World} {r : Value}, Step ρ (X n).H w ρ' (X (n + 1)).H w' → VRel ρ' (V n) r → ∃ G', Inv P l X V x0.tm marks ρ0 H0 w0 L' (n + 1) ρ' G' (a.put s.o.dst r) w' := by
  have hlen : n < l.length := (List.getElem?_eq_some_iff.1 hn).1
  have hpn : p ≤ n := Nat.le_of_not_lt (fun h => by rw [I.low n s h hn] at hu; cases hu)
  have hall : ∀ (m : Nat) (t : SStep), m < n → l[m]? = some t → L t.i = true := fun m t h ht => hm _ ((pairOk_spec (S.pair m n t s h ht hn)).2.1 he)
  have hnoeff : ∀ (m : Nat) (t : SStep), p ≤ m → m < p + (n - p) → l[m]? = some t → t.eff = false := fun m t h1 h2 ht => by
    cases hb : t.eff with
    | false => rfl
    | true => have := I.high m t h1 ht hb; rw [hall m t (by omega) ht] at this; cases this
  have hh := T.heap I.lt (n - p) (by omega) hnoeff
  rw [show p + (n - p) = n by omega] at hh
  obtain ⟨wf, hget⟩ := hh
  have hids : ∀ (m : Nat) (t : SStep) (g : Flo), l[m]? = some t → Lays X m g → (m < n → g.id < (X n).H.next) ∧ (n < m → (X (n + 1)).H.next ≤ g.id ∧ g.id < (X l.length).H.next) ∧ m ≠ n := by
    intro m t g ht hg
    have hml : m < l.length := (List.getElem?_eq_some_iff.1 ht).1
    obtain ⟨ge, _, _, gid, gH⟩ := T.lays ht hg
    have gnx : (X (m + 1)).H.next = g.id + 1 := by rw [gH, AHeap.next_new, gid]
    refine ⟨fun h => ?_, fun h => ⟨?_, ?_⟩, fun h => ?_⟩
    · have := T.next_le (m := m + 1) (n := n) (by omega) (by omega); omega
    · have := T.next_le (m := n + 1) (n := m) (by omega) (by omega); omega
    · have := T.next_le (m := m + 1) (n := l.length) (by omega) (by omega); omega
    · subst h; rw [hn] at ht; cases ht; rw [he] at ge; cases ge
  have hn1 : (X (n + 1)).H.next ≤ (X l.length).H.next := T.next_le (by omega) (Nat.le_refl _)
  have hn0 : (X n).H.next ≤ (X (n + 1)).H.next := T.next hn
  have hpn' : (X p).H.next ≤ (X n).H.next := T.next_le hpn (by omega)
  have hG : ∀ i o, G.get i = some o ↔ (X n).H.get i = some o ∨ ∃ (m : Nat) (t : SStep) (f : Flo), n < m ∧ l[m]? = some t ∧ L t.i = true ∧ Lays X m f ∧ f.id = i ∧ f.ob = o := by
    intro i o
    rw [I.get]
    constructor
    · rintro (h | ⟨m, t, f, a, b, c, d, k⟩)
      · exact .inl ((hget i o).2 (.inl h))
      · rcases Nat.lt_trichotomy m n with h | h | h
        · exact .inl ((hget i o).2 (.inr ⟨m, f, a, h, d, k⟩))
        · exact absurd h (hids m t f b d).2.2
        · exact .inr ⟨m, t, f, h, b, c, d, k⟩
    · rintro (h | ⟨m, t, f, a, b, c, d, k⟩)
      · rcases (hget i o).1 h with h | ⟨m, f, a, b, d, k⟩
        · exact .inl h
        · have ht := List.getElem?_eq_getElem (show m < l.length by omega)
          exact .inr ⟨m, _, f, a, ht, hall m _ b ht, d, k⟩
      · exact .inr ⟨m, t, f, by omega, b, c, d, k⟩
  have hH : HRel ρ (X n).H w := I.step.rel.sub (fun i o h => (hG i o).2 (.inl h)) wf
  have hF : Fresh ρ (X n).H.next (X (n + 1)).H.next := fun i h1 h2 => I.fresh i (by omega) (by omega) (fun m t f a b c d e => by
    rcases Nat.lt_trichotomy m n with h | h | h
    · have := (hids m t f b d).1 h; omega
    · exact (hids m t f b d).2.2 h
    · have := (hids m t f b d).2.1 h; omega)
  refine ⟨hH, hF, fun {ρ' w' r} S1 hv => ?_⟩
  have hle := S1.le hH hF
  obtain ⟨G', hGn, hGg⟩ := heap_of (fun i => if i < (X (n + 1)).H.next then (X (n + 1)).H.get i else G.get i) (X l.length).H.next
  have hG' : ∀ i o, G'.get i = some o ↔ (X (n + 1)).H.get i = some o ∨ ∃ (m : Nat) (t : SStep) (f : Flo), n < m ∧ l[m]? = some t ∧ L t.i = true ∧ Lays X m f ∧ f.id = i ∧ f.ob = o := by
    intro i o
    rw [hGg]
    constructor
    · intro h
      split at h
      · split at h
        · exact .inl h
        · rcases (hG i o).1 h with h | h
          · have := wf i o h; omega
          · exact .inr h
      · cases h
    · rintro (h | h)
      · have := S1.rel.lt i o h
        rw [if_pos (by omega), if_pos this]; exact h
      · have hg := (hG i o).2 (.inr h)
        obtain ⟨m, t, f, a, b, c, d, k, _⟩ := h
        have := (hids m t f b d).2.1 a
        rw [if_pos (by omega), if_neg (by omega)]; exact hg
  have hst : Step ρ0 H0 w0 ρ' G' w' := by
    refine I.step.frame hH hF S1 _ hG hG' (fun i o h => ?_) (by rw [hGn, I.next]) (Nat.le_trans h0 (T.next_le (Nat.zero_le n) (by omega))) (by rw [I.next]; exact hn1)
    obtain ⟨m, t, f, a, b, c, d, k, _⟩ := h
    have := (hids m t f b d).2.1 a
    refine ⟨?_, by omega⟩
    cases hg : (X n).H.get i with
    | none => rfl
    | some o' => have := wf i o' hg; omega
  have up : ∀ j, L j = true → L' j = true := fun j h => (hL' j).2 (.inl h)
  have down : ∀ (m : Nat) (t : SStep), l[m]? = some t → L' t.i = true → L t.i = true ∨ m = n := fun m t ht h => ((hL' _).1 h).imp id (fun e => S.inj ht hn e)
  obtain ⟨e1, _, e3, _⟩ := T.effs hn he
  refine ⟨G', by omega, S1.rel.lt, e1, fun m hmn => ?_, fun m t h1 h2 => ?_, fun m t h1 h2 h3 => ?_, I.closed' S hn hm hL', ?_, by rw [put_defers]; exact I.marks.mono hle, fun i o => ?_, hGn, hst, fun i h1 h2 h3 => ?_⟩
  · have := T.count_le (m := m) (n := n) (by omega) (by omega); omega
  · by_cases e : m = n
    · subst e; rw [hn] at h2; cases h2; exact (hL' _).2 (.inr rfl)
    · exact up _ (hall m t (by omega) h2)
  · cases hb : L' t.i with
    | false => rfl
    | true =>
      rcases down m t h2 hb with h | h
      · rw [I.high m t (by omega) h2 h3] at h; cases h
      · omega
  · rw [tmTo_more S I.closed hn hu hL']
    exact put_rel (I.tm.mono hle) hv _
  · rw [hG']
    constructor
    · rintro (h | ⟨m, t, f, a, b, c, d, k⟩)
      · exact .inl h
      · exact .inr ⟨m, t, f, a, b, up _ c, d, k⟩
    · rintro (h | ⟨m, t, f, a, b, c, d, k⟩)
      · exact .inl h
      · rcases down m t b c with h | h
        · exact .inr ⟨m, t, f, a, b, h, d, k⟩
        · omega
  · rw [S1.ext i (fun k => by omega)]
    refine I.fresh i (by omega) h2 (fun m t f a b c d e => ?_)
    rcases Nat.lt_trichotomy m n with h | h | h
    · have := (hids m t f b d).1 h; omega
    · exact (hids m t f b d).2.2 h
    · exact h3 m t f h b (up _ c) d e
end
end
end Go.Ab
