/-
  A region that draws: its steps in the one order.
-/
import Derived.Test.YtjncmibloiomhaaGreatAb21
namespace Go.Ab
section
variable {P : Program}
structure Acc where
  cur : AHeap
  hist : List (Nat × AHeap)
  c : Nat
  fl : List Flo
  tm : List Value
  H : AHeap
/-- what a floating read reads, whatever effects of its window are over -/
def Reads (P : Program) (s : SStep) (x : Acc) (v : Value) : Prop :=
  ∀ (n : Nat) (Hn : AHeap), (∀ (j : Nat) (q : Nat × AHeap), j < n → x.hist[j]? = some q → s.mask.testBit q.1 = false) → (x.cur :: x.hist.map (·.2))[n]? = some Hn → readOp P s.o.op (evT x.tm) (seen s.mask (x.c - n) Hn x.fl) = some v
inductive StepOk (P : Program) (all : List Oper) (s : SStep) (x y : Acc) (v : Value) : Prop
  | skipE (he : s.eff = true) (hw : wantedA all s.o x.tm = false) (hv : v = undef) (hy : y = { cur := x.H, hist := (s.i, x.cur) :: x.hist, c := x.c + 1, fl := x.fl, tm := putL x.tm s.o.dst v, H := x.H })
  | eff (H' : AHeap) (he : s.eff = true) (hw : wantedA all s.o x.tm = true) (hok : ∀ u ∈ s.o.op.operands.toList, okOperand u = true) (hs : OpSim P s.o (evT x.tm) x.H v H') (hn : x.H.next ≤ H'.next)
      (hy : y = { cur := H', hist := (s.i, x.cur) :: x.hist, c := x.c + 1, fl := x.fl, tm := putL x.tm s.o.dst v, H := H' })
  | skipF (he : s.eff = false) (hw : wantedA all s.o x.tm = false) (hv : v = undef) (hy : y = { x with tm := putL x.tm s.o.dst v })
  | pur (he : s.eff = false) (hw : wantedA all s.o x.tm = true) (hok : ∀ u ∈ s.o.op.operands.toList, okOperand u = true) (hp : pureOp P s.o.op (evT x.tm) = some v) (hy : y = { x with tm := putL x.tm s.o.dst v })
  | alloc (ob : AObj) (mk : Nat → Value) (he : s.eff = false) (hw : wantedA all s.o x.tm = true) (hok : ∀ u ∈ s.o.op.operands.toList, okOperand u = true) (ha : allocOp P s.o.op (evT x.tm) = some (ob, mk)) (hv : v = mk x.H.next)
      (hy : y = { x with tm := putL x.tm s.o.dst v, H := x.H.new ob, fl := { i := s.i, c := x.c, id := x.H.next, ob } :: x.fl })
  | read (he : s.eff = false) (hw : wantedA all s.o x.tm = true) (hok : ∀ u ∈ s.o.op.operands.toList, okOperand u = true) (hr : Reads P s x v) (hy : y = { x with tm := putL x.tm s.o.dst v })
structure Trace (P : Program) (all : List Oper) (l : List SStep) (x : Acc) (X : Nat → Acc) (V : Nat → Value) : Prop where
  zero : X 0 = x
  step : ∀ (n : Nat) (s : SStep), l[n]? = some s → StepOk P all s (X n) (X (n + 1)) (V n)
theorem Trace.cons {all : List Oper} {l : List SStep} {s : SStep} {x y : Acc} {v : Value} {X : Nat → Acc} {V : Nat → Value} (h : Trace P all l y X V) (hs : StepOk P all s x y v) :
    Trace P all (s :: l) x (fun n => Nat.casesOn n x X) (fun n => Nat.casesOn n v V) := by
  refine ⟨rfl, fun n t hn => ?_⟩
  cases n with
  | zero =>
    simp only [List.getElem?_cons_zero, Option.some.injEq] at hn
    subst hn
    show StepOk P all s x (X 0) v
    rw [h.zero]; exact hs
  | succ n => exact h.step n t (by simpa using hn)
theorem evSched_trace {R : Type} {callF : CallF R} (hcall : CallOk P callF) (all : List Oper) : ∀ (l : List SStep) (cur : AHeap) (hist : List (Nat × AHeap)) (c : Nat) (fl : List Flo) (st : St) (k : St → Option R) (r : R), evSched P callF all l cur hist c fl st k = some r →
    ∃ X V, Trace P all l { cur, hist, c, fl, tm := st.tm, H := st.H } X V ∧ k { tm := (X l.length).tm, marks := st.marks, H := (X l.length).H } = some r
  | [], cur, hist, c, fl, st, k, r, h => ⟨fun _ => { cur, hist, c, fl, tm := st.tm, H := st.H }, fun _ => undef, ⟨rfl, fun n s hn => by simp at hn⟩, h⟩
  | s :: l, cur, hist, c, fl, st, k, r, h => by
    have go : ∀ (y : Acc) (v : Value), StepOk P all s { cur, hist, c, fl, tm := st.tm, H := st.H } y v → evSched P callF all l y.cur y.hist y.c y.fl { tm := y.tm, marks := st.marks, H := y.H } k = some r →
        ∃ X V, Trace P all (s :: l) { cur, hist, c, fl, tm := st.tm, H := st.H } X V ∧ k { tm := (X (s :: l).length).tm, marks := st.marks, H := (X (s :: l).length).H } = some r := by
      intro y v hs hr
      obtain ⟨X, V, ht, hk⟩ := evSched_trace hcall all l _ _ _ _ _ k r hr
      exact ⟨_, _, ht.cons hs, hk⟩
    unfold evSched at h
    split at h
    rotate_left
    · cases h
    rename_i hok
    have hok : ∀ u ∈ s.o.op.operands.toList, okOperand u = true := fun x hx => List.all_eq_true.1 hok x hx
    cases he : s.eff with
    | true =>
      rw [he, cond_true] at h
      split at h
      · rename_i hw
        obtain ⟨v, H', hk, hn, hsim⟩ := evOp_sound hcall h
        exact go _ v (.eff H' he hw hok hsim hn rfl) hk
      · rename_i hw
        rw [skip_eq] at h
        exact go _ undef (.skipE he (by simpa using hw) rfl rfl) h
    | false =>
      rw [he, cond_false] at h
      split at h
      · rename_i hw
        split at h
        · split at h
          · rename_i v hv
            rw [force_eq, putT_eq] at h
            exact go _ v (.pur he hw hok hv rfl) h
          · cases h
        · split at h
          · rename_i ob mk hv
            rw [forceO_eq, AHeap.newK_eq, putT_eq] at h
            exact go _ _ (.alloc ob mk he hw hok hv rfl rfl) h
          · cases h
        · split at h
          · rename_i v hv
            split at h
            · rename_i hwin
              rw [force_eq, putT_eq] at h
              refine go _ v (.read he hw hok (fun n Hn hm hn => ?_) rfl) h
              cases n with
              | zero =>
                simp only [List.getElem?_cons_zero, Option.some.injEq] at hn
                subst hn
                exact hv
              | succ n =>
                simp only [List.getElem?_cons_succ, List.getElem?_map, Option.map_eq_some_iff] at hn
                obtain ⟨p, hp, rfl⟩ := hn
                exact window_spec hist c hwin n p hp (fun j q hj hq => hm j q (by omega) hq)
            · cases h
          · cases h
        · cases h
      · rename_i hw
        rw [skip_eq] at h
        exact go _ undef (.skipF he (by simpa using hw) rfl rfl) h
/-! ### what a trace says -/
section
variable {all : List Oper} {l : List SStep} {x0 : Acc} {X : Nat → Acc} {V : Nat → Value}
theorem Trace.tm (T : Trace P all l x0 X V) {n : Nat} {s : SStep} (h : l[n]? = some s) : (X (n + 1)).tm = putL (X n).tm s.o.dst (V n) := by
  cases T.step n s h <;> rename_i hy <;> rw [hy]
theorem Trace.next (T : Trace P all l x0 X V) {n : Nat} {s : SStep} (h : l[n]? = some s) : (X n).H.next ≤ (X (n + 1)).H.next := by
  cases T.step n s h <;> rename_i hy <;> rw [hy] <;> first | exact Nat.le_refl _ | exact Nat.le_succ _ | assumption
theorem Trace.next_le (T : Trace P all l x0 X V) {m : Nat} : ∀ {n : Nat}, m ≤ n → n ≤ l.length → (X m).H.next ≤ (X n).H.next
  | 0, h, _ => by rw [Nat.le_zero.1 h]; exact Nat.le_refl _
  | n + 1, h, hl => by
    by_cases e : m = n + 1
    · rw [e]; exact Nat.le_refl _
    · exact Nat.le_trans (Trace.next_le T (by omega) (by omega)) (T.next (List.getElem?_eq_getElem (show n < l.length by omega)))
theorem Trace.count (T : Trace P all l x0 X V) {n : Nat} {s : SStep} (h : l[n]? = some s) : (X n).c ≤ (X (n + 1)).c ∧ (s.eff = true → (X (n + 1)).c = (X n).c + 1) := by
  cases T.step n s h <;> rename_i hy <;> rw [hy] <;> simp_all
theorem Trace.count_le (T : Trace P all l x0 X V) {m : Nat} : ∀ {n : Nat}, m ≤ n → n ≤ l.length → (X m).c ≤ (X n).c
  | 0, h, _ => by rw [Nat.le_zero.1 h]; exact Nat.le_refl _
  | n + 1, h, hl => by
    by_cases e : m = n + 1
    · rw [e]; exact Nat.le_refl _
    · exact Nat.le_trans (Trace.count_le T (by omega) (by omega)) (T.count (List.getElem?_eq_getElem (show n < l.length by omega))).1
/-- step n lays f -/
def Lays (X : Nat → Acc) (n : Nat) (f : Flo) : Prop := (X (n + 1)).fl = f :: (X n).fl
theorem Trace.lays (T : Trace P all l x0 X V) {n : Nat} {s : SStep} (h : l[n]? = some s) {f : Flo} (hf : Lays X n f) : s.eff = false ∧ f.i = s.i ∧ f.c = (X n).c ∧ f.id = (X n).H.next ∧ (X (n + 1)).H = (X n).H.new f.ob := by
  unfold Lays at hf
  have no : (X (n + 1)).fl = (X n).fl → False := fun e => by
    rw [e] at hf
    have := congrArg List.length hf
    simp at this
  cases T.step n s h with
  | alloc ob mk he hw hok ha hv hy =>
    rw [hy] at hf
    simp only [List.cons.injEq, and_true] at hf
    subst hf
    exact ⟨he, rfl, rfl, rfl, by rw [hy]⟩
  | skipE he hw hv hy => exact (no (by rw [hy])).elim
  | eff H' he hw hok hs hn hy => exact (no (by rw [hy])).elim
  | skipF he hw hv hy => exact (no (by rw [hy])).elim
  | pur he hw hok hp hy => exact (no (by rw [hy])).elim
  | read he hw hok hr hy => exact (no (by rw [hy])).elim
/-- a floater's step: it lays, or the heap is as it was -/
theorem Trace.floats (T : Trace P all l x0 X V) {n : Nat} {s : SStep} (h : l[n]? = some s) (he : s.eff = false) : (X (n + 1)).cur = (X n).cur ∧ (X (n + 1)).hist = (X n).hist ∧ (X (n + 1)).c = (X n).c ∧
    ((∃ f, Lays X n f) ∨ (X (n + 1)).H = (X n).H ∧ (X (n + 1)).fl = (X n).fl) := by
  cases T.step n s h with
  | alloc ob mk he hw hok ha hv hy => exact ⟨by rw [hy], by rw [hy], by rw [hy], .inl ⟨{ i := s.i, c := (X n).c, id := (X n).H.next, ob }, by unfold Lays; rw [hy]⟩⟩
  | skipE he' hw hv hy => rw [he] at he'; cases he'
  | eff H' he' hw hok hs hn hy => rw [he] at he'; cases he'
  | skipF he hw hv hy => exact ⟨by rw [hy], by rw [hy], by rw [hy], .inr ⟨by rw [hy], by rw [hy]⟩⟩
  | pur he hw hok hp hy => exact ⟨by rw [hy], by rw [hy], by rw [hy], .inr ⟨by rw [hy], by rw [hy]⟩⟩
  | read he hw hok hr hy => exact ⟨by rw [hy], by rw [hy], by rw [hy], .inr ⟨by rw [hy], by rw [hy]⟩⟩
theorem Trace.effs (T : Trace P all l x0 X V) {n : Nat} {s : SStep} (h : l[n]? = some s) (he : s.eff = true) : (X (n + 1)).cur = (X (n + 1)).H ∧ (X (n + 1)).hist = (s.i, (X n).cur) :: (X n).hist ∧ (X (n + 1)).c = (X n).c + 1 ∧ (X (n + 1)).fl = (X n).fl := by
  cases T.step n s h with
  | skipE he' hw hv hy => rw [hy]; exact ⟨rfl, rfl, rfl, rfl⟩
  | eff H' he' hw hok hs hn hy => rw [hy]; exact ⟨rfl, rfl, rfl, rfl⟩
  | alloc ob mk he' => rw [he] at he'; cases he'
  | skipF he' => rw [he] at he'; cases he'
  | pur he' => rw [he] at he'; cases he'
  | read he' => rw [he] at he'; cases he'
/-- what has been laid -/
theorem Trace.flo (T : Trace P all l x0 X V) (h0 : x0.fl = []) : ∀ (n : Nat), n ≤ l.length → ∀ f ∈ (X n).fl, ∃ m, m < n ∧ Lays X m f
  | 0, _, f, hf => by rw [T.zero, h0] at hf; cases hf
  | n + 1, hn, f, hf => by
    have hs := List.getElem?_eq_getElem (show n < l.length by omega)
    have ih : ∀ f ∈ (X n).fl, ∃ m, m < n + 1 ∧ Lays X m f := fun f hf => let ⟨m, a, b⟩ := Trace.flo T h0 n (by omega) f hf; ⟨m, by omega, b⟩
    cases he : (l[n]'(by omega)).eff with
    | true => rw [(T.effs hs he).2.2.2] at hf; exact ih f hf
    | false =>
      obtain ⟨_, _, _, ⟨g, hg⟩ | ⟨_, e⟩⟩ := T.floats hs he
      · have hg' := hg
        unfold Lays at hg'
        rw [hg'] at hf
        rcases List.mem_cons.1 hf with rfl | hf
        · exact ⟨n, by omega, hg⟩
        · exact ih f hf
      · rw [e] at hf; exact ih f hf
/-- from a newest effect on to the next one the heap is what it was and what has been laid since -/
theorem Trace.heap (T : Trace P all l x0 X V) {p : Nat} (hp : ∀ i o, (X p).H.get i = some o → i < (X p).H.next) : ∀ (d : Nat), p + d ≤ l.length → (∀ m s, p ≤ m → m < p + d → l[m]? = some s → s.eff = false) →
    (∀ i o, (X (p + d)).H.get i = some o → i < (X (p + d)).H.next) ∧ ∀ i o, (X (p + d)).H.get i = some o ↔ (X p).H.get i = some o ∨ ∃ m f, p ≤ m ∧ m < p + d ∧ Lays X m f ∧ f.id = i ∧ f.ob = o
  | 0, _, _ => ⟨hp, fun i o => ⟨fun h => .inl h, fun h => h.elim id (fun ⟨m, f, a, b, _⟩ => by omega)⟩⟩
  | d + 1, hl, hf => by
    obtain ⟨ih1, ih2⟩ := Trace.heap T hp d (by omega) (fun m s a b => hf m s a (by omega))
    have hs := List.getElem?_eq_getElem (show p + d < l.length by omega)
    have he := hf _ _ (by omega) (by omega) hs
    obtain ⟨_, _, _, ⟨g, hg⟩ | ⟨e, e2⟩⟩ := T.floats hs he
    · obtain ⟨_, _, _, h4, h5⟩ := T.lays hs hg
      show (∀ i o, (X (p + d + 1)).H.get i = some o → i < (X (p + d + 1)).H.next) ∧ ∀ i o, (X (p + d + 1)).H.get i = some o ↔ _
      rw [h5]
      refine ⟨fun i o hi => ?_, fun i o => ?_⟩
      · rw [AHeap.get_new] at hi
        rw [AHeap.next_new]
        by_cases e : (X (p + d)).H.next = i
        · omega
        · rw [if_neg e] at hi; have := ih1 i o hi; omega
      · rw [AHeap.get_new]
        by_cases e : (X (p + d)).H.next = i
        · rw [if_pos e]
          constructor
          · intro h
            exact .inr ⟨p + d, g, by omega, by omega, hg, by rw [h4, e], Option.some.inj h⟩
          · rintro (h | ⟨m, f, a, b, hm, h6, h7⟩)
            · have := ih1 i o ((ih2 i o).2 (.inl h)); omega
            · by_cases em : m = p + d
              · subst em
                unfold Lays at hm hg
                rw [hm] at hg
                simp only [List.cons.injEq, and_true] at hg
                rw [← hg, h7]
              · have := ih1 i o ((ih2 i o).2 (.inr ⟨m, f, a, by omega, hm, h6, h7⟩)); omega
        · rw [if_neg e, ih2]
          constructor
          · rintro (h | ⟨m, f, a, b, k⟩)
            · exact .inl h
            · exact .inr ⟨m, f, a, by omega, k⟩
          · rintro (h | ⟨m, f, a, b, hm, h6, h7⟩)
            · exact .inl h
            · by_cases em : m = p + d
              · subst em
                have := (T.lays hs hm).2.2.2.1
                omega
              · exact .inr ⟨m, f, a, by omega, hm, h6, h7⟩
    · show (∀ i o, (X (p + d + 1)).H.get i = some o → i < (X (p + d + 1)).H.next) ∧ ∀ i o, (X (p + d + 1)).H.get i = some o ↔ _
      rw [e]
      refine ⟨ih1, fun i o => ?_⟩
      rw [ih2]
      constructor
      · rintro (h | ⟨m, f, a, b, k⟩)
        · exact .inl h
        · exact .inr ⟨m, f, a, by omega, k⟩
      · rintro (h | ⟨m, f, a, b, hm, k⟩)
        · exact .inl h
        · by_cases em : m = p + d
          · subst em
            unfold Lays at hm
            rw [e2] at hm
            have := congrArg List.length hm
            simp at this
          · exact .inr ⟨m, f, a, by omega, hm, k⟩
/-- the heap at p, from n on -/
theorem Trace.hist (T : Trace P all l x0 X V) {p : Nat} : ∀ (d : Nat), p + d ≤ l.length → ∃ es : List (Nat × AHeap), (X (p + d)).hist = es ++ (X p).hist ∧ es.length + (X p).c = (X (p + d)).c ∧ (∀ e ∈ es, ∃ m s, p ≤ m ∧ m < p + d ∧ l[m]? = some s ∧ s.eff = true ∧ s.i = e.1) ∧
    ((X (p + d)).cur :: (X (p + d)).hist.map (·.2))[es.length]? = some (X p).cur
  | 0, _ => ⟨[], rfl, Nat.zero_add _, by simp, rfl⟩
  | d + 1, hl => by
    obtain ⟨es, h1, h2, h3, h4⟩ := Trace.hist T (p := p) d (by omega)
    have hs := List.getElem?_eq_getElem (show p + d < l.length by omega)
    have h3' : ∀ e ∈ es, ∃ m s, p ≤ m ∧ m < p + (d + 1) ∧ l[m]? = some s ∧ s.eff = true ∧ s.i = e.1 := fun e he => let ⟨m, s, a, b, k⟩ := h3 e he; ⟨m, s, a, by omega, k⟩
    show ∃ es : List (Nat × AHeap), (X (p + d + 1)).hist = es ++ (X p).hist ∧ es.length + (X p).c = (X (p + d + 1)).c ∧ _ ∧ ((X (p + d + 1)).cur :: (X (p + d + 1)).hist.map (·.2))[es.length]? = some (X p).cur
    cases he : (l[p + d]'(by omega)).eff with
    | true =>
      obtain ⟨_, b, c, _⟩ := T.effs hs he
      refine ⟨_ :: es, by rw [b, h1]; rfl, by rw [c, ← h2]; simp; omega, ?_, ?_⟩
      · intro e hm
        rcases List.mem_cons.1 hm with rfl | hm
        · exact ⟨p + d, _, by omega, by omega, hs, he, rfl⟩
        · exact h3' e hm
      · rw [b]; simpa using h4
    | false =>
      obtain ⟨a, b, c, _⟩ := T.floats hs he
      exact ⟨es, by rw [b, h1], by rw [c, h2], h3', by rw [a, b]; exact h4⟩
end
end
end Go.Ab
