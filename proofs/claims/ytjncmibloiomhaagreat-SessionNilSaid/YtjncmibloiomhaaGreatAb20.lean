/-
  The schedule of a region that draws: its masks.
-/
import Derived.Test.YtjncmibloiomhaaGreatAb19
import Derived.OrdersIn
namespace Go.Ab
section
variable {P : Program}
/-! ### masks -/
theorem bindsA_eq (e : Edge) : bindsA e = Region.binds .any e := by
  unfold bindsA Region.binds
  cases e.ground <;> rfl
theorem testBit_one (n j : Nat) : (2 ^ n).testBit j = decide (n = j) := by rw [Nat.testBit_two_pow]
theorem maskOf_bit (l : List Nat) (j : Nat) : ∀ (es : List Edge), (maskOf l es).testBit j = true → ∃ e ∈ es, bindsA e = true ∧ (j = e.on ∨ (l.getD e.on 0).testBit j = true)
  | [], h => by simp [maskOf] at h
  | e :: es, h => by
    have h : (bif bindsA e then maskOf l es ||| (2 ^ e.on ||| l.getD e.on 0) else maskOf l es).testBit j = true := h
    cases hb : bindsA e with
    | false =>
      rw [hb] at h
      obtain ⟨x, hx, k⟩ := maskOf_bit l j es h
      exact ⟨x, List.mem_cons_of_mem _ hx, k⟩
    | true =>
      rw [hb] at h
      simp only [cond_true, Nat.testBit_or, Bool.or_eq_true] at h
      rcases h with h | h | h
      · obtain ⟨x, hx, k⟩ := maskOf_bit l j es h
        exact ⟨x, List.mem_cons_of_mem _ hx, k⟩
      · rw [testBit_one] at h
        exact ⟨e, List.mem_cons_self, hb, .inl (of_decide_eq_true h).symm⟩
      · exact ⟨e, List.mem_cons_self, hb, .inr h⟩
theorem masksFrom_spec : ∀ (ops : List Oper) (l ml : List Nat), masksFrom l ops = some ml →
    ml.length = l.length + ops.length ∧ (∀ j, j < l.length → ml.getD j 0 = l.getD j 0) ∧ ∀ (n : Nat) (o : Oper), ops[n]? = some o → ∀ j, (ml.getD (l.length + n) 0).testBit j = true → ∃ e ∈ o.after.toList, bindsA e = true ∧ (j = e.on ∨ (ml.getD e.on 0).testBit j = true)
  | [], l, ml, h => by
    simp only [masksFrom, Option.some.injEq] at h
    subst h
    exact ⟨rfl, fun _ _ => rfl, fun n o hn => by simp at hn⟩
  | o :: r, l, ml, h => by
    unfold masksFrom at h
    split at h
    rotate_left
    · cases h
    rename_i hall
    rw [forceN_eq, forceNs_eq] at h
    obtain ⟨h1, h2, h3⟩ := masksFrom_spec r _ ml h
    have hl : ∀ j, j < l.length → ml.getD j 0 = l.getD j 0 := fun j hj => by
      rw [h2 j (by simp; omega)]
      simp [List.getD, List.getElem?_append_left hj]
    refine ⟨by rw [h1]; simp; omega, hl, fun n o' hn j hj => ?_⟩
    cases n with
    | zero =>
      simp only [List.getElem?_cons_zero, Option.some.injEq] at hn
      subst hn
      have hm : ml.getD (l.length + 0) 0 = maskOf l o.after.toList := by
        rw [h2 _ (by simp)]
        simp [List.getD]
      rw [hm] at hj
      obtain ⟨e, he, hb, k⟩ := maskOf_bit l j _ hj
      refine ⟨e, he, hb, k.imp id fun k => ?_⟩
      have hlt := List.all_eq_true.1 hall e he
      rw [hb] at hlt
      have hlt : e.on < l.length := by
        simp only [Bool.not_true, Bool.false_or] at hlt
        exact of_decide_eq_true (by simpa [Nat.blt_eq] using hlt)
      rw [hl _ hlt]; exact k
    | succ n =>
      simp only [List.getElem?_cons_succ] at hn
      exact h3 n o' hn j (by rw [show (l ++ [maskOf l o.after.toList]).length + n = l.length + (n + 1) by simp; omega]; exact hj)
theorem masksFrom_back : ∀ (ops : List Oper) (l ml : List Nat), masksFrom l ops = some ml → ∀ (n : Nat) (o : Oper), ops[n]? = some o → ∀ e ∈ o.after.toList, bindsA e = true → e.on < l.length + n
  | [], l, ml, h, n, o, hn, e, he, hb => by simp at hn
  | o :: r, l, ml, h, n, o', hn, e, he, hb => by
    unfold masksFrom at h
    split at h
    rotate_left
    · cases h
    rename_i hall
    rw [forceN_eq, forceNs_eq] at h
    cases n with
    | zero =>
      simp only [List.getElem?_cons_zero, Option.some.injEq] at hn
      subst hn
      have hlt := List.all_eq_true.1 hall e he
      rw [hb] at hlt
      simp only [Bool.not_true, Bool.false_or] at hlt
      exact of_decide_eq_true (by simpa [Nat.blt_eq] using hlt)
    | succ n =>
      have := masksFrom_back r _ ml h n o' (by simpa using hn) e he hb
      simp only [List.length_append, List.length_singleton] at this
      omega
theorem stepsOf_spec (P : Program) (ops : List Oper) (ml : List Nat) : ∀ (order : List Nat) (s : SStep), s ∈ stepsOf P ops ml order → ops[s.i]? = some s.o ∧ s.mask = ml.getD s.i 0 ∧ s.eff = isEff P s.o
  | [], s, h => by simp [stepsOf] at h
  | i :: r, s, h => by
    unfold stepsOf at h
    split at h
    · rename_i o ho
      rw [forceN_eq] at h
      cases he : isEff P o with
      | true =>
        rw [he] at h
        rcases List.mem_cons.1 h with rfl | h
        · exact ⟨ho, rfl, he.symm⟩
        · exact stepsOf_spec P ops ml r s h
      | false =>
        rw [he] at h
        rcases List.mem_cons.1 h with rfl | h
        · exact ⟨ho, rfl, he.symm⟩
        · exact stepsOf_spec P ops ml r s h
    · exact stepsOf_spec P ops ml r s h
/-- what a schedule is -/
structure Sched (P : Program) (ops : Array Oper) (l : List SStep) : Prop where
  step : ∀ s ∈ l, ops[s.i]? = some s.o ∧ s.eff = isEff P s.o
  all : ∀ i, i < ops.size → ∃ (n : Nat) (s : SStep), l[n]? = some s ∧ s.i = i
  pair : ∀ (m n : Nat) (s t : SStep), m < n → l[m]? = some s → l[n]? = some t → pairOk ops s t = true
  back : ∀ s ∈ l, ∀ e ∈ s.o.after.toList, Region.binds .any e = true → e.on < s.i
  bits : ∀ s ∈ l, ∀ j, s.mask.testBit j = true → ∃ e ∈ s.o.after.toList, Region.binds .any e = true ∧ (j = e.on ∨ ∃ t ∈ l, t.i = e.on ∧ t.mask.testBit j = true)
theorem pairsOk_spec (ops : Array Oper) : ∀ (l : List SStep), pairsOk ops l = true → ∀ (m n : Nat) (s t : SStep), m < n → l[m]? = some s → l[n]? = some t → pairOk ops s t = true
  | [], _, m, n, s, t, _, hs, _ => by simp at hs
  | x :: l, h, m, n, s, t, hmn, hs, ht => by
    simp only [pairsOk, Bool.and_eq_true] at h
    cases n with
    | zero => omega
    | succ n =>
      simp only [List.getElem?_cons_succ] at ht
      cases m with
      | zero =>
        simp only [List.getElem?_cons_zero, Option.some.injEq] at hs
        subst hs
        exact List.all_eq_true.1 h.1 t (List.mem_of_getElem? ht)
      | succ m => exact pairsOk_spec ops l h.2 m n s t (by omega) hs ht
theorem sched_spec {ops : Array Oper} {l : List SStep} (h : schedOf P ops = some l) : Sched P ops l := by
  unfold schedOf at h
  split at h
  · cases h
  rename_i ml hml
  simp only at h
  split at h
  rotate_left
  · cases h
  rename_i hc
  obtain ⟨hall, hp⟩ := hc
  cases h
  obtain ⟨_, _, hspec⟩ := masksFrom_spec _ _ _ hml
  simp only [List.length_nil, Nat.zero_add] at hspec
  have hst := stepsOf_spec P ops.toList ml
  have hA : ∀ i, i < ops.size → ∃ s, s ∈ stepsOf P ops.toList ml (orderFrom P ops.toList ml ((List.range ops.toList.length).filter fun i => match ops.toList[i]? with
      | some o => isEff P o
      | none => false) 0) ∧ s.i = i := fun i hi => by
    have := List.all_eq_true.1 hall i (List.mem_range.2 (by simpa using hi))
    obtain ⟨s, hs, he⟩ := List.any_eq_true.1 this
    exact ⟨s, hs, (Tr.beq_iff s.i i).1 he⟩
  refine ⟨fun s hs => ?_, fun i hi => ?_, fun m n s t => pairsOk_spec ops _ hp m n s t, fun s hs e he hb => ?_, fun s hs j hj => ?_⟩
  · obtain ⟨h1, _, h3⟩ := hst _ s hs
    exact ⟨by rw [← Array.getElem?_toList]; exact h1, h3⟩
  · obtain ⟨s, hs, he⟩ := hA i hi
    obtain ⟨n, hn⟩ := List.getElem?_of_mem hs
    exact ⟨n, s, hn, he⟩
  · have := masksFrom_back _ _ _ hml s.i s.o (hst _ s hs).1 e he (by rw [bindsA_eq]; exact hb)
    simpa using this
  · obtain ⟨h1, h2, _⟩ := hst _ s hs
    rw [h2] at hj
    obtain ⟨e, he, hb, k⟩ := hspec s.i s.o h1 j hj
    refine ⟨e, he, by rw [← bindsA_eq]; exact hb, k.imp id fun k => ?_⟩
    by_cases hlt : e.on < ops.size
    · obtain ⟨t, ht, hi⟩ := hA e.on hlt
      refine ⟨t, ht, hi, ?_⟩
      rw [(hst _ t ht).2.1, hi]; exact k
    · have hlen := (masksFrom_spec _ _ _ hml).1
      simp only [List.length_nil, Nat.zero_add, Array.length_toList] at hlen
      have hnone : ml[e.on]? = none := List.getElem?_eq_none (by omega)
      rw [List.getD_eq_getElem?_getD, hnone] at k
      simp at k
end
end Go.Ab
