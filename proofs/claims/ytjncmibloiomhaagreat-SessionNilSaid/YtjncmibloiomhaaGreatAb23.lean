/-
  A region that draws: the temporaries.
-/
import Derived.Test.YtjncmibloiomhaaGreatAb22
namespace Go.Ab
section
variable {P : Program}
theorem pairOk_spec {ops : Array Oper} {s t : SStep} (h : pairOk ops s t = true) : s.i ≠ t.i ∧ (t.eff = true → t.mask.testBit s.i = true) ∧ (t.mask.testBit s.i = true ∨ Oper.apart ops s.o t.o = true) := by
  simp only [pairOk, Bool.and_eq_true, Bool.not_eq_true'] at h
  obtain ⟨h1, h2⟩ := h
  refine ⟨fun e => (by rw [(Tr.beq_iff s.i t.i).2 e] at h1; cases h1), fun he => ?_, ?_⟩
  · rw [he, cond_true] at h2; exact h2
  · cases he : t.eff with
    | true => rw [he, cond_true] at h2; exact .inl h2
    | false => rw [he, cond_false, Bool.or_eq_true] at h2; exact h2
theorem putL_get (tm : List Value) (dst : Option Tmp) (v : Value) (d : Nat) : (putL tm dst v)[d]? = if dst = some d then tm[d]?.map (fun _ => v) else tm[d]? := by
  cases dst with
  | none => simp [putL]
  | some e =>
    simp only [putL, List.getElem?_set', Option.some.injEq]
    rfl
theorem putL_comm (tm : List Value) {x y : Option Tmp} (v u : Value) (h : ∀ d, x = some d → y ≠ some d) : putL (putL tm x v) y u = putL (putL tm y u) x v := by
  cases x with
  | none => rfl
  | some d =>
    cases y with
    | none => rfl
    | some e => exact List.set_comm _ _ (fun he => h d rfl (he ▸ rfl))
noncomputable def tmTo (L : Nat → Bool) (l : List SStep) (V : Nat → Value) (tm0 : List Value) : Nat → List Value
  | 0 => tm0
  | n + 1 => match l[n]? with
    | some s => if L s.i = true then putL (tmTo L l V tm0 n) s.o.dst (V n) else tmTo L l V tm0 n
    | none => tmTo L l V tm0 n
section
variable {ops : Array Oper} {all : List Oper} {l : List SStep} {x0 : Acc} {X : Nat → Acc} {V : Nat → Value} {L : Nat → Bool}
theorem tmTo_in {tm0 : List Value} {n : Nat} {s : SStep} (h : l[n]? = some s) (hL : L s.i = true) : tmTo L l V tm0 (n + 1) = putL (tmTo L l V tm0 n) s.o.dst (V n) := by
  show (match l[n]? with
    | some s => if L s.i = true then putL (tmTo L l V tm0 n) s.o.dst (V n) else tmTo L l V tm0 n
    | none => tmTo L l V tm0 n) = _
  rw [h]; simp only [hL, if_true]
theorem tmTo_out {tm0 : List Value} {n : Nat} {s : SStep} (h : l[n]? = some s) (hL : L s.i = false) : tmTo L l V tm0 (n + 1) = tmTo L l V tm0 n := by
  show (match l[n]? with
    | some s => if L s.i = true then putL (tmTo L l V tm0 n) s.o.dst (V n) else tmTo L l V tm0 n
    | none => tmTo L l V tm0 n) = _
  rw [h]; simp only [hL, Bool.false_eq_true, if_false]
theorem tmTo_all (T : Trace P all l x0 X V) (hL : ∀ s ∈ l, L s.i = true) : ∀ n, n ≤ l.length → tmTo L l V x0.tm n = (X n).tm
  | 0, _ => by rw [T.zero]; rfl
  | n + 1, hn => by
    have hs := List.getElem?_eq_getElem (show n < l.length by omega)
    rw [tmTo_in hs (hL _ (List.getElem_mem _)), T.tm hs, tmTo_all T hL n (by omega)]
/-- a temporary that the step looks at holds what it holds in the one order -/
theorem look_eq (S : Sched P ops l) (T : Trace P all l x0 X V) (hC : ∀ s ∈ l, L s.i = true → ∀ j, s.mask.testBit j = true → L j = true) {n : Nat} {s : SStep} (hn : l[n]? = some s) (hu : L s.i = false) (hm : ∀ j, s.mask.testBit j = true → L j = true)
    {d : Nat} (hd : d ∈ s.o.looksAt ops) : (tmTo L l V x0.tm l.length)[d]? = (X n).tm[d]? := by
  have hlen : n < l.length := (List.getElem?_eq_some_iff.1 hn).1
  have before : ∀ k, k ≤ n → (tmTo L l V x0.tm k)[d]? = (X k).tm[d]? := by
    intro k
    induction k with
    | zero => intro _; rw [T.zero]; rfl
    | succ k ih =>
      intro hk
      have ih := ih (by omega)
      have ht := List.getElem?_eq_getElem (show k < l.length by omega)
      generalize (l[k]'(by omega)) = t at ht
      rw [T.tm ht, putL_get]
      cases hL : L t.i with
      | true => rw [tmTo_in ht hL, putL_get, ih]
      | false =>
        rw [tmTo_out ht hL, ih]
        obtain ⟨_, _, h | h⟩ := pairOk_spec (S.pair k n t s (by omega) ht hn)
        · have := hm _ h; rw [hL] at this; cases this
        · rw [if_neg (fun e => (Oper.apart_spec h).1 d e hd)]
  have after : ∀ k, n + k ≤ l.length → (tmTo L l V x0.tm (n + k))[d]? = (X n).tm[d]? := by
    intro k
    induction k with
    | zero => intro _; exact before n (Nat.le_refl _)
    | succ k ih =>
      intro hk
      have ih := ih (by omega)
      have ht := List.getElem?_eq_getElem (show n + k < l.length by omega)
      generalize (l[n + k]'(by omega)) = t at ht
      rw [← ih]
      show (tmTo L l V x0.tm (n + k + 1))[d]? = _
      cases hL : L t.i with
      | false => rw [tmTo_out ht hL]
      | true =>
        rw [tmTo_in ht hL, putL_get, if_neg]
        intro e
        by_cases ek : k = 0
        · subst ek; rw [Nat.add_zero, hn] at ht; cases ht; rw [hu] at hL; cases hL
        · obtain ⟨_, _, h | h⟩ := pairOk_spec (S.pair n (n + k) s t (by omega) hn ht)
          · have := hC t (List.mem_of_getElem? ht) hL _ h; rw [hu] at this; cases this
          · exact (Oper.apart_spec h).2.2 d e hd
  have := after (l.length - n) (by omega)
  rwa [show n + (l.length - n) = l.length by omega] at this
/-- a step more -/
theorem tmTo_more (S : Sched P ops l) (hC : ∀ s ∈ l, L s.i = true → ∀ j, s.mask.testBit j = true → L j = true) {tm0 : List Value} {n : Nat} {s : SStep} (hn : l[n]? = some s) (hu : L s.i = false) {L' : Nat → Bool} (hL' : ∀ j, L' j = true ↔ L j = true ∨ j = s.i) :
    tmTo L' l V tm0 l.length = putL (tmTo L l V tm0 l.length) s.o.dst (V n) := by
  have hlen : n < l.length := (List.getElem?_eq_some_iff.1 hn).1
  have same : ∀ (m : Nat) (t : SStep), l[m]? = some t → m ≠ n → L' t.i = L t.i := by
    intro m t ht hne
    have hi : t.i ≠ s.i := by
      rcases Nat.lt_or_gt_of_ne hne with h | h
      · exact (pairOk_spec (S.pair m n t s h ht hn)).1
      · exact fun e => (pairOk_spec (S.pair n m s t h hn ht)).1 e.symm
    rw [Bool.eq_iff_iff, hL']
    exact ⟨fun h => h.elim id (fun e => absurd e hi), fun h => .inl h⟩
  have before : ∀ k, k ≤ n → tmTo L' l V tm0 k = tmTo L l V tm0 k := by
    intro k
    induction k with
    | zero => intro _; rfl
    | succ k ih =>
      intro hk
      have ht := List.getElem?_eq_getElem (show k < l.length by omega)
      generalize (l[k]'(by omega)) = t at ht
      have e := same k t ht (by omega)
      cases hL : L t.i with
      | true => rw [tmTo_in ht hL, tmTo_in ht (e.trans hL), ih (by omega)]
      | false => rw [tmTo_out ht hL, tmTo_out ht (e.trans hL), ih (by omega)]
  have after : ∀ k, n + 1 + k ≤ l.length → tmTo L' l V tm0 (n + 1 + k) = putL (tmTo L l V tm0 (n + 1 + k)) s.o.dst (V n) := by
    intro k
    induction k with
    | zero => intro _; rw [Nat.add_zero, tmTo_in hn ((hL' _).2 (.inr rfl)), tmTo_out hn hu, before n (Nat.le_refl _)]
    | succ k ih =>
      intro hk
      have ih := ih (by omega)
      have ht := List.getElem?_eq_getElem (show n + 1 + k < l.length by omega)
      generalize (l[n + 1 + k]'(by omega)) = t at ht
      have e := same _ t ht (by omega)
      show tmTo L' l V tm0 (n + 1 + k + 1) = putL (tmTo L l V tm0 (n + 1 + k + 1)) s.o.dst (V n)
      cases hL : L t.i with
      | false => rw [tmTo_out ht hL, tmTo_out ht (e.trans hL), ih]
      | true =>
        rw [tmTo_in ht hL, tmTo_in ht (e.trans hL), ih]
        refine putL_comm _ _ _ (fun d hd hd' => ?_)
        obtain ⟨_, _, h | h⟩ := pairOk_spec (S.pair n _ s t (by omega) hn ht)
        · have := hC t (List.mem_of_getElem? ht) hL _ h; rw [hu] at this; cases this
        · exact (Oper.apart_spec h).2.1 d hd hd'
  have := after (l.length - (n + 1)) (by omega)
  rwa [show n + 1 + (l.length - (n + 1)) = l.length by omega] at this
end
end
end Go.Ab
