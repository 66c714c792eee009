/-
  Heaps side by side.
-/
import Derived.Test.YtjncmibloiomhaaGreatAb20
namespace Go.Ab
section
variable {P : Program}
theorem heap_of (g : Nat → Option AObj) (F : Nat) : ∃ G : AHeap, G.next = F ∧ ∀ i, G.get i = if i < F then g i else none := by
  have main : ∀ n, ∃ G : AHeap, G.next = F ∧ ∀ i, G.get i = if i < n then g i else none := by
    intro n
    induction n with
    | zero => exact ⟨⟨F, .leaf⟩, rfl, fun i => by rw [if_neg (by omega)]; rfl⟩
    | succ n ih =>
      obtain ⟨G, h1, h2⟩ := ih
      refine ⟨G.put n (g n), h1, fun i => ?_⟩
      rw [AHeap.get_put, h2]
      by_cases e : n = i
      · subst e; simp
      · rw [if_neg e]
        by_cases e2 : i < n
        · rw [if_pos e2, if_pos (by omega)]
        · rw [if_neg e2, if_neg (by omega)]
  exact main F
/-- a part of a heap -/
theorem HRel.sub {ρ : Loc} {G H : AHeap} {w : World} (h : HRel ρ G w) (hg : ∀ i o, H.get i = some o → G.get i = some o) (hl : ∀ i o, H.get i = some o → i < H.next) : HRel ρ H w :=
  ⟨fun i o hi => h.obj i o (hg i o hi), h.dom, fun i j o o' b s s' hij hi hj => h.inj i j o o' b s s' hij (hg i o hi) (hg j o' hj), hl⟩
theorem Step.congr {ρ0 ρ : Loc} {H0 G G' : AHeap} {w0 w : World} (h : Step ρ0 H0 w0 ρ G w) (hg : ∀ i, G'.get i = G.get i) (hn : G'.next = G.next) : Step ρ0 H0 w0 ρ G' w where
  ext i hi := h.ext i (by rw [← hn]; exact hi)
  len := h.len
  next := by rw [hn]; exact h.next
  rel := h.rel.sub (fun i o hi => by rw [← hg]; exact hi) (fun i o hi => by rw [hn]; exact h.rel.lt i o (by rw [← hg]; exact hi))
  size := h.size
  same := h.same
  own b hb := by
    obtain ⟨i, o, s, h1, h2, h3⟩ := hb
    exact h.own b ⟨i, o, s, by rw [← hg]; exact h1, h2, h3⟩
  live b hb := by
    obtain ⟨i, o, s, h1, h3⟩ := hb
    exact h.live b ⟨i, o, s, by rw [← hg]; exact h1, h3⟩
  calm := h.calm
/-- a step on a part of the heap is one on the heap -/
theorem Step.frame {ρ0 ρ ρ' : Loc} {H0 G G' H H' : AHeap} {w0 w w' : World} (S0 : Step ρ0 H0 w0 ρ G w) (hH : HRel ρ H w) (hF : Fresh ρ H.next H'.next) (S : Step ρ H w ρ' H' w') (E : Nat → AObj → Prop)
    (hG : ∀ i o, G.get i = some o ↔ H.get i = some o ∨ E i o) (hG' : ∀ i o, G'.get i = some o ↔ H'.get i = some o ∨ E i o)
    (hE : ∀ i o, E i o → H.get i = none ∧ ¬ (H.next ≤ i ∧ i < H'.next)) (hn : G'.next = G.next) (h0 : H0.next ≤ H.next) (h1 : H'.next ≤ G.next) : Step ρ0 H0 w0 ρ' G' w' := by
  have hle := S.le hH hF
  have hEρ : ∀ i o, E i o → ρ' i = ρ i := fun i o h => S.ext i (hE i o h).2
  have notOwned : ∀ i o b s, E i o → ρ i = some (b, s) → ¬ Owned ρ H b := by
    rintro i o b s h hi ⟨j, oj, sj, hj, hjf, hjp⟩
    have hne : j ≠ i := fun e => by subst e; rw [(hE j o h).1] at hj; cases hj
    exact S0.rel.inj j i oj o b sj s hne ((hG j oj).2 (.inl hj)) ((hG i o).2 (.inr h)) hjf hjp hi
  have notLive : ∀ i o b s, E i o → o.free = true → ρ i = some (b, s) → ¬ Live ρ H b := by
    rintro i o b s h hf hi ⟨j, oj, sj, hj, hjp⟩
    have hne : i ≠ j := fun e => by subst e; rw [(hE i o h).1] at hj; cases hj
    exact S0.rel.inj i j o oj b s sj hne ((hG i o).2 (.inr h)) ((hG j oj).2 (.inl hj)) hf hi hjp
  have up : ∀ b, Owned ρ H b → Owned ρ G b := fun b ⟨j, oj, sj, hj, hjf, hjp⟩ => ⟨j, oj, sj, (hG j oj).2 (.inl hj), hjf, hjp⟩
  have upl : ∀ b, Live ρ H b → Live ρ G b := fun b ⟨j, oj, sj, hj, hjp⟩ => ⟨j, oj, sj, (hG j oj).2 (.inl hj), hjp⟩
  refine ⟨fun i hi => ?_, fun b hb => ?_, by rw [hn]; exact S0.next, ⟨fun i o hi => ?_, S.rel.dom, fun i j o o' b s s' hij hi hj hf hip hjp => ?_, fun i o hi => ?_⟩, Nat.le_trans S0.size S.size, fun b hb ho => ?_, fun b hb => ?_, fun b hb => ?_, S0.calm.trans S.calm⟩
  · rw [S.ext i (fun k => hi ⟨by omega, by omega⟩), S0.ext i (by rw [← hn]; exact hi)]
  · rw [S.len b (Nat.lt_of_lt_of_le hb S0.size), S0.len b hb]
  · rcases (hG' i o).1 hi with h | h
    · exact S.rel.obj i o h
    · obtain ⟨b, s, r, a1, a2, a3⟩ := S0.rel.obj i o ((hG i o).2 (.inr h))
      exact ⟨b, s, r, by rw [hEρ i o h]; exact a1, by rw [S.same b (S0.rel.dom_lt a1) (notOwned i o b s h a1)]; exact a2, a3.mono hle⟩
  · rcases (hG' i o).1 hi with h | h <;> rcases (hG' j o').1 hj with k | k
    · exact S.rel.inj i j o o' b s s' hij h k hf hip hjp
    · rw [hEρ j o' k] at hjp
      rcases S.own b ⟨i, o, s, h, hf, hip⟩ with x | x
      · have := S0.rel.dom_lt hjp; omega
      · exact notOwned j o' b s' k hjp x
    · rw [hEρ i o h] at hip
      rcases S.live b ⟨j, o', s', k, hjp⟩ with x | x
      · have := S0.rel.dom_lt hip; omega
      · exact notLive i o b s h hf hip x
    · rw [hEρ i o h] at hip; rw [hEρ j o' k] at hjp
      exact S0.rel.inj i j o o' b s s' hij ((hG i o).2 (.inr h)) ((hG j o').2 (.inr k)) hf hip hjp
  · rw [hn]
    rcases (hG' i o).1 hi with h | h
    · exact Nat.lt_of_lt_of_le (S.rel.lt i o h) h1
    · exact S0.rel.lt i o ((hG i o).2 (.inr h))
  · rw [S.same b (Nat.lt_of_lt_of_le hb S0.size) (fun x => (S0.own b (up b x)).elim (fun y => absurd hb (by omega)) ho), S0.same b hb ho]
  · obtain ⟨i, o, s, hi, hf, hp⟩ := hb
    rcases (hG' i o).1 hi with h | h
    · rcases S.own b ⟨i, o, s, h, hf, hp⟩ with x | x
      · exact .inl (Nat.le_trans S0.size x)
      · exact S0.own b (up b x)
    · rw [hEρ i o h] at hp
      exact S0.own b ⟨i, o, s, (hG i o).2 (.inr h), hf, hp⟩
  · obtain ⟨i, o, s, hi, hp⟩ := hb
    rcases (hG' i o).1 hi with h | h
    · rcases S.live b ⟨i, o, s, h, hp⟩ with x | x
      · exact .inl (Nat.le_trans S0.size x)
      · exact S0.live b (upl b x)
    · rw [hEρ i o h] at hp
      exact S0.live b ⟨i, o, s, (hG i o).2 (.inr h), hp⟩
/-! ### reads -/
theorem sameA_eq {a b : Addr} (h : sameA a b = true) : a = b := by
  simp only [sameA, Bool.and_eq_true, decide_eq_true_eq] at h
  obtain ⟨⟨h1, h2⟩, h3⟩ := h
  cases a; cases b
  simp only at h1 h2 h3
  rw [(Tr.beq_iff _ _).1 h1, (Tr.beq_iff _ _).1 h2, h3]
theorem sameL_eq {f : Value → Value → Bool} (hf : ∀ a b, f a b = true → a = b) : ∀ (x y : List Value), sameL f x y = true → x = y
  | [], [], _ => rfl
  | a :: x, b :: y, h => by
    simp only [sameL, Bool.and_eq_true] at h
    rw [hf _ _ h.1, sameL_eq hf x y h.2]
  | [], _ :: _, h => by cases h
  | _ :: _, [], h => by cases h
theorem sameArr {f : Value → Value → Bool} (hf : ∀ a b, f a b = true → a = b) {x y : Array Value} (h : sameL f x.toList y.toList = true) : x = y := Array.ext' (sameL_eq hf _ _ h)
theorem same_eq : ∀ (n : Nat) (v u : Value), same n v u = true → v = u
  | 0, v, u, h => by cases h
  | n + 1, v, u, h => by
    have ih := same_eq n
    unfold same at h
    split at h <;> try simp only [Bool.and_eq_true, decide_eq_true_eq, beq_iff_eq] at h
    · rw [h]
    · rw [h.1, h.2]
    · rename_i a b; have : a = b := by
        cases a; cases b; congr 1; exact Array.ext' h
      rw [this]
    · rfl
    · rw [sameA_eq h]
    · rw [(Tr.beq_iff _ _).1 h.1, (Tr.beq_iff _ _).1 h.2]
    · rw [sameA_eq h.1.1, (Tr.beq_iff _ _).1 h.1.2, (Tr.beq_iff _ _).1 h.2]
    · rfl
    · rw [(Tr.beq_iff _ _).1 h]
    · rfl
    · rfl
    · rw [(Tr.beq_iff _ _).1 h.1, ih _ _ h.2]
    · rw [h.1.1, sameArr ih h.1.2, sameArr ih h.2]
    · rw [sameArr ih h]
    · rw [sameArr ih h]
    · cases h
theorem readOp_next (op : Op) (e : Operand → Value) (H : AHeap) (n : Nat) : readOp P op e ⟨n, H.tr⟩ = readOp P op e H := rfl
theorem window_spec {op : Op} {e : Operand → Value} {mask : Nat} {fl : List Flo} {v : Value} : ∀ (hist : List (Nat × AHeap)) (c : Nat), windowOk P op e mask fl v c hist = true → ∀ (n : Nat) (p : Nat × AHeap), hist[n]? = some p → (∀ (j : Nat) (q : Nat × AHeap), j ≤ n → hist[j]? = some q → mask.testBit q.1 = false) →
    readOp P op e (seen mask (c - (n + 1)) p.2 fl) = some v
  | [], c, h, n, p, hn, _ => by simp at hn
  | (i, H) :: hs, c, h, n, p, hn, hm => by
    have h0 := hm 0 (i, H) (Nat.zero_le _) rfl
    simp only [windowOk] at h
    simp only at h0
    rw [h0, Bool.false_or, Bool.and_eq_true] at h
    obtain ⟨h1, h2⟩ := h
    cases n with
    | zero =>
      simp only [List.getElem?_cons_zero, Option.some.injEq] at hn
      subst hn
      simp only [Nat.zero_add]
      split at h1
      · rename_i u hu
        rw [hu, same_eq _ _ _ h1]
      · cases h1
    | succ n =>
      simp only [List.getElem?_cons_succ] at hn
      have := window_spec hs (c - 1) h2 n p hn (fun j q hj hq => hm (j + 1) q (by omega) (by simpa using hq))
      rw [show c - (n + 1 + 1) = c - 1 - (n + 1) by omega]
      exact this
theorem seen_get (mask c : Nat) (H : AHeap) : ∀ (fl : List Flo) (i : Nat) (o : AObj), (seen mask c H fl).get i = some o → H.get i = some o ∨ ∃ f ∈ fl, mask.testBit f.i = true ∧ c ≤ f.c ∧ f.id = i ∧ f.ob = o
  | [], i, o, h => .inl h
  | f :: fl, i, o, h => by
    unfold seen at h
    cases hb : Nat.testBit mask f.i && Nat.ble c f.c with
    | true =>
      rw [hb, cond_true, AHeap.get_put] at h
      simp only [Bool.and_eq_true] at hb
      by_cases e : f.id = i
      · rw [if_pos e] at h
        exact .inr ⟨f, List.mem_cons_self, hb.1, Nat.le_of_ble_eq_true hb.2, e, Option.some.inj h⟩
      · rw [if_neg e] at h
        rcases seen_get mask c H fl i o h with h | ⟨g, hg, k⟩
        · exact .inl h
        · exact .inr ⟨g, List.mem_cons_of_mem _ hg, k⟩
    | false =>
      rw [hb, cond_false] at h
      rcases seen_get mask c H fl i o h with h | ⟨g, hg, k⟩
      · exact .inl h
      · exact .inr ⟨g, List.mem_cons_of_mem _ hg, k⟩
end
end Go.Ab
