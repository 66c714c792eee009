/-
  All operations that change memory.
-/
import Derived.Test.YtjncmibloiomhaaGreatAb13
namespace Go.Ab
section
variable {P : Program} {ρ : Loc}
theorem copyA_sound {H : AHeap} {w : World} {t : TypeId} {d x d' x' : Value} {ts : Array TypeId} {args : Array Value} {ty : TypeId} {u : Upd} {mk : Nat → Value} (h : copyA P t d x H = some (u, mk)) (hH : HRel ρ H w)
    (hd : VRel ρ d d') (hx : VRel ρ x x') (h0 : ts[0]? = some t) (a0 : args[0]? = some d') (a1 : args[1]? = some x') :
    ∃ vr w' ρ', (Builtin.copy_ ts ty args).run P w = .ok vr w' ∧ VRel ρ' (mk (u.id H)) vr ∧ Step ρ H w ρ' (u.app H) w' := by
  unfold copyA at h
  split at h
  rotate_left
  · cases h
  rename_i el hu
  split at h
  rotate_left
  · cases h
  rename_i sz m k hsz hm hk
  split at h
  · cases h
  rename_i new hnew
  have hlen := len_sound (P := P) (w := w) hk hx
  obtain ⟨new', hnr, hsrc⟩ := src_sound (P := P) hnew hH hx
  split at h
  · cases h
    obtain ⟨rfl, _, _⟩ := hd.sliceNone
    simp only [lenA] at hm; cases hm
    have hsrc := hsrc w rfl
    refine ⟨goInt 0, w, ρ, ?_, .plain _ rfl, Step.nop hH rfl⟩
    have e : min k 0 = 0 := by omega
    rw [e] at hsrc
    have e2 : Nat.min k 0 = 0 := e
    simp only [Builtin.copy_, h0, a0, a1, Sem.run_bind, run_underlying hu, Result.andThen_ok, hlen, size_run hsz, e2, hsrc]
    rfl
  · rename_i a l c
    obtain ⟨r', rc, rfl, hcr, _, ha⟩ := hd.sliceSome
    have hm' : l = m := by simpa [lenA] using hm
    subst hm'
    have hsrc := hsrc w rfl
    split at h
    rotate_left
    · cases h
    rename_i hc
    split at h
    · rename_i hz0
      cases h
      have hnil : new' = [] := List.eq_nil_of_length_eq_zero (by rw [← hnr.1, hc.2.1, hz0])
      subst hnil
      refine ⟨_, w, ρ, ?_, .plain _ rfl, Step.nop hH rfl⟩
      simp only [Builtin.copy_, h0, a0, a1, Sem.run_bind, run_underlying hu, Result.andThen_ok, hlen, size_run hsz]
      change ((Sem.run P (Builtin.firstCells sz (min k l) x') w).andThen _) = _
      rw [hsrc]; rfl
    · rename_i hz0
      split at h
      · rename_i cs hg
        split at h
        · rename_i hle
          cases h
          obtain ⟨b, sh, e1, rfl⟩ := ha (by
            have : min k l ≠ 0 := fun e => hz0 (by rw [e, Nat.zero_mul])
            have := hc.1
            omega)
          obtain ⟨b', sh', w', e2, hst, hstep⟩ := store_sound (P := P) hH hg hnr (o := a.off) (by rw [hc.2.1]; exact hle) hc.2.2
          rw [e1] at e2; cases e2
          refine ⟨_, w', ρ, ?_, .plain _ rfl, hstep⟩
          simp only [Builtin.copy_, h0, a0, a1, Sem.run_bind, run_underlying hu, Result.andThen_ok, hlen, size_run hsz]
          change ((Sem.run P (Builtin.firstCells sz (min k l) x') w).andThen _) = _
          rw [hsrc]
          simp only [Result.andThen_ok, Sem.run_bind, hst]; rfl
        · cases h
      · cases h
  · cases h

/-! ### maps -/
theorem modL_rel {f g : MapEntry → MapEntry} : ∀ {es es' : List MapEntry} {i : Nat}, EsRel ρ es es' → (∀ e r, ERel ρ e r → ERel ρ (f e) (g r)) → EsRel ρ (modL f es i) (es'.modify i g)
  | [], es', i, h, _ => by rw [h.nil_inv]; simpa [modL] using EsRel.nil
  | e :: es, es', i, h, hf => by
    obtain ⟨r, l, rfl, h1, h2⟩ := h.cons_inv
    cases i with
    | zero => simpa [modL] using EsRel.cons (hf e r h1) h2
    | succ i => simpa [modL] using EsRel.cons h1 (modL_rel (i := i) h2 hf)
theorem delL_rel : ∀ {es es' : List MapEntry} {i : Nat}, EsRel ρ es es' → EsRel ρ (delL es i) (es'.eraseIdx i)
  | [], es', i, h => by rw [h.nil_inv]; simpa [delL] using EsRel.nil
  | e :: es, es', i, h => by
    obtain ⟨r, l, rfl, h1, h2⟩ := h.cons_inv
    cases i with
    | zero => simpa [delL] using h2
    | succ i => simpa [delL] using EsRel.cons h1 (delL_rel (i := i) h2)
theorem EsRel.snoc {es es' : List MapEntry} {e r : MapEntry} (h : EsRel ρ es es') (k : ERel ρ e r) : EsRel ρ (es ++ [e]) (es' ++ [r]) := by
  induction es generalizing es' with
  | nil => rw [h.nil_inv]; exact EsRel.cons k EsRel.nil
  | cons x es ih => obtain ⟨y, l, rfl, h1, h2⟩ := h.cons_inv; exact EsRel.cons h1 (ih h2)
theorem EsRel.get {es es' : List MapEntry} (h : EsRel ρ es es') {i : Nat} {e : MapEntry} (he : es[i]? = some e) : ∃ r, es'[i]? = some r ∧ ERel ρ e r := by
  have hlt := (List.getElem?_eq_some_iff.1 he).1
  exact ⟨es'[i]'(h.1 ▸ hlt), List.getElem?_eq_getElem _, h.2 i e _ he (List.getElem?_eq_getElem _)⟩
theorem setMap_run {w : World} {b : Nat} {es : Array MapEntry} {c : Nat} (h : w.heap[b]? = some (.map es c)) (o : Obj) : (setObj b o).run P w = .ok () { w with heap := w.heap.setIfInBounds b o } := by
  simp [setObj, Sem.run, h]
theorem turned_obj {w : World} {b : Nat} {r : Obj} (h : w.heap[b]? = some r) (o : Obj) (hc : clen r = clen o) : Turned w { w with heap := w.heap.setIfInBounds b o } b o := by
  have hlt := (Array.getElem?_eq_some_iff.1 h).1
  exact ⟨by simp, ⟨r, h, hc⟩, by simp [hlt], fun j hj => by simp [Ne.symm hj], ⟨rfl, rfl, rfl⟩⟩
theorem sameBits_plain {d : TypeDesc} {v : Value} (h : isKeyOf d v = true) : Instr.sameBits 10000 v v = true := by
  unfold isKeyOf at h
  split at h <;> first | (cases h; done) | skip
  · show (_ == _ && _ == _) = true; simp
  · show (_ == _) = true; rw [ba_beq]; simp
  · show (_ == _) = true; simp
/-- the key that stays is the key -/
theorem keyStays_run {d : TypeDesc} {k : Value} {w : World} (h : isKeyOf d k = true) : (Instr.keyThatStays k k).run P w = .ok k w := by
  have := sameBits_plain h
  simp only [Instr.keyThatStays, this, if_true]; rfl
/-- where a key is found it is that key -/
theorem find_key {d : TypeDesc} {k : Value} : ∀ {es : List MapEntry} {i j : Nat} {v : Value}, findA d k es i = some (some (j, v)) → ∃ e, es[j - i]? = some e ∧ i ≤ j ∧ e.val = v ∧ sameKey d k e.key = some true
  | [], i, j, v, h => by simp [findA] at h
  | x :: es, i, j, v, h => by
    simp only [findA] at h
    split at h
    · rename_i hs
      cases h
      exact ⟨x, by simp, Nat.le_refl _, rfl, hs⟩
    · obtain ⟨e, h1, h2, h3, h4⟩ := find_key h
      refine ⟨e, ?_, by omega, h3, h4⟩
      rw [show j - i = (j - (i + 1)) + 1 from by omega]; simpa using h1
    · cases h
theorem sameKey_eq {d : TypeDesc} {k u : Value} (h : sameKey d k u = some true) : u = k := by
  unfold sameKey at h
  split at h
  · rename_i j a j' b
    split at h
    · rename_i e
      subst e
      have : a = b := by simpa using h
      rw [this]
    · cases h
  · rename_i a b
    have e : a.data.toList = b.data.toList := by simpa using h
    congr 1
    exact ByteArray.ext (Array.ext' e.symm)
  · rename_i a b
    have : a = b := by simpa using h
    rw [this]
  · cases h
end
end Go.Ab
