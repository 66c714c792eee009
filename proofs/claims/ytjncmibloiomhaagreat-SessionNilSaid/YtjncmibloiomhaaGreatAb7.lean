/-
  Operations that touch no memory, the third part: structs, slices and places; all of them.
-/
import Derived.Test.YtjncmibloiomhaaGreatAb6
import Derived.Laws.Tables
namespace Go.Ab
section
variable {P : Program} {ρ : Loc}
theorem natOf_int {v : Value} {n : Nat} (h : natOf v = some n) : ∃ k, v = .int k (n : Int) := by
  unfold natOf at h
  split at h
  · cases h; exact ⟨_, rfl⟩
  · cases h
theorem natOf_rel {v r : Value} {n : Nat} (h : natOf v = some n) (hv : VRel ρ v r) : ∃ k, r = .int k (n : Int) := by
  obtain ⟨k, rfl⟩ := natOf_int h
  exact ⟨k, hv.int⟩
theorem places_sound : ∀ {fs : List Field} {pl : List (Nat × Nat)}, placesA P fs = some pl → ∀ w, (fs.mapM (fun f => do pure (f.offset, ← sizeOf f.type) : Field → Sem (Nat × Nat))).run P w = .ok pl w
  | [], pl, h, w => by simp only [placesA] at h; cases h; rfl
  | f :: fs, pl, h, w => by
    simp only [placesA] at h
    split at h
    · rename_i n r hn hr
      cases h
      simp only [List.mapM_cons, Sem.run_bind, size_run hn, Result.andThen_ok, Sem.run_pure, places_sound hr]
    · cases h
theorem partsOf_fst (e er : Operand → Value) (ps : Array (Nat × Operand)) : (partsOf e ps).map (·.1) = (ps.map fun (i, x) => (i, er x)).toList.map (·.1) := by
  unfold partsOf; simp
theorem partsOf_snd {e er : Operand → Value} {ps : Array (Nat × Operand)} (h : ∀ p ∈ ps.toList, VRel ρ (e p.2) (er p.2)) :
    LRel ρ ((partsOf e ps).map (·.2)) ((ps.map fun (i, x) => (i, er x)).toList.map (·.2)) := by
  unfold partsOf
  simp only [List.map_map, Array.toList_map]
  exact LRel.map _ _ _ h
theorem build_sound {t : TypeId} {e er : Operand → Value} {ps : Array (Nat × Operand)} {v : Value} (h : buildA P t (partsOf e ps) = some v) (hp : ∀ p ∈ ps.toList, VRel ρ (e p.2) (er p.2)) :
    ∃ r, VRel ρ v r ∧ ∀ w, (Instr.build t (ps.map fun (i, x) => (i, er x))).run P w = .ok r w := by
  unfold buildA at h
  split at h
  · cases h
  · rename_i z hz
    obtain ⟨hpl, hz⟩ := zero_run hz
    have hzr : LRel ρ z.cells.toList z.cells.toList := (VRel.ofPlain hpl).cells
    split at h
    · rename_i fs hu
      split at h
      · rename_i pl hpl
        split at h
        · rename_i cs hcs
          cases h
          obtain ⟨l', hl', hr⟩ := fill_sound (ρ := ρ) _ hcs hzr (partsOf_fst e er ps) (partsOf_snd hp)
          refine ⟨.agg l', .agg' hr, fun w => ?_⟩
          have hl2 : Instr.fill (fun i => pl.toArray[i]?) z.cells (ps.map fun (i, x) => (i, er x)).toList = some l' := by simpa using hl'
          simp only [Instr.build, Sem.run_bind, hz, Result.andThen_ok, run_underlying hu, Array.mapM_eq_mapM_toList, Sem.run_map, places_sound hpl, hl2]
          rfl
        · cases h
      · cases h
    · rename_i el hu
      split at h
      · rename_i n hn
        split at h
        · rename_i cs hcs
          cases h
          obtain ⟨l', hl', hr⟩ := fill_sound (ρ := ρ) _ hcs hzr (partsOf_fst e er ps) (partsOf_snd hp)
          refine ⟨.agg l', .agg' hr, fun w => ?_⟩
          simp only [Instr.build, Sem.run_bind, hz, Result.andThen_ok, run_underlying hu, size_run hn, hl']
          rfl
        · cases h
      · cases h
    · cases h

theorem bound_run {k : IntKind} {n y : Nat} {code : BoundsCode} (h : n ≤ y) (w : World) : (Instr.sliceBound (.int k (n : Int)) y code).run P w = .ok n w := by
  have : (0 : Int) ≤ (n : Int) ∧ (n : Int) ≤ (y : Int) := by omega
  simp [Instr.sliceBound, asIntOf, this]
theorem bounds_sound {isSlice : Bool} {len cap rc l h m : Nat} {sure sure' : Bool} {e er : Operand → Value} {lo hi mx : Option Operand}
    (hb : boundsA len cap sure (lo.map e) (hi.map e) (mx.map e) = some (l, h, m, sure')) (hlo : ∀ x ∈ lo, VRel ρ (e x) (er x)) (hhi : ∀ x ∈ hi, VRel ρ (e x) (er x)) (hmx : ∀ x ∈ mx, VRel ρ (e x) (er x))
    (hc : cap ≤ rc) (hs : sure = true → cap = rc) :
    ∃ m', m ≤ m' ∧ (sure' = true → m = m') ∧ l ≤ h ∧ h ≤ m ∧ m' ≤ rc ∧ ∀ w, (Instr.sliceBounds isSlice len rc (lo.map er) (hi.map er) (mx.map er)).run P w = .ok (l, h, m') w := by
  unfold boundsA at hb
  have hlow : ∀ {l' h' : Nat} (code : BoundsCode) (f : Nat → Sem (Nat × Nat × Nat)), (match lo.map e with | some l => natOf l | none => some 0) = some l' → l' ≤ h' →
      ∀ w, (match lo.map er with | some v => (do let l ← Instr.sliceBound v h' code; f l) | none => (do let l ← (pure 0 : Sem Nat); f l)).run P w = (f l').run P w := by
    intro l' h' code f hl hle w
    cases lo with
    | none => simp at hl; subst hl; rfl
    | some x =>
      obtain ⟨k, hk⟩ := natOf_rel hl (hlo x rfl)
      simp only [Option.map_some, hk, Sem.run_bind, bound_run hle, Result.andThen_ok]
  cases mx with
  | some x =>
    simp only [Option.map_some] at hb
    cases hi with
    | none => simp at hb
    | some y =>
      simp only [Option.map_some] at hb
      split at hb
      · rename_i m1 h1 hm1 hh1
        cases hh1
        split at hb
        · rename_i h2 hh2
          split at hb
          · rename_i l2 hl2
            split at hb
            · rename_i hcond
              cases hb
              obtain ⟨k1, hk1⟩ := natOf_rel hm1 (hmx x rfl)
              obtain ⟨k2, hk2⟩ := natOf_rel hh2 (hhi y rfl)
              refine ⟨m, Nat.le_refl _, fun _ => rfl, hcond.2.2, hcond.2.1, Nat.le_trans hcond.1 hc, fun w => ?_⟩
              simp only [Instr.sliceBounds, Option.map_some, hk1, hk2, Sem.run_bind, bound_run (Nat.le_trans hcond.1 hc), bound_run hcond.2.1, Result.andThen_ok]
              exact hlow _ (fun l => pure (l, h, m)) hl2 hcond.2.2 w
            · cases hb
          · cases hb
        · cases hb
      · cases hb
  | none =>
    simp only [Option.map_none] at hb
    split at hb
    · rename_i h2 hh2
      split at hb
      · rename_i l2 hl2
        split at hb
        · rename_i hcond
          cases hb
          refine ⟨rc, hc, hs, hcond.2, hcond.1, Nat.le_refl _, fun w => ?_⟩
          cases hi with
          | none =>
            simp at hh2; subst hh2
            simp only [Instr.sliceBounds, Option.map_none, Sem.run_bind, Sem.run_pure, Result.andThen_ok]
            exact hlow _ (fun l => pure (l, len, rc)) hl2 hcond.2 w
          | some y =>
            obtain ⟨k2, hk2⟩ := natOf_rel hh2 (hhi y rfl)
            simp only [Instr.sliceBounds, Option.map_none, Option.map_some, hk2, Sem.run_bind, Sem.run_pure, bound_run (Nat.le_trans hcond.1 hc), Result.andThen_ok]
            exact hlow _ (fun l => pure (l, h, rc)) hl2 hcond.2 w
        · cases hb
      · cases hb
    · cases hb
theorem add_at (b o n : Nat) : (⟨b, o, none⟩ : Addr).add n = ⟨b, o + n, none⟩ := by unfold Addr.add; split <;> simp_all
theorem spot_none {s : Bool} {z : Nat} (h : spotOf s z = none) : s = true := by cases s <;> simp [spotOf] at h ⊢
theorem spot_some {s : Bool} {z y : Nat} (h : spotOf s z = some y) : s = false ∧ z = y := by cases s <;> simp [spotOf] at h ⊢; exact h
theorem bounds_sure {len cap l h m : Nat} {sure : Bool} {lo hi mx : Option Value} (hb : boundsA len cap true lo hi mx = some (l, h, m, sure)) : sure = true := by
  unfold boundsA at hb
  repeat' split at hb
  all_goals first | (cases hb; done) | (cases hb; rfl)
theorem slice_sound {t : TypeId} {x x' v : Value} {e er : Operand → Value} {lo hi mx : Option Operand} (h : sliceA P t x (lo.map e) (hi.map e) (mx.map e) = some v) (hx : VRel ρ x x')
    (hlo : ∀ x ∈ lo, VRel ρ (e x) (er x)) (hhi : ∀ x ∈ hi, VRel ρ (e x) (er x)) (hmx : ∀ x ∈ mx, VRel ρ (e x) (er x)) :
    ∃ r, VRel ρ v r ∧ ∀ w, (Instr.sliceAt t x' (lo.map er) (hi.map er) (mx.map er)).run P w = .ok r w := by
  unfold sliceA at h
  split at h
  · rename_i n el a hu
    split at h
    · rename_i s l hh m sure hs hb
      split at h
      · rename_i hsp
        cases h
        obtain ⟨a', rfl, _, b, sh, e1, rfl⟩ := hx.ptrSome
        obtain ⟨m', hm1, hm2, hm3, hm4, hm5, hrun⟩ := bounds_sound (P := P) (isSlice := false) hb hlo hhi hmx (Nat.le_refl n) (fun _ => rfl)
        refine ⟨.slice (some (if m' = l then ⟨b, sh + a.off, none⟩ else (⟨b, sh + a.off, none⟩ : Addr).add (l * s))) (hh - l) (m' - l), ?_, fun w => ?_⟩
        · refine .slice (by omega) (fun hsp => ?_) (fun hlt => ⟨b, sh, e1, ?_⟩) (fun z hz => ?_)
          · have := hm2 (spot_none hsp); omega
          · rw [if_neg (by omega), add_at]; simp [Nat.add_assoc]
          · have := (spot_some hz).1; rw [bounds_sure hb] at this; cases this
        · simp only [Instr.sliceAt, Sem.run_bind, run_underlying hu, Instr.sureAddr, Sem.run_pure, Result.andThen_ok, hrun, size_run hs]
      · cases h
    · cases h
  · rename_i s hu
    split at h
    · rename_i l hh m sure hmx0 hb
      cases h
      rw [hx.string]
      cases mx with
      | some x => simp at hmx0
      | none =>
        obtain ⟨m', hm1, hm2, hm3, hm4, hm5, hrun⟩ := bounds_sound (P := P) (er := er) (mx := none) (isSlice := false) hb hlo hhi (fun _ h => by cases h) (Nat.le_refl s.data.toList.length) (fun _ => rfl)
        refine ⟨_, .plain _ rfl, fun w => ?_⟩
        have hsz : s.size = s.data.toList.length := rfl
        have he : s.extract l hh = ⟨⟨(s.data.toList.drop l).take (hh - l)⟩⟩ := by
          apply ByteArray.ext; apply Array.ext'
          simp [ByteArray.data_extract, List.extract]
        simp only [Option.map_none] at hrun
        simp only [Instr.sliceAt, Instr.slice, Sem.run_bind, run_underlying hu, Result.andThen_ok, Option.map_none, Option.isSome_none, Bool.false_eq_true, if_false, hsz, hrun, Sem.run_pure, he]
    · cases h
  · rename_i el hu
    split at h
    · rename_i s p hs hb
      cases h
      obtain ⟨rfl, _, _⟩ := hx.sliceNone
      obtain ⟨l, hh, m, sure⟩ := p
      obtain ⟨m', hm1, hm2, hm3, hm4, hm5, hrun⟩ := bounds_sound (P := P) (isSlice := true) hb hlo hhi hmx (Nat.le_refl 0) (fun _ => rfl)
      have hz : m' = 0 ∧ l = 0 ∧ hh = 0 := by omega
      obtain ⟨rfl, rfl, rfl⟩ := hz
      refine ⟨_, .plain _ rfl, fun w => ?_⟩
      simp [Instr.sliceAt, Instr.slice, run_underlying hu, hrun, size_run hs]
    · cases h
  · rename_i el a n c hu
    split at h
    · rename_i s l hh m sure hs hb
      split at h
      rotate_left
      · cases h
      rename_i hsz
      cases h
      obtain ⟨a', rc, rfl, hc, he, ha, hz⟩ := hx.sliceSome2
      obtain ⟨m', hm1, hm2, hm3, hm4, hm5, hrun⟩ := bounds_sound (P := P) (isSlice := true) hb hlo hhi hmx hc (fun k => he (by simpa using k))
      refine ⟨.slice (some (if m' = l then a' else a'.add (l * s))) (hh - l) (m' - l), ?_, fun w => ?_⟩
      · refine .slice (by omega) (fun hsp => ?_) (fun hlt => ?_) (fun z hz' hlt => ?_)
        rotate_left 2
        · obtain ⟨e3, rfl⟩ := spot_some hz'
          obtain ⟨b, sh, e1, rfl⟩ := ha (by omega)
          have h1 := hz s (by rcases hsz with h | h; (rw [e3] at h; cases h); exact h) (by omega)
          rw [if_neg (by omega), add_at]
          have h2 : l * s + (m' - l) * s = m' * s := by rw [← Nat.add_mul]; congr 1; omega
          have h3 : m' * s ≤ rc * s := Nat.mul_le_mul_right _ hm5
          simp at h1 ⊢; omega
        · have := hm2 (spot_none hsp); omega
        · obtain ⟨b, sh, e1, rfl⟩ := ha (by omega)
          refine ⟨b, sh, e1, ?_⟩
          rw [if_neg (by omega), add_at]; simp [Nat.add_assoc]
      · simp only [Instr.sliceAt, Instr.slice, Sem.run_bind, run_underlying hu, Sem.run_pure, Result.andThen_ok, hrun, size_run hs]
        split <;> simp [*]
    · cases h
  · cases h
end
end Go.Ab
