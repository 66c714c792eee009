/-
  Operations that touch no memory, the second part: whole operations.
-/
import Derived.Test.YtjncmibloiomhaaGreatAb5
namespace Go.Ab
section
variable {P : Program} {ρ : Loc}
theorem VRel.nilIface' {a : Value} (h : VRel ρ a .nilIface) (hn : ∀ i, a ≠ .chan (some i)) : a = .nilIface := by cases h <;> first | rfl | exact absurd rfl (hn _)
theorem VRel.agg'' {a : Value} {c : Array Value} (h : VRel ρ a (.agg c)) (hn : ∀ i, a ≠ .chan (some i)) : ∃ c', a = .agg c' := by
  cases h with
  | any _ _ => exact absurd rfl (hn _)
  | plain _ h => simp [plain0] at h
  | agg => exact ⟨_, rfl⟩
theorem guard_sound {op : BinOp} {t : TypeId} {x y : Operand} {a b a' b' : Value} (h : eqGuardA P t x y a b = true) (hna : ∀ i, a ≠ .chan (some i)) (hnb : ∀ i, b ≠ .chan (some i)) (ha : VRel ρ a a') (hb : VRel ρ b b') (w : World) :
    (eqGuard op t x y a' b').run P w = .ok () w := by
  unfold eqGuard
  rw [Sem.run_ite]
  split <;> simp only [Bool.not_true, Bool.false_eq_true, if_false, Bool.not_false, if_true, Sem.run_pure]
  all_goals
    split
    · obtain rfl := ha.nilIface' hna; obtain rfl := hb.nilIface' hnb
      unfold eqGuardA at h
      simp only [] at h
      split at h
      · simp
      · cases x <;> simp
      · cases h
    · obtain ⟨_, rfl⟩ := ha.agg'' hna; obtain ⟨_, rfl⟩ := hb.agg'' hnb
      unfold eqGuardA at h
      simp at h
      simp [h]
    · rfl
theorem guard_other {op : BinOp} {t : TypeId} {x y : Operand} {a b : Value} (h : ∀ (c d : Array Value), ¬ (a = .agg c ∧ b = .agg d)) (h' : ¬ (a = .nilIface ∧ b = .nilIface)) (w : World) :
    (eqGuard op t x y a b).run P w = .ok () w := by
  unfold eqGuard
  rw [Sem.run_ite]
  split <;> simp only [Bool.not_true, Bool.false_eq_true, if_false, Bool.not_false, if_true, Sem.run_pure]
  all_goals
    split
    · exact absurd ⟨rfl, rfl⟩ h'
    · exact absurd ⟨rfl, rfl⟩ (h _ _)
    · rfl
theorem bin_eql {t : TypeId} {a b : Value} (hf : ∀ k n, a ≠ .float k n) (hc : ∀ k n m, a ≠ .complex k n m) (hi : ∀ k n k' m, ¬ (a = .int k n ∧ b = .int k' m)) (hs : ∀ s s', ¬ (a = .string s ∧ b = .string s')) :
    binOp .eql t a b = (do pure (.bool (← Op.equal t a b))) ∧ binOp .neq t a b = (do pure (.bool (!(← Op.equal t a b)))) := by
  cases a <;> cases b <;> first | exact ⟨rfl, rfl⟩ | (exact absurd ⟨rfl, rfl⟩ (hi _ _ _ _)) | (exact absurd ⟨rfl, rfl⟩ (hs _ _)) | (exact absurd rfl (hf _ _)) | (exact absurd rfl (hc _ _ _))
theorem VRel.noFloat {a : Value} {k : FloatKind} {n : Nat} (h : VRel ρ a (.float k n)) (hn : ∀ i, a ≠ .chan (some i)) : False := by cases h with | plain _ h => simp [plain0] at h | any _ _ => exact absurd rfl (hn _)
theorem VRel.noComplex {a : Value} {k : FloatKind} {n m : Nat} (h : VRel ρ a (.complex k n m)) (hn : ∀ i, a ≠ .chan (some i)) : False := by cases h with | plain _ h => simp [plain0] at h | any _ _ => exact absurd rfl (hn _)
theorem VRel.int' {a : Value} {k : IntKind} {n : Int} (h : VRel ρ a (.int k n)) (hn : ∀ i, a ≠ .chan (some i)) : a = .int k n := by cases h <;> first | rfl | exact absurd rfl (hn _)
theorem VRel.string' {a : Value} {s : ByteArray} (h : VRel ρ a (.string s)) (hn : ∀ i, a ≠ .chan (some i)) : a = .string s := by cases h <;> first | rfl | exact absurd rfl (hn _)
theorem eqA_clear {t : TypeId} {a b : Value} {r : Bool} (h : eqA P t a b = some r) : (∀ i, a ≠ .chan (some i)) ∧ (∀ i, b ≠ .chan (some i)) := by
  unfold eqA at h
  split at h <;> first | (cases h; done) | exact ⟨(fun _ e => by cases e), (fun _ e => by cases e)⟩
theorem bin_sound {op : BinOp} {t : TypeId} {x y : Operand} {a b a' b' v : Value} (h : binA P op t x y a b = some v) (ha : VRel ρ a a') (hb : VRel ρ b b') :
    VRel ρ v v ∧ ∀ w, (do eqGuard op t x y a' b'; binOp op t a' b' : Sem Value).run P w = .ok v w := by
  unfold binA at h
  split at h
  · rename_i k n k' m
    rw [ha.int, hb.int]
    have hg : ∀ w, (eqGuard op t x y (.int k n) (.int k' m)).run P w = .ok () w := fun w => guard_other (by simp) (by simp) w
    split at h
    · have := shift_sound (P := P) (ρ := ρ) (yk := k') h
      refine ⟨this.1, fun w => ?_⟩
      rw [Sem.run_bind, hg w]; exact this.2 w
    · have := shift_sound (P := P) (ρ := ρ) (yk := k') h
      refine ⟨this.1, fun w => ?_⟩
      rw [Sem.run_bind, hg w]; exact this.2 w
    · rename_i h1 h2
      split at h
      · rename_i e; subst e
        have := int_sound (P := P) (ρ := ρ) ⟨h1, h2⟩ t h
        refine ⟨this.1, fun w => ?_⟩
        rw [Sem.run_bind, hg w]; exact this.2 w
      · cases h
  · rename_i s s'
    rw [ha.string, hb.string]
    have := str_sound (P := P) (ρ := ρ) t h
    refine ⟨this.1, fun w => ?_⟩
    rw [Sem.run_bind, guard_other (by simp) (by simp)]; exact this.2 w
  · rename_i hni hns
    have hbin := fun (hna : ∀ i, a ≠ .chan (some i)) (hnb : ∀ i, b ≠ .chan (some i)) => bin_eql (t := t) (a := a') (b := b') (fun k n e => by subst e; exact ha.noFloat hna) (fun k n m e => by subst e; exact ha.noComplex hna)
      (fun k n k' m e => by obtain ⟨e1, e2⟩ := e; subst e1 e2; exact hni _ _ _ _ (ha.int' hna) (hb.int' hnb))
      (fun s s' e => by obtain ⟨e1, e2⟩ := e; subst e1 e2; exact hns _ _ (ha.string' hna) (hb.string' hnb))
    split at h
    · split at h
      · rename_i hg
        split at h
        · rename_i r hr
          cases h
          obtain ⟨hna, hnb⟩ := eqA_clear hr
          refine ⟨.plain _ rfl, fun w => ?_⟩
          rw [Sem.run_bind, guard_sound hg hna hnb ha hb, Result.andThen_ok, (hbin hna hnb).1]
          simp [eq_sound hr ha hb]
        · cases h
      · cases h
    · split at h
      · rename_i hg
        split at h
        · rename_i r hr
          cases h
          obtain ⟨hna, hnb⟩ := eqA_clear hr
          refine ⟨.plain _ rfl, fun w => ?_⟩
          rw [Sem.run_bind, guard_sound hg hna hnb ha hb, Result.andThen_ok, (hbin hna hnb).2]
          simp [eq_sound hr ha hb]
        · cases h
      · cases h
    · cases h
theorem un_sound {op : UnOp} {x x' v : Value} (h : unA op x = some v) (hx : VRel ρ x x') : VRel ρ v v ∧ ∀ w, (Op.unary op x').run P w = .ok v w := by
  unfold unA at h
  split at h
  · cases h; rw [hx.int]; exact ⟨.plain _ rfl, fun w => by simp [Op.unary, Op.intArith, wrapA_eq]⟩
  · rw [hx.int]; exact bits_sound h
  · cases h; rw [hx.bool]; exact ⟨.plain _ rfl, fun w => by simp [Op.unary]⟩
  · cases h

theorem cut_rel {c l c' : List Value} {off n : Nat} (h : cut c off n = some l) (hc : LRel ρ c c') : LRel ρ l ((c'.drop off).take n) ∧ off + n ≤ c'.length ∧ l.length = n := by
  unfold cut at h
  split at h
  · rename_i hl
    cases h
    exact ⟨(hc.drop off).take n, hc.1 ▸ hl, by simp; omega⟩
  · cases h
theorem part_sound {t : TypeId} {c : List Value} {c' : Array Value} {off : Nat} {v : Value} (h : partA P t c off = some v) (hc : LRel ρ c c'.toList) :
    ∃ r, VRel ρ v r ∧ ∀ w, (part t c' off).run P w = .ok r w := by
  unfold partA at h
  split at h
  · rename_i n ha hs
    split at h
    · rename_i l hl
      cases h
      obtain ⟨hr, hle, _⟩ := cut_rel hl hc
      refine ⟨.agg (c'.extract off (off + n)), .agg' ?_, fun w => by simp [part, isAgg_run ha, size_run hs]⟩
      rw [Array.toList_extract]
      simpa [List.extract] using hr
    · cases h
  · rename_i n ha hs
    obtain ⟨r, hr, hv⟩ := hc.get h
    refine ⟨r, hv, fun w => ?_⟩
    have : c'[off]? = some r := by simpa using hr
    simp [part, isAgg_run ha, this]
  · cases h

/-! ### filling -/
theorem lay_set (c : List Value) (p : Nat) (v : Value) (vs : List Value) (h : p < c.length) : lay (c.set p v) (p + 1) vs = lay c p (v :: vs) := by
  unfold lay
  rw [List.set_eq_take_append_cons_drop, if_pos h]
  have hl : (c.take p).length = p := by simp; omega
  have e1 : (c.take p ++ v :: c.drop (p + 1)).take (p + 1) = c.take p ++ [v] := by
    rw [List.take_append, hl, List.take_of_length_le (by omega), show p + 1 - p = 1 from by omega]; rfl
  have e2 : (c.take p ++ v :: c.drop (p + 1)).drop (p + 1 + vs.length) = c.drop (p + (v :: vs).length) := by
    rw [List.drop_append, hl, List.drop_eq_nil_of_le (by omega), show p + 1 + vs.length - p = vs.length + 1 from by omega, List.nil_append, List.drop_succ_cons, List.drop_drop]
    congr 1; simp; omega
  rw [e1, e2]; simp
theorem setAll_eq (off : Nat) : ∀ (vs : List Value) (j : Nat) (cs : Array Value), ((vs.zipIdx j).foldl (fun (cs : Array Value) (x : Value × Nat) => cs.setIfInBounds (off + x.2) x.1) cs).toList.length = cs.toList.length ∧
    (off + j + vs.length ≤ cs.toList.length → ((vs.zipIdx j).foldl (fun (cs : Array Value) (x : Value × Nat) => cs.setIfInBounds (off + x.2) x.1) cs).toList = lay cs.toList (off + j) vs) := by
  intro vs
  induction vs with
  | nil => intro j cs; simp [lay]
  | cons v vs ih =>
    intro j cs
    simp only [List.zipIdx_cons, List.foldl_cons, List.length_cons]
    obtain ⟨h1, h2⟩ := ih (j + 1) (cs.setIfInBounds (off + j) v)
    refine ⟨by rw [h1]; simp, fun hl => ?_⟩
    rw [h2 (by simp at hl ⊢; omega)]
    simp at hl
    rw [Array.toList_setIfInBounds]
    exact lay_set _ _ _ _ (by simp; omega)
theorem fill_sound (place : Nat → Option (Nat × Nat)) : ∀ {ps ps' : List (Nat × Value)} {c : List Value} {c' : Array Value} {l : List Value}, fillA place ps c = some l → LRel ρ c c'.toList →
    ps.map (·.1) = ps'.map (·.1) → LRel ρ (ps.map (·.2)) (ps'.map (·.2)) → ∃ l', Instr.fill place c' ps' = some l' ∧ LRel ρ l l'.toList
  | [], [], c, c', l, h, hc, _, _ => by
    simp only [fillA] at h; cases h; exact ⟨c', rfl, hc⟩
  | (i, v) :: ps, (i', v') :: ps', c, c', l, h, hc, he, hv => by
    simp only [List.map_cons, List.cons.injEq] at he hv
    obtain ⟨rfl, he⟩ := he
    simp only [fillA] at h
    split at h
    · cases h
    · rename_i off size hp
      split at h
      · rename_i hs
        have hcells := hv.head.cells
        obtain ⟨h1, h2⟩ := setAll_eq off v'.cells.toList 0 c'
        have hsz : v'.cells.toList.length = size := by rw [← hcells.1]; exact hs.1
        have hle : off + size ≤ c'.toList.length := by rw [← hc.1]; exact hs.2
        obtain ⟨l', hl', hr⟩ := fill_sound place (ps := ps) (ps' := ps') h (c' := v'.cells.zipIdx.foldl (fun cs (c, j) => cs.setIfInBounds (off + j) c) c') (by
          have e : (v'.cells.zipIdx.foldl (fun cs (c, j) => cs.setIfInBounds (off + j) c) c').toList = lay c'.toList off v'.cells.toList := by
            have := h2 (by omega)
            rw [← Array.foldl_toList, Array.toList_zipIdx]
            simpa using this
          rw [e]; exact hc.lay hcells off) he hv.tail
        refine ⟨l', ?_, hr⟩
        simp only [Instr.fill, hp]
        rw [if_neg, hl']
        simp at hsz hle ⊢
        omega
      · cases h
  | [], _ :: _, _, _, _, _, _, he, _ => by simp at he
  | _ :: _, [], _, _, _, _, _, he, _ => by simp at he
end
end Go.Ab
