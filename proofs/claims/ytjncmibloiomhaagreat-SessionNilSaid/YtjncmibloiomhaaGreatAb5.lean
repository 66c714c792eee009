/-
  Operations that touch no memory: what the evaluator says of them is what the machine's do.
-/
import Derived.Test.YtjncmibloiomhaaGreatAb4
import Derived.DeepKeys
namespace Go.Ab

theorem wrapA_eq (k : IntKind) (n : Int) : wrapA k n = k.wrap n := by
  cases k <;> simp [wrapA, IntKind.wrap, IntKind.bits, IntKind.signed, Int.emod_def, HMod.hMod, Mod.mod] <;> rfl
theorem bd {α : Type} [BEq α] [LawfulBEq α] [DecidableEq α] (a b : α) : (a == b) = decide (a = b) := by rw [Bool.eq_iff_iff]; simp
theorem ba_toList (s : ByteArray) : s.toList = s.data.toList := ByteArray.toList_eq s

section
variable {P : Program} {ρ : Loc}
theorem bits_sound {op : BinOp} {k : IntKind} {x y : Int} {v : Value} (h : bitsA op k x y = some v) : VRel ρ v v ∧ ∀ w, (Op.intBits op k x y).run P w = .ok v w := by
  unfold bitsA at h
  cases op <;> simp at h <;> subst h <;> simp [Op.intBits, wrapA_eq] <;> exact .plain _ rfl
theorem shift_sound {op : BinOp} {k yk : IntKind} {x y : Int} {v : Value} (h : shiftA op k x y = some v) : VRel ρ v v ∧ ∀ w, (Op.shift op k x yk y).run P w = .ok v w := by
  unfold shiftA at h
  cases y with
  | negSucc y => simp at h
  | ofNat y =>
    have h0 : ¬ ((Int.ofNat y) < 0) := by simp
    cases op <;> simp at h <;> subst h <;> refine ⟨.plain _ rfl, fun w => ?_⟩ <;> simp only [Op.shift, h0, if_false] <;> simp [wrapA_eq]
theorem int_sound {op : BinOp} {k : IntKind} {x y : Int} {v : Value} (hs : op ≠ .shl ∧ op ≠ .shr) (t : TypeId) (h : intA op k x y = some v) : VRel ρ v v ∧ ∀ w, (binOp op t (.int k x) (.int k y)).run P w = .ok v w := by
  unfold intA at h
  cases op <;> simp only [] at h
  case add | sub | mul => cases h; simp [binOp, Op.intArith, wrapA_eq]; exact .plain _ rfl
  case quo | rem =>
    split at h
    · cases h
    · rename_i hy
      cases h; simp [binOp, Op.intDiv, wrapA_eq, hy]; exact .plain _ rfl
  case and | or | xor | andNot =>
    have := bits_sound (P := P) (ρ := ρ) h
    simpa [binOp] using this
  case eql | neq => cases h; exact ⟨.plain _ rfl, fun w => by simp only [binOp]; simp [Op.intCmp]; rfl⟩
  case lss | leq | gtr | geq => cases h; exact ⟨.plain _ rfl, fun w => by simp [binOp, Op.intCmp]⟩
  all_goals first | cases h; done | simp at hs
theorem str_sound {op : BinOp} {x y : ByteArray} {v : Value} (t : TypeId) (h : strA op x y = some v) : VRel ρ v v ∧ ∀ w, (binOp op t (.string x) (.string y)).run P w = .ok v w := by
  unfold strA at h
  cases op <;> simp only [] at h
  case add =>
    split at h
    · rename_i hl
      cases h
      have e : (⟨⟨x.data.toList ++ y.data.toList⟩⟩ : ByteArray) = x ++ y := by
        apply ByteArray.ext; apply Array.ext'; simp
      rw [e]
      refine ⟨.plain _ rfl, fun w => ?_⟩
      have hx : x.size = x.data.toList.length := rfl
      have hy : y.size = y.data.toList.length := rfl
      have : ¬ (((x.size + y.size : Nat) : Int) > IntKind.i64.max) := by
        rw [hx, hy]; simp [IntKind.max, IntKind.bits, IntKind.signed] at *; omega
      simp only [binOp, Op.stringOp]
      simp only [this, if_false]; rfl
    · cases h
  case eql | neq => cases h; exact ⟨.plain _ rfl, fun w => by simp only [binOp, Op.stringOp, ba_toList, bd]; rfl⟩
  all_goals cases h
theorem plain_eq {v r : Value} (h : VRel ρ v r) (hp : plain0 v = true) : r = v := by
  cases h <;> first | rfl | (simp [plain0] at hp)
theorem plain_list {l l' : List Value} (h : LRel ρ l l') (hp : l.all plain0 = true) : l' = l := by
  induction l generalizing l' with
  | nil => exact h.nil_inv
  | cons v l ih =>
    obtain ⟨r, l'', rfl, hv, hl⟩ := h.cons_inv
    simp only [List.all_cons, Bool.and_eq_true] at hp
    rw [plain_eq hv hp.1, ih hl hp.2]
theorem litEq_iff (a b : Lit) : litEq a b = true ↔ a = b := by
  cases a <;> cases b <;> simp [litEq]
theorem litsEq_iff (a b : List Lit) : litsEq a b = true ↔ a = b := by
  induction a generalizing b with
  | nil => cases b <;> simp [litsEq]
  | cons x a ih => cases b <;> simp [litsEq, litEq_iff, ih]
theorem size_info {t : TypeId} {n : Nat} (h : sizeT P t = some n) : ∃ i, P.info? t = some i ∧ i.size = n := by
  unfold sizeT at h
  split at h
  · rename_i i hi; cases h; exact ⟨i, hi, rfl⟩
  · cases h
theorem size_run {t : TypeId} {n : Nat} (h : sizeT P t = some n) (w : World) : (sizeOf t).run P w = .ok n w := by
  obtain ⟨i, hi, rfl⟩ := size_info h
  simp [sizeOf, typeInfo, hi]
theorem bytes_run {t : TypeId} {n : Nat} (h : bytesT P t = some n) (w : World) : ∃ i, (typeInfo t).run P w = .ok i w ∧ i.bytes = n := by
  unfold bytesT at h
  split at h
  · rename_i i hi; cases h; exact ⟨i, by simp [typeInfo, hi], rfl⟩
  · cases h
theorem zero_run {t : TypeId} {z : Value} (h : zeroT P t = some z) : plainV z = true ∧ ∀ w, (zeroValue t).run P w = .ok z w := by
  unfold zeroT at h
  split at h
  · rename_i i hi
    split at h
    · rename_i v hv
      split at h
      · rename_i hp; cases h; exact ⟨hp, fun w => by simp [zeroValue, typeInfo, hi, hv]⟩
      · cases h
    · cases h
  · cases h
theorem isAgg_run {t : TypeId} {b : Bool} (h : isAggT P t = some b) (w : World) : (isAgg t).run P w = .ok b w := by
  unfold isAggT at h
  split at h <;> cases h <;> rename_i hu <;> simp [isAgg, run_underlying hu]
theorem ba_beq (a b : ByteArray) : (a == b) = decide (a.data.toList = b.data.toList) := by
  cases a; cases b
  rename_i a b
  show (a == b) = _
  rw [bd, decide_eq_decide]
  exact ⟨fun e => by rw [e], fun e => Array.ext' e⟩
theorem sameList {s t : ByteArray} : (s.toList == t.toList) = decide (s.data.toList = t.data.toList) := by rw [ba_toList, ba_toList, bd]
theorem eq_sound_at (d : Nat) (h8 : 8 ≤ d) {t : TypeId} {x y x' y' : Value} {r : Bool} (h : eqA P t x y = some r) (hx : VRel ρ x x') (hy : VRel ρ y y') (w : World) : (Op.equalIn (d + 1) t x' y').run P w = .ok r w := by
  unfold eqA at h
  split at h
  case h_1 hu => cases h; rw [hx.bool, hy.bool]; simp [Op.equalIn, run_underlying hu]
  case h_2 hu =>
    split at h
    · rename_i e; subst e; cases h; rw [hx.int, hy.int]; simp [Op.equalIn, run_underlying hu, bd]
    · cases h
  case h_3 hu => cases h; rw [hx.string, hy.string]; simp only [Op.equalIn, Sem.run_bind, run_underlying hu, Result.andThen_ok, Sem.run_pure]; rw [ba_beq]
  case h_4 hu =>
    cases h; rw [hx.ptrNone]
    cases hy with
    | plain v h => simp [Op.equalIn, run_underlying hu]
    | ptr hs h => simp [Op.equalIn, run_underlying hu]
  case h_5 hu => cases h; rw [hy.ptrNone]; obtain ⟨r', rfl, _, _⟩ := hx.ptrSome; simp [Op.equalIn, run_underlying hu]
  case h_6 hu =>
    split at h
    · rename_i n hn
      split at h
      · rename_i hb
        cases h
        obtain ⟨a', rfl, _, b1, s1, e1, rfl⟩ := hx.ptrSome
        obtain ⟨b', rfl, _, b2, s2, e2, rfl⟩ := hy.ptrSome
        rw [hb.1, e2] at e1; cases e1
        simp only [Op.equalIn, Sem.run_bind, run_underlying hu, Result.andThen_ok, size_run hn]
        have e0 : ∀ (a b : Addr), (a == b) = decide (a = b) := fun _ _ => rfl
        simp [sameAddr, e0]
        rw [Bool.eq_iff_iff, Tr.beq_iff]; simp
      · cases h
    · cases h
  case h_7 hu => cases h; rw [hx.nilIface, hy.nilIface]; simp [Op.equalIn, run_underlying hu]
  case h_8 hu => cases h; rw [hx.nilIface]; obtain ⟨r', rfl, _⟩ := hy.ifaceSome; simp [Op.equalIn, run_underlying hu]
  case h_9 hu => cases h; rw [hy.nilIface]; obtain ⟨r', rfl, _⟩ := hx.ifaceSome; simp [Op.equalIn, run_underlying hu]
  case h_10 hu =>
    cases h; obtain ⟨rfl, _, _⟩ := hx.sliceNone
    cases hy with
    | plain v h => simp [Op.equalIn, run_underlying hu]
    | slice hs h => simp [Op.equalIn, run_underlying hu]
  case h_11 hu => cases h; obtain ⟨rfl, _, _⟩ := hy.sliceNone; obtain ⟨_, _, rfl, _⟩ := hx.sliceSome; simp [Op.equalIn, run_underlying hu]
  case h_12 hu =>
    cases h; rw [hx.mapNone]
    cases hy with
    | plain v h => simp [Op.equalIn, run_underlying hu]
    | map h => simp [Op.equalIn, run_underlying hu]
  case h_13 hu => cases h; rw [hy.mapNone]; obtain ⟨_, rfl, _⟩ := hx.mapSome; simp [Op.equalIn, run_underlying hu]
  case h_14 hu => cases h; rw [hx.nilFunc, hy.nilFunc]; simp [Op.equalIn, run_underlying hu]
  case h_15 hu => cases h; rw [hx.nilFunc]; obtain ⟨_, _, _, rfl, _⟩ := hy.funcSome; simp [Op.equalIn, run_underlying hu]
  case h_16 hu => cases h; rw [hy.nilFunc]; obtain ⟨_, _, _, rfl, _⟩ := hx.funcSome; simp [Op.equalIn, run_underlying hu]
  case h_17 | h_18 =>
    split at h
    · rename_i hk
      split at h
      · rename_i a b ha hb
        split at h
        · rename_i hf
          cases h
          obtain ⟨xs', rfl, hx'⟩ := hx.aggSome
          obtain ⟨ys', rfl, hy'⟩ := hy.aggSome
          obtain rfl : xs' = _ := Array.ext' (plain_list hx' hk.2.1)
          obtain rfl : ys' = _ := Array.ext' (plain_list hy' hk.2.2)
          obtain ⟨r, hr, hi⟩ := run_equalIn_deep (d - 7) 8 t hk.1 w 8 8 _ _ a b hf.1 hf.2 ha hb
          rw [show d + 1 = d - 7 + 8 from by omega, hr]
          congr 1
          rw [Bool.eq_iff_iff, hi, litsEq_iff]
        · cases h
      · cases h
    · cases h
  case h_19 => cases h
theorem eq_sound {t : TypeId} {x y x' y' : Value} {r : Bool} (h : eqA P t x y = some r) (hx : VRel ρ x x') (hy : VRel ρ y y') (w : World) : (Op.equal t x' y').run P w = .ok r w :=
  eq_sound_at 9999 (by omega) h hx hy w
end
end Go.Ab
