/-
  All operations that touch no memory.
-/
import Derived.Test.YtjncmibloiomhaaGreatAb7
namespace Go.Ab
section
variable {P : Program} {ρ : Loc}
theorem fields_und {t : TypeId} {fs : List Field} (h : fieldsA P t = some fs) : ∃ a : Array Field, P.underlying t = some (.struct a) ∧ a.toList = fs := by
  unfold fieldsA at h
  split at h
  · cases h; exact ⟨_, ‹_›, rfl⟩
  · cases h
theorem fieldAddr_sound {t : TypeId} {x x' v : Value} {i : Nat} (h : fieldAddrA P t x i = some v) (hx : VRel ρ x x') : ∃ r, VRel ρ v r ∧ ∀ w, (Instr.fieldAt t x' i).run P w = .ok r w := by
  unfold fieldAddrA at h
  split at h
  · rename_i fs a hf
    obtain ⟨fa, hu, rfl⟩ := fields_und hf
    split at h
    · rename_i f hfi
      split at h
      · rename_i n hn
        split at h
        · rename_i hsp
          cases h
          obtain ⟨a', rfl, _, b, sh, e1, rfl⟩ := hx.ptrSome
          refine ⟨_, .ptr (r := ⟨b, sh + a.off + f.offset, none⟩) rfl ⟨b, sh, e1, by simp [Nat.add_assoc]⟩, fun w => ?_⟩
          have : fa[i]? = some f := by simpa using hfi
          simp [Instr.fieldAt, run_underlying hu, this, Instr.sureAddr, fieldPlace, size_run hn, add_at]
        · cases h
      · cases h
    · cases h
  · cases h
theorem indexAddr_sound {t : TypeId} {x x' i i' v : Value} (h : indexAddrA P t x i = some v) (hx : VRel ρ x x') (hi : VRel ρ i i') : ∃ r, VRel ρ v r ∧ ∀ w, (Instr.indexAt t x' i').run P w = .ok r w := by
  unfold indexAddrA at h
  split at h
  · rename_i n el a i0 hu hn
    split at h
    · rename_i s hs
      split at h
      · rename_i hc
        cases h
        obtain ⟨a', rfl, _, b, sh, e1, rfl⟩ := hx.ptrSome
        obtain ⟨k, rfl⟩ := natOf_rel hn hi
        refine ⟨_, .ptr (r := ⟨b, sh + a.off + i0 * s, none⟩) rfl ⟨b, sh, e1, by simp [Nat.add_assoc]⟩, fun w => ?_⟩
        have : (0 : Int) ≤ (i0 : Int) ∧ (i0 : Int) < (n : Int) := by omega
        simp [Instr.indexAt, asIntOf, run_underlying hu, Instr.sureAddr, this, size_run hs, add_at]
        intro hh; omega
      · cases h
    · cases h
  · rename_i el a n c i0 hu hn
    split at h
    · rename_i s hs
      split at h
      · rename_i hc
        cases h
        obtain ⟨a', rc, rfl, hc', _, ha⟩ := hx.sliceSome
        obtain ⟨b, sh, e1, rfl⟩ := ha (by omega)
        obtain ⟨k, rfl⟩ := natOf_rel hn hi
        refine ⟨_, .ptr (r := ⟨b, sh + a.off + i0 * s, none⟩) rfl ⟨b, sh, e1, by simp [Nat.add_assoc]⟩, fun w => ?_⟩
        have : (0 : Int) ≤ (i0 : Int) ∧ (i0 : Int) < (n : Int) := by omega
        simp [Instr.indexAt, asIntOf, run_underlying hu, this, size_run hs, add_at]
        intro hh; omega
      · cases h
    · cases h
  · cases h
theorem field_sound {t : TypeId} {x x' v : Value} {i : Nat} (h : fieldA P t x i = some v) (hx : VRel ρ x x') : ∃ r, VRel ρ v r ∧ ∀ w, (Instr.field t x' i).run P w = .ok r w := by
  unfold fieldA at h
  split at h
  · rename_i fs cs hf
    obtain ⟨fa, hu, rfl⟩ := fields_und hf
    split at h
    · rename_i f hfi
      obtain ⟨cs', rfl, hc⟩ := hx.aggSome
      obtain ⟨r, hr, hrun⟩ := part_sound h hc
      refine ⟨r, hr, fun w => ?_⟩
      have : fa[i]? = some f := by simpa using hfi
      simp [Instr.field, run_underlying hu, this, asAgg, hrun]
    · cases h
  · cases h
theorem index_sound {t : TypeId} {x x' i i' v : Value} (h : indexA P t x i = some v) (hx : VRel ρ x x') (hi : VRel ρ i i') : ∃ r, VRel ρ v r ∧ ∀ w, (Instr.index t x' i').run P w = .ok r w := by
  unfold indexA at h
  split at h
  · rename_i n el cs i0 hu hn
    split at h
    · rename_i s hs
      split at h
      · rename_i hlt
        obtain ⟨cs', rfl, hc⟩ := hx.aggSome
        obtain ⟨k, rfl⟩ := natOf_rel hn hi
        obtain ⟨r, hr, hrun⟩ := part_sound h hc
        refine ⟨r, hr, fun w => ?_⟩
        have : (0 : Int) ≤ (i0 : Int) ∧ (i0 : Int) < (n : Int) := by omega
        simp [Instr.index, asIntOf, run_underlying hu, this, size_run hs, hrun]
        intro hh; omega
      · cases h
    · cases h
  · rename_i s i0 hu hn
    split at h
    · rename_i b hb
      cases h
      rw [hx.string]
      obtain ⟨k, rfl⟩ := natOf_rel hn hi
      refine ⟨_, .plain _ rfl, fun w => ?_⟩
      have : s[i0]? = some b := by
        have h1 : i0 < s.data.toList.length := (List.getElem?_eq_some_iff.1 hb).1
        have h2 : i0 < s.size := h1
        rw [getElem?_pos s i0 h2]
        have := (List.getElem?_eq_some_iff.1 hb).2
        rw [← this]; rfl
      have h0 : (0 : Int) ≤ (i0 : Int) := by omega
      simp [Instr.index, asIntOf, run_underlying hu, h0, this]
    · cases h
  · cases h
theorem min_sound (most : Bool) (k : IntKind) : ∀ {l l' : List Value} {a : Int} {v : Value}, minFrom most k a l = some v → LRel ρ l l' →
    VRel ρ v v ∧ ∀ w, (l'.foldlM (bif most then Builtin.max2 else Builtin.min2) (.int k a)).run P w = .ok v w
  | [], l', a, v, h, hl => by
    simp only [minFrom] at h; cases h
    rw [hl.nil_inv]
    exact ⟨.plain _ rfl, fun w => by simp⟩
  | x :: l, l', a, v, h, hl => by
    obtain ⟨r, l'', rfl, hx, hl2⟩ := hl.cons_inv
    cases x <;> simp only [minFrom] at h <;> try cases h
    rename_i k' b
    obtain ⟨h1, h2⟩ := min_sound most k h hl2
    refine ⟨h1, fun w => ?_⟩
    rw [hx.int]
    cases most
    · simpa [List.foldlM_cons, Builtin.min2] using h2 w
    · simpa [List.foldlM_cons, Builtin.max2] using h2 w
theorem list_rel {e er : Operand → Value} {l : List Operand} (h : ∀ x ∈ l, VRel ρ (e x) (er x)) : LRel ρ (l.map e) (l.map er) := LRel.map _ _ _ h

theorem pure_sound {op : Op} {e er : Operand → Value} {v : Value} (h : pureOp P op e = some v) (hE : ∀ x ∈ op.operands.toList, VRel ρ (e x) (er x)) :
    ∃ r, VRel ρ v r ∧ ∀ (o : Oper) (w : World), o.op = op → (execOp er o).run P w = .ok (.value r) w := by
  unfold pureOp at h
  split at h
  · cases h; exact ⟨_, hE _ (by simp [Op.operands]), fun o w ho => by simp [execOp, ho]⟩
  · cases h; exact ⟨_, hE _ (by simp [Op.operands]), fun o w ho => by simp [execOp, ho]⟩
  · rename_i c a b
    split at h
    · rename_i t ht
      cases h
      have hc := hE c (by simp [Op.operands]); rw [ht] at hc
      refine ⟨bif t then er a else er b, ?_, fun o w ho => ?_⟩
      · cases t
        · exact hE b (by simp [Op.operands])
        · exact hE a (by simp [Op.operands])
      · simp only [execOp, ho, hc.bool, asBool]
        cases t <;> rfl
    · cases h
  · rename_i x
    have hx := hE x (by simp [Op.operands])
    split at h
    · rename_i a ha
      cases h; rw [ha] at hx
      obtain ⟨r, hr, hs, hA⟩ := hx.ptrSome
      exact ⟨.pointer (some r), .ptr hs hA, fun o w ho => by simp [execOp, ho, hr]⟩
    · rename_i t u ha
      cases h; rw [ha] at hx
      obtain ⟨r, hr, hv⟩ := hx.ifaceSome
      exact ⟨.iface t r, .iface t hv, fun o w ho => by simp [execOp, ho, hr]⟩
    · rename_i f a b ha
      cases h; rw [ha] at hx
      have hx' := hx
      obtain ⟨g, a', b', hr, hf, _, _⟩ := hx.funcSome
      refine ⟨.func g a' b', by rw [← hr]; exact hx', fun o w ho => ?_⟩
      rcases hf with ⟨_, _, e, _, _⟩ | ⟨rfl, _, e⟩
      · cases e
      · simp [execOp, ho, hr]
    · rename_i f a b ha
      cases h; rw [ha] at hx
      have hx' := hx
      obtain ⟨g, a', b', hr, hf, _, _⟩ := hx.funcSome
      refine ⟨.func g a' b', by rw [← hr]; exact hx', fun o w ho => ?_⟩
      rcases hf with ⟨_, _, _, rfl, _⟩ | ⟨rfl, _, e⟩
      · simp [execOp, ho, hr]
      · cases e
    · cases h
  · rename_i o' t x y yt
    obtain ⟨h1, h2⟩ := bin_sound h (hE x (by simp [Op.operands])) (hE y (by simp [Op.operands]))
    refine ⟨v, h1, fun o w ho => ?_⟩
    have := h2 w
    simp only [execOp, ho]
    rw [Sem.run_bind, this]; rfl
  · rename_i o' t x
    obtain ⟨h1, h2⟩ := un_sound (P := P) h (hE x (by simp [Op.operands]))
    exact ⟨v, h1, fun o w ho => by simp [execOp, ho, h2]⟩
  · rename_i s d x
    have hx := hE x (by simp [Op.operands])
    split at h
    · rename_i us k k' n hs hd he
      cases h; rw [he] at hx
      refine ⟨_, .plain _ rfl, fun o w ho => ?_⟩
      simp [execOp, ho, convert, run_underlying hs, run_underlying hd, hx.int, Conv.intToInt, wrapA_eq]
    · rename_i us b hs hd he
      cases h; rw [he] at hx
      refine ⟨_, .plain _ rfl, fun o w ho => ?_⟩
      simp [execOp, ho, convert, run_underlying hs, run_underlying hd, hx.string]
    · cases h
  · rename_i t ps
    obtain ⟨r, hr, hrun⟩ := build_sound (ρ := ρ) (er := er) h (fun p hp => hE _ (by simp [Op.operands]; exact ⟨p.1, by simpa using hp⟩))
    exact ⟨r, hr, fun o w ho => by simp only [execOp, ho]; rw [Sem.run_bind, hrun]; rfl⟩
  · rename_i t x
    split at h
    · cases h
    · rename_i d hn hd
      cases h
      refine ⟨_, .iface t (hE x (by simp [Op.operands])), fun o w ho => ?_⟩
      simp only [execOp, ho, Instr.makeInterface, Sem.run_bind, run_underlying hd, Result.andThen_ok]
      cases d <;> first | rfl | exact absurd rfl (hn _)
    · cases h
  · rename_i fn a b
    split at h
    · rename_i f
      cases h
      have h1 : LRel ρ (a.toList.map e) (a.map er).toList := by rw [Array.toList_map]; exact list_rel fun x hx => hE x (by simp [Op.operands]; exact .inl (by simpa using hx))
      have h2 : LRel ρ (b.toList.map e) (b.map er).toList := by rw [Array.toList_map]; exact list_rel fun x hx => hE x (by simp [Op.operands]; exact .inr (by simpa using hx))
      refine ⟨.func (.func f) (a.map er) (b.map er), .func (.inr ⟨rfl, _, rfl⟩) h1.1 h1.2 h2.1 h2.2, fun o w ho => by simp [execOp, ho, Instr.makeFunc]⟩
    · cases h
  · rename_i t x lo hi mx
    obtain ⟨r, hr, hrun⟩ := slice_sound (ρ := ρ) (e := e) (er := er) h (hE x (by simp [Op.operands])) (fun x hx => hE x (by simp [Op.operands, hx] ; simp_all)) (fun x hx => hE x (by simp [Op.operands]; simp_all)) (fun x hx => hE x (by simp [Op.operands]; simp_all))
    exact ⟨r, hr, fun o w ho => by simp only [execOp, ho]; rw [Sem.run_bind, hrun]; rfl⟩
  · rename_i t x i
    obtain ⟨r, hr, hrun⟩ := fieldAddr_sound h (hE x (by simp [Op.operands]))
    exact ⟨r, hr, fun o w ho => by simp only [execOp, ho]; rw [Sem.run_bind, hrun]; rfl⟩
  · rename_i t x i
    obtain ⟨r, hr, hrun⟩ := field_sound h (hE x (by simp [Op.operands]))
    exact ⟨r, hr, fun o w ho => by simp only [execOp, ho]; rw [Sem.run_bind, hrun]; rfl⟩
  · rename_i t x i
    obtain ⟨r, hr, hrun⟩ := indexAddr_sound h (hE x (by simp [Op.operands])) (hE i (by simp [Op.operands]))
    exact ⟨r, hr, fun o w ho => by simp only [execOp, ho]; rw [Sem.run_bind, hrun]; rfl⟩
  · rename_i t x i
    obtain ⟨r, hr, hrun⟩ := index_sound h (hE x (by simp [Op.operands])) (hE i (by simp [Op.operands]))
    exact ⟨r, hr, fun o w ho => by simp only [execOp, ho]; rw [Sem.run_bind, hrun]; rfl⟩
  · rename_i t x
    have hx := hE x (by simp [Op.operands])
    split at h
    · rename_i n el a l c hu he
      split at h
      · rename_i hc
        cases h; rw [he] at hx
        obtain ⟨a', rc, hr, hc', _, ha⟩ := hx.sliceSome
        obtain ⟨b, sh, e1, rfl⟩ := ha (by omega)
        refine ⟨_, .ptr (r := ⟨b, sh + a.off, none⟩) rfl ⟨b, sh, e1, rfl⟩, fun o w ho => ?_⟩
        have : ¬ (l < n + 1) := by omega
        simp [execOp, ho, Instr.arrayAt, run_underlying hu, hr, this]
      · cases h
    · cases h
  · rename_i x i
    have hx := hE x (by simp [Op.operands])
    split at h
    · rename_i vs he
      rw [he] at hx
      obtain ⟨vs', hr, hl⟩ := hx.tupleSome
      obtain ⟨r, hri, hv⟩ := hl.get h
      refine ⟨r, hv, fun o w ho => ?_⟩
      have : vs'[i]? = some r := by simpa using hri
      simp [execOp, ho, Instr.extract, hr, this]
    · cases h
  · rename_i x xt t ok
    have hx := hE x (by simp [Op.operands])
    split at h
    · cases h
    · rename_i d t' u hn hd he
      split at h
      · rename_i ht; subst ht
        cases h; rw [he] at hx
        obtain ⟨r, hr, hv⟩ := hx.ifaceSome
        refine ⟨bif ok then .tuple #[r, .bool true] else r, ?_, fun o w ho => ?_⟩
        · cases ok
          · exact hv
          · exact .tuple' (.cons hv (.cons (.plain _ rfl) (LRel.nil ρ)))
        · simp only [execOp, ho, Instr.typeAssert, Sem.run_bind, run_underlying hd, Result.andThen_ok, hr]
          cases d <;> first | exact absurd rfl (hn _) | (cases ok <;> simp)
      · cases h
    · cases h
  · rename_i c
    split at h
    · rename_i hcal
      split at h
      · rename_i t ts x xs hts hxs
        have hx := hE x (by simp [Op.operands, Call.operands, hcal]; simpa using (show x ∈ c.args.toList from by rw [hxs]; simp))
        have h0 : c.argTypes[0]? = some t := by rw [← Array.getElem?_toList, hts]; rfl
        have h1 : (c.args.map er)[0]? = some (er x) := by rw [← Array.getElem?_toList, Array.toList_map, hxs]; rfl
        split at h
        · rename_i s hu he
          cases h; rw [he] at hx
          refine ⟨_, .plain _ rfl, fun o w ho => ?_⟩
          simp [execOp, ho, resolve, hcal, invoke, builtin, Builtin.len_, h0, h1, run_underlying hu, hx.string, goInt]
        · rename_i n el hu
          cases h
          refine ⟨_, .plain _ rfl, fun o w ho => ?_⟩
          simp [execOp, ho, resolve, hcal, invoke, builtin, Builtin.len_, h0, h1, run_underlying hu, goInt]
        · rename_i el a n cp hu he
          cases h; rw [he] at hx
          refine ⟨_, .plain _ rfl, fun o w ho => ?_⟩
          cases a with
          | none => simp [execOp, ho, resolve, hcal, invoke, builtin, Builtin.len_, h0, h1, run_underlying hu, goInt, hx.sliceNone.1]
          | some a =>
            obtain ⟨_, _, hr, _⟩ := hx.sliceSome
            simp [execOp, ho, resolve, hcal, invoke, builtin, Builtin.len_, h0, h1, run_underlying hu, goInt, hr]
        · cases h
      · cases h
    · rename_i hcal
      split at h
      · rename_i t ts x xs hts hxs
        have hx := hE x (by simp [Op.operands, Call.operands, hcal]; simpa using (show x ∈ c.args.toList from by rw [hxs]; simp))
        have h0 : c.argTypes[0]? = some t := by rw [← Array.getElem?_toList, hts]; rfl
        have h1 : (c.args.map er)[0]? = some (er x) := by rw [← Array.getElem?_toList, Array.toList_map, hxs]; rfl
        split at h
        · rename_i el n hu he
          cases h; rw [he] at hx
          refine ⟨_, .plain _ rfl, fun o w ho => ?_⟩
          simp [execOp, ho, resolve, hcal, invoke, builtin, Builtin.cap_, h0, h1, run_underlying hu, goInt, hx.sliceNone.1]
        · rename_i el a n cp hu he
          split at h
          · rename_i hsp
            cases h; rw [he] at hx
            obtain ⟨_, rc, hr, _, hex, _⟩ := hx.sliceSome
            refine ⟨_, .plain _ rfl, fun o w ho => ?_⟩
            simp [execOp, ho, resolve, hcal, invoke, builtin, Builtin.cap_, h0, h1, run_underlying hu, goInt, hr, hex hsp]
          · cases h
        · cases h
      · cases h
    · rename_i hcal
      have hl : LRel ρ (c.args.toList.map e) (c.args.toList.map er) := list_rel fun x hx => hE x (by simp [Op.operands, Call.operands, hcal]; simpa using hx)
      unfold minA at h
      split at h
      · rename_i k a r hr
        rw [hr] at hl
        obtain ⟨y, l'', e1, hy, hl'⟩ := hl.cons_inv
        obtain ⟨h1, h2⟩ := min_sound (P := P) true k h hl'
        refine ⟨v, h1, fun o w ho => ?_⟩
        have := h2 w
        rw [hy.int] at e1
        simp only [execOp, ho, resolve, hcal, Sem.run_bind, Sem.run_pure, Result.andThen_ok, invoke, builtin, Builtin.max_, Array.toList_map, e1]
        simp only [cond_true] at this
        rw [this]; rfl
      · cases h
    · rename_i hcal
      have hl : LRel ρ (c.args.toList.map e) (c.args.toList.map er) := list_rel fun x hx => hE x (by simp [Op.operands, Call.operands, hcal]; simpa using hx)
      unfold minA at h
      split at h
      · rename_i k a r hr
        rw [hr] at hl
        obtain ⟨y, l'', e1, hy, hl'⟩ := hl.cons_inv
        obtain ⟨h1, h2⟩ := min_sound (P := P) false k h hl'
        refine ⟨v, h1, fun o w ho => ?_⟩
        have := h2 w
        rw [hy.int] at e1
        simp only [execOp, ho, resolve, hcal, Sem.run_bind, Sem.run_pure, Result.andThen_ok, invoke, builtin, Builtin.min_, Array.toList_map, e1]
        simp only [cond_false] at this
        rw [this]; rfl
      · cases h
    · cases h
  · cases h
end
end Go.Ab
