/-
  All operations that change memory.
-/
import Derived.Test.YtjncmibloiomhaaGreatAb14
namespace Go.Ab
section
variable {P : Program} {ρ : Loc}
theorem map_obj {es : List MapEntry} {a : Array MapEntry} {c : Nat} (h : EsRel ρ es a.toList) : ObjRel ρ 0 (.map es c) (.map a c) := ⟨rfl, rfl, h⟩
theorem mapUpdate_sound {H : AHeap} {w : World} {t : TypeId} {m k v m' k' v' : Value} {d : TypeDesc} {el : TypeId} {es : List MapEntry} {clk r : Nat} {u : Upd} {mk : Nat → Value}
    (hm : mapA P t m H = some (d, el, es, clk)) (hmr : m = .map (some r)) (hk : isKeyOf d k = true)
    (h : (match findA d k es 0 with
        | some (some (i, _)) => some (Upd.put r (.map (modL (fun x => { x with key := k, val := v }) es i) clk), fun _ => undef)
        | some none => some (Upd.put r (.map (es ++ [{ key := k, val := v, born := clk }]) (clk + 1)), fun _ => undef)
        | none => none) = some (u, mk)) (hH : HRel ρ H w) (hmm : VRel ρ m m') (hkk : VRel ρ k k') (hv : VRel ρ v v') :
    ∃ w', (Instr.mapUpdate t m' k' v').run P w = .ok () w' ∧ mk (u.id H) = undef ∧ Step ρ H w ρ (u.app H) w' := by
  obtain ⟨kt, hu, hkd, hcase⟩ := map_sound hm hH hmm
  rw [plain_eq hkk (isKey_plain hk)]
  rcases hcase with ⟨e, _, _⟩ | ⟨i, b, res, e, rfl, hg, hb, hw, hes⟩
  · rw [hmr] at e; cases e
  · rw [hmr] at e; cases e
    obtain ⟨hku, _⟩ := key_und hkd
    split at h
    · rename_i j u0 hf
      cases h
      obtain ⟨r', hr', hrel⟩ := find_sound hf hes
      cases r' with
      | none => exact hrel.elim
      | some p =>
        obtain ⟨j', u'⟩ := p
        obtain ⟨rfl, _, _, _⟩ := hrel
        obtain ⟨e0, h1, _, _, h4⟩ := find_key hf
        obtain ⟨r0, h5, h6⟩ := hes.get h1
        have hkey : r0.key = k := by rw [plain_eq h6.2.1 (sameKey_plain h4), sameKey_eq h4]
        have hold : ((res[j]?).map (·.key)).getD k = k := by
          rw [← Array.getElem?_toList, show j = j - 0 from rfl, h5]; exact hkey
        refine ⟨_, ?_, rfl, Step.put hH hg rfl hb (turned_obj hw (.map (res.modify j fun e => { e with key := k, val := v' }) clk) rfl) (map_obj ?_) rfl⟩
        · simp only [Instr.mapUpdate, Sem.run_bind, run_underlying hu, Result.andThen_ok, getMap_run hw, check_run hkd hk, MapKept.run_findKey hku hr', hold, keyStays_run hk, setMap_run hw]
        · rw [Array.toList_modify]
          exact modL_rel hes (fun e r h => ⟨h.1, .plain _ (isKey_plain hk), hv⟩)
    · rename_i hf
      cases h
      obtain ⟨r', hr', hrel⟩ := find_sound hf hes
      cases r' with
      | some p => exact hrel.elim
      | none =>
        refine ⟨_, ?_, rfl, Step.put hH hg rfl hb (turned_obj hw (.map (res.push { key := k, val := v', born := clk }) (clk + 1)) rfl) (map_obj ?_) rfl⟩
        · simp only [Instr.mapUpdate, Sem.run_bind, run_underlying hu, Result.andThen_ok, getMap_run hw, check_run hkd hk, MapKept.run_findKey hku hr', setMap_run hw]
        · rw [Array.toList_push]
          exact hes.snoc ⟨rfl, .plain _ (isKey_plain hk), hv⟩
    · cases h
theorem eff_sound {H : AHeap} {op : Op} {e er : Operand → Value} {u : Upd} {mk : Nat → Value} (h : effOp P op e H = some (u, mk)) (hE : ∀ x ∈ op.operands.toList, VRel ρ (e x) (er x)) (o : Oper) (ho : o.op = op) (w : World) (hH : HRel ρ H w)
    (hF : Fresh ρ H.next (u.app H).next) :
    ∃ nx w' ρ' vr, (execOp er o).run P w = .ok nx w' ∧ (nx = .value vr ∨ nx = .skip ∧ vr = undef) ∧ VRel ρ' (mk (u.id H)) vr ∧ Step ρ H w ρ' (u.app H) w' := by
  unfold effOp at h
  split at h
  · -- store
    rename_i t a v
    have hv := hE v (by simp [Op.operands])
    have ha := hE a (by simp [Op.operands])
    split at h
    · rename_i b o' n he hn
      rw [he] at ha
      split at h
      · rename_i hc
        split at h
        · rename_i c hg
          split at h
          · rename_i hle
            cases h
            obtain ⟨r, w', hr, hrun, hst⟩ := storeVar_sound hH hn hc.1 hc.2 hg hle hv ha
            refine ⟨.skip, w', ρ, undef, ?_, .inr ⟨rfl, rfl⟩, VRel.undef ρ, hst⟩
            simp [execOp, ho, Instr.storeAt, hr, Instr.sureAddr, hrun]
          · cases h
        · cases h
      · cases h
    · cases h
  · rename_i t m k v
    split at h
    · rename_i d el es clk r hm hmr
      split at h
      · rename_i hk
        obtain ⟨w', hrun, hmk, hst⟩ := mapUpdate_sound hm hmr hk h hH (hE m (by simp [Op.operands])) (hE k (by simp [Op.operands])) (hE v (by simp [Op.operands]))
        exact ⟨.skip, w', ρ, undef, by simp [execOp, ho, hrun], .inr ⟨rfl, rfl⟩, by rw [hmk]; exact VRel.undef ρ, hst⟩
      · cases h
    · cases h
  · rename_i t m k v
    split at h
    · rename_i d el es clk r hm hmr
      split at h
      · rename_i hk
        obtain ⟨w', hrun, hmk, hst⟩ := mapUpdate_sound hm hmr hk h hH (hE m (by simp [Op.operands])) (hE k (by simp [Op.operands])) (hE v (by simp [Op.operands]))
        exact ⟨.skip, w', ρ, undef, by simp [execOp, ho, hrun], .inr ⟨rfl, rfl⟩, by rw [hmk]; exact VRel.undef ρ, hst⟩
      · cases h
    · cases h
  · rename_i c
    have hargs : ∀ b, c.callee = .builtin b → ∀ x ∈ c.args.toList, VRel ρ (e x) (er x) := fun b hb x hx => hE x (by simp [Op.operands, Call.operands, hb]; simpa using hx)
    have getA : ∀ {x : Operand} {j : Nat}, c.args.toList[j]? = some x → (c.args.map er)[j]? = some (er x) := fun {x j} hx => by
      rw [← Array.getElem?_toList, Array.toList_map, List.getElem?_map, hx]; rfl
    split at h
    · rename_i t tx ts s x xs hcal hts hxs
      have h0 : c.argTypes[0]? = some t := by rw [← Array.getElem?_toList, hts]; rfl
      have h1 : c.argTypes[1]? = some tx := by rw [← Array.getElem?_toList, hts]; rfl
      obtain ⟨vr, w', ρ', hrun, hv, hst⟩ := appendA_sound (ty := o.type) h hH (hargs _ hcal s (by rw [hxs]; simp)) (hargs _ hcal x (by rw [hxs]; simp)) h0 h1 (getA (j := 0) (by rw [hxs]; rfl)) (getA (j := 1) (by rw [hxs]; rfl)) hF
      exact ⟨.value vr, w', ρ', vr, by simp [execOp, ho, resolve, hcal, invoke, builtin, hrun], .inl rfl, hv, hst⟩
    · rename_i t ts d x xs hcal hts hxs
      have h0 : c.argTypes[0]? = some t := by rw [← Array.getElem?_toList, hts]; rfl
      obtain ⟨vr, w', ρ', hrun, hv, hst⟩ := copyA_sound (ty := o.type) h hH (hargs _ hcal d (by rw [hxs]; simp)) (hargs _ hcal x (by rw [hxs]; simp)) h0 (getA (j := 0) (by rw [hxs]; rfl)) (getA (j := 1) (by rw [hxs]; rfl))
      exact ⟨.value vr, w', ρ', vr, by simp [execOp, ho, resolve, hcal, invoke, builtin, hrun], .inl rfl, hv, hst⟩
    · rename_i t ts m k xs hcal hts hxs
      have h0 : c.argTypes[0]? = some t := by rw [← Array.getElem?_toList, hts]; rfl
      have a0 := getA (x := m) (j := 0) (by rw [hxs]; rfl)
      have a1 := getA (x := k) (j := 1) (by rw [hxs]; rfl)
      have hmr := hargs _ hcal m (by rw [hxs]; simp)
      have hkr := hargs _ hcal k (by rw [hxs]; simp)
      split at h
      · rename_i d el es clk r hm he
        split at h
        · rename_i hk
          have hke := plain_eq hkr (isKey_plain hk)
          obtain ⟨kt, hu, hkd, hcase⟩ := map_sound hm hH hmr
          rcases hcase with ⟨e1, _, _⟩ | ⟨i, b, res, e1, hm', hg, hb, hw, hes⟩
          · rw [he] at e1; cases e1
          · rw [he] at e1; cases e1
            obtain ⟨hku, _⟩ := key_und hkd
            split at h
            · rename_i j u0 hf
              cases h
              obtain ⟨r', hr', hrel⟩ := find_sound hf hes
              cases r' with
              | none => exact hrel.elim
              | some p =>
                obtain ⟨j', u'⟩ := p
                obtain ⟨rfl, _, _, hlt⟩ := hrel
                have hsz : j < res.size := by have := hes.1; simp at this hlt; omega
                refine ⟨.value (.tuple #[]), _, ρ, _, ?_, .inl rfl, .tuple' (LRel.nil ρ), Step.put hH hg rfl hb (turned_obj hw (.map (res.eraseIdxIfInBounds j) clk) rfl) (map_obj ?_) rfl⟩
                · simp only [execOp, ho, resolve, hcal, Sem.run_bind, Sem.run_pure, Result.andThen_ok, invoke, builtin, Builtin.delete_, h0, a0, a1, run_underlying hu, hm', hke, getMap_run hw, check_run hkd hk, MapKept.run_findKey hku hr', setMap_run hw]
                · have : (res.eraseIdxIfInBounds j).toList = res.toList.eraseIdx j := by
                    simp [Array.eraseIdxIfInBounds, hsz]
                  rw [this]; exact delL_rel hes
            · rename_i hf
              cases h
              obtain ⟨r', hr', hrel⟩ := find_sound hf hes
              cases r' with
              | some p => exact hrel.elim
              | none =>
                refine ⟨.value (.tuple #[]), _, ρ, _, ?_, .inl rfl, .tuple' (LRel.nil ρ), Step.put hH hg rfl hb (turned_obj hw (.map res clk) rfl) (map_obj hes) rfl⟩
                simp only [execOp, ho, resolve, hcal, Sem.run_bind, Sem.run_pure, Result.andThen_ok, invoke, builtin, Builtin.delete_, h0, a0, a1, run_underlying hu, hm', hke, getMap_run hw, check_run hkd hk, MapKept.run_findKey hku hr', setMap_run hw]
            · cases h
        · cases h
      · rename_i d el es clk hm he
        split at h
        · rename_i hk
          cases h
          have hke := plain_eq hkr (isKey_plain hk)
          obtain ⟨kt, hu, hkd, _⟩ := map_sound hm hH hmr
          rw [he] at hmr
          refine ⟨.value (.tuple #[]), w, ρ, _, ?_, .inl rfl, .tuple' (LRel.nil ρ), Step.nop hH rfl⟩
          simp only [execOp, ho, resolve, hcal, Sem.run_bind, Sem.run_pure, Result.andThen_ok, invoke, builtin, Builtin.delete_, h0, a0, a1, run_underlying hu, hmr.mapNone, hke, check_run hkd hk]
        · cases h
      · cases h
    · rename_i t ts x xs hcal hts hxs
      have h0 : c.argTypes[0]? = some t := by rw [← Array.getElem?_toList, hts]; rfl
      have a0 := getA (x := x) (j := 0) (by rw [hxs]; rfl)
      have hxr := hargs _ hcal x (by rw [hxs]; simp)
      split at h
      · rename_i d hu he
        cases h; rw [he] at hxr
        refine ⟨.value (.tuple #[]), w, ρ, _, ?_, .inl rfl, .tuple' (LRel.nil ρ), Step.nop hH rfl⟩
        simp [execOp, ho, resolve, hcal, invoke, builtin, Builtin.clear_, h0, a0, run_underlying hu, hxr.mapNone]
      · rename_i d n c' hu he
        cases h; rw [he] at hxr
        refine ⟨.value (.tuple #[]), w, ρ, _, ?_, .inl rfl, .tuple' (LRel.nil ρ), Step.nop hH rfl⟩
        simp [execOp, ho, resolve, hcal, invoke, builtin, Builtin.clear_, h0, a0, run_underlying hu, hxr.sliceNone.1]
      · rename_i d a c' hu he
        cases h; rw [he] at hxr
        obtain ⟨r', rc, hr, _⟩ := hxr.sliceSome
        refine ⟨.value (.tuple #[]), w, ρ, _, ?_, .inl rfl, .tuple' (LRel.nil ρ), Step.nop hH rfl⟩
        simp [execOp, ho, resolve, hcal, invoke, builtin, Builtin.clear_, h0, a0, run_underlying hu, hr]
      · rename_i d i hu he
        split at h
        · rename_i es clk hg
          cases h; rw [he] at hxr
          obtain ⟨b, hr, hb⟩ := hxr.mapSome
          obtain ⟨b', s, r, a1, a2, a3⟩ := hH.obj i _ hg
          rw [hb] at a1; cases a1
          cases r with
          | map res clk2 =>
            obtain ⟨_, rfl, h4⟩ := a3
            refine ⟨.value (.tuple #[]), _, ρ, _, ?_, .inl rfl, .tuple' (LRel.nil ρ), Step.put hH hg rfl hb (turned_obj a2 (.map #[] clk) rfl) (map_obj EsRel.nil) rfl⟩
            simp only [execOp, ho, resolve, hcal, Sem.run_bind, Sem.run_pure, Result.andThen_ok, invoke, builtin, Builtin.clear_, h0, a0, run_underlying hu, hr, getMap_run a2, setMap_run a2]
          | _ => exact a3.elim
        · cases h
      · rename_i el a n c' hne hu he
        split at h
        · rename_i s z cs hs hz hg
          split at h
          · rename_i hc
            cases h; rw [he] at hxr
            obtain ⟨hpl, hz⟩ := zero_run hz
            obtain ⟨r', rc, hr, hcr, _, ha⟩ := hxr.sliceSome
            have hn0 : n ≠ 0 := hne
            obtain ⟨b, sh, e1, rfl⟩ := ha (by omega)
            have hzs : z.cells.size = s := by have := hc.2.1; simpa using this
            have hlenR : ∀ (l : List Value) (n : Nat), (repeatL l n).length = n * l.length := by
              intro l n
              induction n with
              | zero => simp [repeatL]
              | succ n ih => rw [repeatL, List.length_append, ih, Nat.add_mul]; omega
            have hrep : LRel ρ (repeatL z.cells.toList n) (repeatL z.cells.toList n) := ((VRel.ofPlain hpl).cells).repeat_ n
            have hall : (repeatL z.cells.toList n).all one = true := by
              have : ∀ n, (repeatL z.cells.toList n).all one = true := by
                intro n
                induction n with
                | zero => rfl
                | succ n ih => rw [repeatL, List.all_append, hc.2.2.2, ih]; rfl
              exact this n
            obtain ⟨b', sh', w', e2, hst, hstep⟩ := store_sound (P := P) hH hg hrep (o := a.off) (by rw [hlenR, hc.2.1]; exact hc.2.2.1) hall
            rw [e1] at e2; cases e2
            refine ⟨.value (.tuple #[]), w', ρ, _, ?_, .inl rfl, .tuple' (LRel.nil ρ), hstep⟩
            have hz2 : (Builtin.zeroCells z.cells n).toList = repeatL z.cells.toList n := by rw [Builtin.zeroCells, rep_arr]
            cases n with
            | zero => exact absurd rfl hn0
            | succ n =>
              simp only [execOp, ho, resolve, hcal, Sem.run_bind, Sem.run_pure, Result.andThen_ok, invoke, builtin, Builtin.clear_, h0, a0, run_underlying hu, hr, hz, hz2, hst]
          · cases h
        · cases h
      · cases h
    · cases h
  · cases h
end
end Go.Ab
