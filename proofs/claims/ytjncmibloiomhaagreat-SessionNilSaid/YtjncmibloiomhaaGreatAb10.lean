/-
  Operations that read memory.
-/
import Derived.Test.YtjncmibloiomhaaGreatAb9
namespace Go.Ab
section
variable {P : Program} {ρ : Loc}
/-- cells that the abstract heap knows are there -/
theorem cells_there {H : AHeap} {w : World} (h : HRel ρ H w) {i : Nat} {c : List Value} {ro : Bool} (hi : H.get i = some (.cells c ro)) :
    ∃ b s rc el fr, ρ i = some (b, s) ∧ w.heap[b]? = some (.cells rc el fr) ∧ s + c.length ≤ rc.size ∧ LRel ρ c ((rc.toList.drop s).take c.length) ∧
      (ro = false → ∀ o, o < rc.size → (decide (fr.1 ≤ o) && decide (o < fr.2)) = false) ∧ ∀ o v, ((rc.toList.drop s).take c.length)[o]? = some v → w.cell? ⟨b, s + o, none⟩ = some v := by
  obtain ⟨b, s, r, h1, h2, h3⟩ := h.obj i _ hi
  cases r with
  | cells rc el fr =>
    obtain ⟨a1, a2, a3⟩ := h3
    refine ⟨b, s, rc, el, fr, h1, h2, a1, ⟨by simp; omega, fun j v r hv hr => ?_⟩, a3, fun o v hv => ?_⟩
    · obtain ⟨r', hr', hv'⟩ := a2 j v hv
      rw [List.getElem?_take] at hr
      split at hr
      · rw [List.getElem?_drop, Array.getElem?_toList, hr'] at hr; cases hr; exact hv'
      · cases hr
    · rw [List.getElem?_take] at hv
      split at hv
      · rw [List.getElem?_drop, Array.getElem?_toList] at hv
        simp [World.cell?, h2, hv]
      · cases hv
  | _ => exact h3.elim
theorem cut_sub {c l : List Value} {o n : Nat} {c' : List Value} (h : cut c o n = some l) (hc : LRel ρ c c') : ∃ l', LRel ρ l l' ∧ l'.length = n ∧ ∀ (j : Nat) (v : Value), l'[j]? = some v → c'[o + j]? = some v := by
  obtain ⟨h1, h2, h3⟩ := cut_rel h hc
  refine ⟨_, h1, by rw [← h1.1, h3], fun j v hv => ?_⟩
  rw [List.getElem?_take] at hv
  split at hv
  · rwa [List.getElem?_drop] at hv
  · cases hv
theorem load_cells {a : Addr} {l : List Value} {w : World} (ha : a.spot = none) (h : ∀ (j : Nat) (v : Value), l[j]? = some v → w.cell? ⟨a.block, a.off + j, none⟩ = some v) :
    (loadCells a l.length).run P w = .ok l.toArray w := by
  refine run_loadCells_list w a l (fun j v hv => ?_)
  obtain ⟨b, o, s⟩ := a
  simp only at ha; subst ha
  rw [add_at]; exact h j v hv
theorem loadA_sound {H : AHeap} {w : World} {t : TypeId} {x x' v : Value} (h : loadA P t x H = some v) (hH : HRel ρ H w) (hx : VRel ρ x x') :
    ∃ r a, VRel ρ v r ∧ x' = .pointer (some a) ∧ (loadVar t a).run P w = .ok r w := by
  unfold loadA at h
  split at h
  · rename_i i o
    split at h
    · rename_i c ro hc
      obtain ⟨a', rfl, _, b, s, e1, rfl⟩ := hx.ptrSome
      obtain ⟨b', s', rc, el, fr, e2, hb, hle, hl, _, hcell⟩ := cells_there hH hc
      rw [e1] at e2; cases e2
      unfold partA at h
      split at h
      · rename_i n ha hs
        split at h
        · rename_i l hl'
          cases h
          obtain ⟨l', hl1, hl2, hl3⟩ := cut_sub hl' hl
          refine ⟨.agg l'.toArray, _, .agg' (by simpa using hl1), rfl, ?_⟩
          have := load_cells (P := P) (a := ⟨b, s + o, none⟩) (l := l') (w := w) rfl (fun j v hv => by
            have := hcell (o + j) v (hl3 j v hv)
            rwa [← Nat.add_assoc] at this)
          rw [hl2] at this
          simp [loadVar, isAgg_run ha, size_run hs, this]
        · cases h
      · rename_i n ha hs
        obtain ⟨r, hr, hv⟩ := hl.get h
        have := hcell o r hr
        exact ⟨r, _, hv, rfl, by simp [loadVar, isAgg_run ha, this]⟩
      · cases h
    · cases h
  · cases h

/-! ### maps -/
theorem EsRel.cons_inv {e : MapEntry} {l l' : List MapEntry} (h : EsRel ρ (e :: l) l') : ∃ r l'', l' = r :: l'' ∧ ERel ρ e r ∧ EsRel ρ l l'' := by
  cases l' with
  | nil => have := h.1; simp at this
  | cons r l'' => exact ⟨r, l'', rfl, h.2 0 e r rfl rfl, by simpa using h.1, fun i a b ha hb => h.2 (i + 1) a b (by simpa using ha) (by simpa using hb)⟩
theorem EsRel.nil_inv {l' : List MapEntry} (h : EsRel ρ [] l') : l' = [] := by
  cases l' with
  | nil => rfl
  | cons r l'' => have := h.1; simp at this
theorem EsRel.nil : EsRel ρ [] [] := ⟨rfl, fun i a b h => by simp at h⟩
theorem EsRel.cons {e r : MapEntry} {l l' : List MapEntry} (h : ERel ρ e r) (k : EsRel ρ l l') : EsRel ρ (e :: l) (r :: l') :=
  ⟨by simp [k.1], fun i a b ha hb => by
    cases i with
    | zero => simp at ha hb; subst ha hb; exact h
    | succ i => simp at ha hb; exact k.2 i a b ha hb⟩
theorem key_und {t : TypeId} {d : TypeDesc} (h : keyKind P t = some d) : P.underlying t = some d ∧ ((∃ k, d = .int k) ∨ d = .string ∨ d = .bool) := by
  unfold keyKind at h
  split at h <;> cases h <;> rename_i hu <;> exact ⟨hu, by simp⟩
theorem isKey_plain {d : TypeDesc} {k : Value} (h : isKeyOf d k = true) : plain0 k = true := by
  unfold isKeyOf at h
  split at h <;> first | rfl | cases h
theorem sameKey_plain {d : TypeDesc} {k u : Value} {b : Bool} (h : sameKey d k u = some b) : plain0 u = true := by
  unfold sameKey at h
  split at h <;> first | rfl | cases h
theorem sameKey_now {d : TypeDesc} {k u : Value} {b : Bool} (h : sameKey d k u = some b) : Instr.sameNow d k u = some b := by
  unfold sameKey at h
  split at h
  · split at h
    · rename_i e; cases h; subst e; simp [Instr.sameNow, bd]
    · cases h
  · cases h; simp only [Instr.sameNow, ba_beq]
  · cases h; rfl
  · cases h
theorem find_sound {d : TypeDesc} {k : Value} : ∀ {es es' : List MapEntry} {i : Nat} {r : Option (Nat × Value)}, findA d k es i = some r → EsRel ρ es es' →
    ∃ r', Instr.findNow d k es' i = some r' ∧ (match r, r' with
      | none, none => True
      | some (j, v), some (j', v') => j = j' ∧ VRel ρ v v' ∧ i ≤ j ∧ j - i < es.length
      | _, _ => False)
  | [], es', i, r, h, he => by
    simp only [findA] at h; cases h
    rw [he.nil_inv]
    exact ⟨none, rfl, trivial⟩
  | x :: es, es', i, r, h, he => by
    obtain ⟨y, es'', rfl, hxy, he'⟩ := he.cons_inv
    simp only [findA] at h
    split at h
    · rename_i hs
      cases h
      have hk : y.key = x.key := plain_eq hxy.2.1 (sameKey_plain hs)
      exact ⟨some (i, y.val), by simp [Instr.findNow, hk, sameKey_now hs], rfl, hxy.2.2, Nat.le_refl _, by simp⟩
    · rename_i hs
      have hk : y.key = x.key := plain_eq hxy.2.1 (sameKey_plain hs)
      obtain ⟨r', hr', hrel⟩ := find_sound h he'
      refine ⟨r', by simp [Instr.findNow, hk, sameKey_now hs, hr'], ?_⟩
      cases r with
      | none => cases r' <;> exact hrel
      | some p =>
        cases r' with
        | none => exact hrel
        | some q => exact ⟨hrel.1, hrel.2.1, by omega, by have := hrel.2.2; simp; omega⟩
    · cases h
theorem check_run {t : TypeId} {d : TypeDesc} {k : Value} (h : keyKind P t = some d) (hk : isKeyOf d k = true) (e : Bool) (w : World) : (Instr.checkKey e 10000 t k).run P w = .ok () w := by
  obtain ⟨hu, hd⟩ := key_und h
  show (Instr.checkKey e (9999 + 1) t k).run P w = .ok () w
  unfold Instr.checkKey
  simp only [Sem.run_bind, run_underlying hu, Result.andThen_ok]
  unfold isKeyOf at hk
  split at hk <;> first | rfl | cases hk
/-- what mapA knows -/
theorem map_sound {H : AHeap} {w : World} {t : TypeId} {m m' : Value} {d : TypeDesc} {el : TypeId} {es : List MapEntry} {clk : Nat} (h : mapA P t m H = some (d, el, es, clk)) (hH : HRel ρ H w) (hm : VRel ρ m m') :
    ∃ kt, P.underlying t = some (.map kt el) ∧ keyKind P kt = some d ∧ ((m = .map none ∧ m' = .map none ∧ es = []) ∨
      ∃ i b res, m = .map (some i) ∧ m' = .map (some b) ∧ H.get i = some (.map es clk) ∧ ρ i = some (b, 0) ∧ w.heap[b]? = some (.map res clk) ∧ EsRel ρ es res.toList) := by
  unfold mapA at h
  split at h
  · rename_i kt el' hu
    split at h
    · rename_i d' hd
      cases h
      exact ⟨kt, hu, hd, .inl ⟨rfl, hm.mapNone, rfl⟩⟩
    · cases h
  · rename_i kt el' i hu
    split at h
    · rename_i d' es' clk' hd hg
      cases h
      obtain ⟨b, rfl, hb⟩ := hm.mapSome
      obtain ⟨b', s, r, h1, h2, h3⟩ := hH.obj i _ hg
      rw [hb] at h1; cases h1
      cases r with
      | map res clk2 =>
        obtain ⟨_, rfl, h4⟩ := h3
        exact ⟨kt, hu, hd, .inr ⟨i, b, res, rfl, rfl, hg, hb, h2, h4⟩⟩
      | _ => exact h3.elim
    · cases h
  · cases h
theorem getMap_run {w : World} {b : Nat} {es : Array MapEntry} {c : Nat} (h : w.heap[b]? = some (.map es c)) : (getObj b).run P w = .ok (.map es c) w := by
  simp [getObj, Sem.run, h]
theorem bytesOf_cons {x : Value} {l : List Value} {bs : List UInt8} (h : bytesOf (x :: l) = some bs) : ∃ n bs', x = .int .u8 (.ofNat n) ∧ bytesOf l = some bs' ∧ bs = UInt8.ofNat n :: bs' := by
  unfold bytesOf at h
  split at h
  · rename_i e; cases e
  · rename_i n r e
    cases e
    split at h
    · rename_i bs' hb
      cases h; exact ⟨n, bs', rfl, hb, rfl⟩
    · cases h
  · cases h
theorem bytesOf_rel : ∀ {l l' : List Value} {bs : List UInt8}, bytesOf l = some bs → LRel ρ l l' → l' = l
  | [], l', bs, _, h => h.nil_inv
  | x :: l, l', bs, h, hl => by
    obtain ⟨r, l'', rfl, hx, hl'⟩ := hl.cons_inv
    obtain ⟨n, bs', rfl, hb, rfl⟩ := bytesOf_cons h
    rw [hx.int, bytesOf_rel hb hl']
theorem toStr_run {w : World} : ∀ {l : List Value} {bs : List UInt8} (s : ByteArray), bytesOf l = some bs →
    (forIn l s (fun c s => do
      let .int .u8 n := c | stuck "bytesToString: byte expected"
      pure (ForInStep.yield (s.push (UInt8.ofNat n.toNat)))) : Sem ByteArray).run P w = .ok ⟨⟨s.data.toList ++ bs⟩⟩ w
  | [], bs, s, h => by simp only [bytesOf] at h; cases h; simp
  | x :: l, bs, s, h => by
    obtain ⟨n, bs', rfl, hb, rfl⟩ := bytesOf_cons h
    have := toStr_run (w := w) (s.push (UInt8.ofNat n)) hb
    simp only [List.forIn_cons, Sem.run_bind, Sem.run_pure, Result.andThen_ok]
    simp only [Int.ofNat_eq_natCast, Int.toNat_natCast]
    rw [this]
    simp
theorem conv_sound {H : AHeap} {w : World} {a : Addr} {n c : Nat} {cs l : List Value} {ro : Bool} {bs : List UInt8} {x' : Value} (hH : HRel ρ H w) (hx : VRel ρ (.slice (some a) n c) x')
    (hg : H.get a.block = some (.cells cs ro)) (hn : n ≤ c) (hc : cut cs a.off n = some l) (hb : bytesOf l = some bs) : (Conv.bytesToString x').run P w = .ok (.string ⟨⟨bs⟩⟩) w := by
  obtain ⟨r', rc0, rfl, hc', _, ha⟩ := hx.sliceSome
  obtain ⟨b', s', rc, el, fr, e2, hbk, hle, hl, _, hcell⟩ := cells_there hH hg
  obtain ⟨l', hl1, hl2, hl3⟩ := cut_sub hc hl
  rw [bytesOf_rel hb hl1] at hl2 hl3
  have hload : (loadCells r' n).run P w = .ok l.toArray w := by
    cases n with
    | zero =>
      obtain rfl : l = [] := List.eq_nil_of_length_eq_zero hl2
      rfl
    | succ n =>
      obtain ⟨b, s, e1, rfl⟩ := ha (by omega)
      rw [e1] at e2; cases e2
      rw [← hl2]
      exact load_cells (a := ⟨b', s' + a.off, none⟩) rfl (fun j v hv => by
        have := hcell (a.off + j) v (hl3 j v hv)
        rwa [← Nat.add_assoc] at this)
  have hf := toStr_run (P := P) (w := w) .empty hb
  simp only [Conv.bytesToString, Sem.run_bind, hload, Result.andThen_ok]
  rw [← Array.forIn_toList]
  exact (congrArg (fun r : Result ByteArray => r.andThen fun a w' => Result.ok (Value.string a) w') hf)
theorem read_sound {H : AHeap} {op : Op} {e er : Operand → Value} {v : Value} (h : readOp P op e H = some v) (hE : ∀ x ∈ op.operands.toList, VRel ρ (e x) (er x)) (o : Oper) (ho : o.op = op) (w : World) (hH : HRel ρ H w) :
    ∃ r, VRel ρ v r ∧ (execOp er o).run P w = .ok (.value r) w := by
  unfold readOp at h
  split at h
  · rename_i t x
    obtain ⟨r, a, hr, hx, hrun⟩ := loadA_sound h hH (hE x (by simp [Op.operands]))
    exact ⟨r, hr, by simp [execOp, ho, Instr.loadAt, hx, Instr.sureAddr, hrun]⟩
  · rename_i t m k ok
    split at h
    · rename_i d el es clk hm
      split at h
      · rename_i hk
        have hkr := hE k (by simp [Op.operands])
        have hke : er k = e k := plain_eq hkr (isKey_plain hk)
        obtain ⟨kt, hu, hkk, hcase⟩ := map_sound hm hH (hE m (by simp [Op.operands]))
        obtain ⟨hku, _⟩ := key_und hkk
        have fin : ∀ {es' : List MapEntry}, EsRel ρ es es' → ∀ {v : Value}, (match findA d (e k) es 0, zeroT P el with
            | some (some (_, v)), _ => some (bif ok then .tuple #[v, .bool true] else v)
            | some none, some z => some (bif ok then .tuple #[z, .bool false] else z)
            | _, _ => none) = some v → ∃ r, VRel ρ v r ∧ (do
              let (v, ok') ← match ← Instr.findKey kt (er k) es' with
                | some (_, v) => pure (v, true)
                | none => pure (← zeroValue el, false)
              pure (if ok then .tuple #[v, .bool ok'] else v) : Sem Value).run P w = .ok r w := by
          intro es' hes v hv
          split at hv
          · rename_i j u z hf
            cases hv
            obtain ⟨r', hr', hrel⟩ := find_sound hf hes
            cases r' with
            | none => exact hrel.elim
            | some p =>
              obtain ⟨j', u'⟩ := p
              obtain ⟨_, hu', _⟩ := hrel
              refine ⟨bif ok then .tuple #[u', .bool true] else u', ?_, ?_⟩
              · cases ok
                · exact hu'
                · exact .tuple' (.cons hu' (.cons (.plain _ rfl) (LRel.nil ρ)))
              · simp only [Sem.run_bind, hke, MapKept.run_findKey hku hr', Result.andThen_ok, Sem.run_pure]
                cases ok <;> rfl
          · rename_i z hf hz
            cases hv
            obtain ⟨hpl, hz⟩ := zero_run hz
            obtain ⟨r', hr', hrel⟩ := find_sound hf hes
            cases r' with
            | some p => exact hrel.elim
            | none =>
              refine ⟨bif ok then .tuple #[z, .bool false] else z, ?_, ?_⟩
              · cases ok
                · exact .ofPlain hpl
                · exact .tuple' (.cons (.ofPlain hpl) (.cons (.plain _ rfl) (LRel.nil ρ)))
              · simp only [Sem.run_bind, hke, MapKept.run_findKey hku hr', Result.andThen_ok, Sem.run_pure, hz]
                cases ok <;> rfl
          · cases hv
        rcases hcase with ⟨_, hm', rfl⟩ | ⟨i, b, res, _, hm', hg, hb, hw, hes⟩
        · obtain ⟨r, hr, hrun⟩ := fin EsRel.nil h
          refine ⟨r, hr, ?_⟩
          simp only [execOp, ho, Instr.lookup, Sem.run_bind, run_underlying hu, Result.andThen_ok, hm', Sem.run_pure, hke, check_run hkk hk] at hrun ⊢
          exact congrArg (fun r : Result Value => r.andThen fun a w' => Result.ok (Next.value a) w') hrun
        · obtain ⟨r, hr, hrun⟩ := fin hes h
          refine ⟨r, hr, ?_⟩
          simp only [execOp, ho, Instr.lookup, Sem.run_bind, run_underlying hu, Result.andThen_ok, hm', Sem.run_pure, hke, check_run hkk hk, getMap_run hw] at hrun ⊢
          exact congrArg (fun r : Result Value => r.andThen fun a w' => Result.ok (Next.value a) w') hrun
      · cases h
    · cases h
  · rename_i s d x
    have hx := hE x (by simp [Op.operands])
    split at h
    · rename_i el hs hd he
      split at h
      · rename_i hel
        cases h; rw [he] at hx
        refine ⟨_, .plain _ rfl, ?_⟩
        simp [execOp, ho, convert, run_underlying hs, run_underlying hd, run_underlying hel, hx.sliceNone.1, Conv.bytesToString]
        rfl
      · cases h
    · rename_i el a n c hs hd he
      split at h
      · rename_i cs ro hel hg
        split at h
        · rename_i hn
          split at h
          · rename_i l hl
            split at h
            · rename_i bs hb
              cases h; rw [he] at hx
              refine ⟨_, .plain _ rfl, ?_⟩
              have := conv_sound (P := P) hH hx hg hn hl hb
              obtain ⟨r', rc, hr', _⟩ := hx.sliceSome
              rw [hr'] at this
              simp [execOp, ho, convert, run_underlying hs, run_underlying hd, run_underlying hel, hr', this]
            · cases h
          · cases h
        · cases h
      · cases h
    · cases h
  · rename_i c
    split at h
    · rename_i hcal
      split at h
      · rename_i t ts x xs hts hxs
        have hx := hE x (by simp [Op.operands, Call.operands, hcal]; simpa using (show x ∈ c.args.toList from by rw [hxs]; simp))
        have h0 : c.argTypes[0]? = some t := by rw [← Array.getElem?_toList, hts]; rfl
        have h1 : (c.args.map er)[0]? = some (er x) := by rw [← Array.getElem?_toList, Array.toList_map, hxs]; rfl
        split at h
        · rename_i kt el hu he
          cases h; rw [he] at hx
          refine ⟨_, .plain _ rfl, ?_⟩
          simp [execOp, ho, resolve, hcal, invoke, builtin, Builtin.len_, h0, h1, run_underlying hu, goInt, hx.mapNone]
        · rename_i kt el i hu he
          split at h
          · rename_i es clk hg
            cases h; rw [he] at hx
            obtain ⟨b, hr, hb⟩ := hx.mapSome
            obtain ⟨b', s, r, a1, a2, a3⟩ := hH.obj i _ hg
            rw [hb] at a1; cases a1
            cases r with
            | map res clk2 =>
              obtain ⟨_, rfl, h4⟩ := a3
              refine ⟨_, .plain _ rfl, ?_⟩
              have : res.size = es.length := by rw [h4.1]; simp
              simp [execOp, ho, resolve, hcal, invoke, builtin, Builtin.len_, h0, h1, run_underlying hu, goInt, hr, getMap_run a2, this]
            | _ => exact a3.elim
          · cases h
        · cases h
      · cases h
    · cases h
  · cases h
end
end Go.Ab
