/-
  Operations that lay a block, and operations that read.
-/
import Derived.Test.YtjncmibloiomhaaGreatAb8
namespace Go.Ab
section
variable {P : Program} {ρ : Loc}
theorem cells_obj {c : List Value} {rc : Array Value} {el : TypeId} (h : LRel ρ c rc.toList) : ObjRel ρ 0 (.cells c false) (.cells rc el) := by
  refine ⟨by have := h.1; simp at this ⊢; omega, fun i v hv => ?_, fun _ o _ => by simp⟩
  obtain ⟨r, hr, hv'⟩ := h.get hv
  exact ⟨r, by simpa using hr, hv'⟩
theorem grown_push (w : World) (r : Obj) : Grown w { w with heap := w.heap.push r } r :=
  ⟨by simp, by simp, fun j hj => by simp [Array.getElem?_push, Nat.ne_of_lt hj], ⟨rfl, rfl, rfl⟩⟩
theorem rep_eq (z : List Value) (f : Nat → Value) (hf : ∀ i, i < z.length → z[i]? = some (f i)) : ∀ n, (List.range (n * z.length)).map (fun i => f (i % z.length)) = repeatL z n
  | 0 => by simp [repeatL]
  | n + 1 => by
    rw [repeatL, show (n + 1) * z.length = z.length + n * z.length from by rw [Nat.add_mul]; omega, List.range_add, List.map_append, List.map_map, ← rep_eq z f hf n]
    congr 1
    · apply List.ext_getElem?
      intro i
      simp only [List.getElem?_map]
      by_cases hi : i < z.length
      · rw [List.getElem?_range hi, hf i hi]; simp [Nat.mod_eq_of_lt hi]
      · rw [List.getElem?_eq_none (by simp; omega), List.getElem?_eq_none (by omega)]; rfl
    · apply List.map_congr_left
      intro i _
      simp
theorem rep_arr (z : Array Value) (n : Nat) : ((Array.range (n * z.size)).map (z[· % z.size]!)).toList = repeatL z.toList n := by
  rw [Array.toList_map, Array.toList_range]
  have := rep_eq z.toList (fun i => z[i]!) (fun i hi => by
    simp at hi
    simp [hi]) n
  simpa using this
theorem rep_arr0 (z : Array Value) (n : Nat) : ((Array.range (n * z.size)).map (fun i => (if n * z.size = 0 then (#[] : Array Value) else z)[i % (if n * z.size = 0 then (#[] : Array Value) else z).size]!)).toList = repeatL z.toList n := by
  by_cases h : n * z.size = 0
  · rw [← rep_arr, h]; simp
  · simp only [h, if_false]; exact rep_arr z n

theorem wrap_in {n : Nat} (h : n ≤ 9223372036854775807) : IntKind.i64.wrap (n : Int) = n := by
  have e : ∀ a b : Int, a.emod b = a % b := fun _ _ => rfl
  rw [← wrapA_eq]; simp only [wrapA, e]; split <;> omega
theorem grown_freeze (w : World) (c : Array Value) (el : TypeId) (d : Nat) :
    Grown w (World.freeze { w with heap := w.heap.push (.cells c el), drawn := d } ⟨w.heap.size, c.size, none⟩ 1) (.cells c el (c.size, c.size + 1)) := by
  refine ⟨by simp [World.freeze], ?_, fun j hj => ?_, ⟨by simp [World.freeze], by simp [World.freeze], by simp [World.freeze]⟩⟩
  · simp only [World.freeze, Nat.one_ne_zero, if_false]
    rw [Array.getElem?_eq_getElem (by simp), Array.getElem_modify_self]
    simp
  · simp [World.freeze, Array.getElem?_modify, Array.getElem?_push, Nat.ne_of_lt hj, Nat.ne_of_gt hj]
theorem bytes_conv (el : TypeId) (b : ByteArray) (w : World) : ∃ w' cap arr, (Conv.stringToBytes el b).run P w = .ok (.slice (some ⟨w.heap.size, 0, none⟩) b.data.toList.length cap) w' ∧ b.data.toList.length ≤ cap ∧
    Grown w w' (.cells arr el (arr.size, arr.size + 1)) ∧ arr.size = cap ∧ ∀ (j : Nat) (v : Value), (b.data.toList.map fun b => Value.int .u8 b.toNat)[j]? = some v → arr[j]? = some v := by
  obtain ⟨cap, hcap⟩ : ∃ cap, cap = (Question.appendCap b.size 0 el).cut (w.tape w.drawn (.appendCap b.size 0 el)) := ⟨_, rfl⟩
  obtain ⟨arr, harr⟩ : ∃ arr : Array Value, arr = (b.data.map fun b => Value.int .u8 b.toNat) ++ Array.replicate (cap - b.size) (Value.int .u8 0) := ⟨_, rfl⟩
  refine ⟨_, cap, arr, ?_, ?_, grown_freeze w arr el (w.drawn + 1), ?_, ?_⟩
  · simp only [Conv.stringToBytes, Sem.run_bind, run_choose, Question.forced, Bool.false_eq_true, if_false, Result.andThen_ok, newRow, run_newObj, Sem.run_pure, markStringish, run_shape, ← hcap, ← harr]
    rw [show World.shape? _ w.heap.size = some (el, arr.size) from by simp [World.shape?]]
    simp only [run_freeze, Result.andThen_ok]
    rfl
  · rw [hcap]; exact Nat.le_add_right _ _
  · have : b.size ≤ cap := by rw [hcap]; exact Nat.le_add_right _ _
    have hb : b.data.size = b.size := rfl
    rw [harr]; simp; omega
  · intro j v hv
    rw [List.getElem?_map] at hv
    cases hb : b.data.toList[j]? with
    | none => rw [hb] at hv; cases hv
    | some c =>
      rw [hb] at hv; cases hv
      have hj : j < b.data.size := by have := (List.getElem?_eq_some_iff.1 hb).1; simpa using this
      rw [harr, Array.getElem?_append_left (by simpa using hj)]
      simp at hb ⊢
      exact ⟨c, hb, rfl⟩
theorem alloc_sound {op : Op} {e er : Operand → Value} {ob : AObj} {mk : Nat → Value} (h : allocOp P op e = some (ob, mk)) (hE : ∀ x ∈ op.operands.toList, VRel ρ (e x) (er x)) (o : Oper) (ho : o.op = op) (w : World) :
    ∃ w' vr robj, (execOp er o).run P w = .ok (.value vr) w' ∧ Grown w w' robj ∧ ∀ (ρ' : Loc) i, ρ.le ρ' → ρ' i = some (w.heap.size, 0) → ρ'.len w.heap.size = clen robj → VRel ρ' (mk i) vr ∧ ObjRel ρ' 0 ob robj := by
  have hptr : ∀ (ρ' : Loc) i, ρ' i = some (w.heap.size, 0) → VRel ρ' (ptrTo i) (.pointer (some ⟨w.heap.size, 0, none⟩)) := fun ρ' i hi => .ptr rfl ⟨_, _, hi, rfl⟩
  unfold allocOp at h
  split at h
  · rename_i t
    split at h
    · rename_i z hz
      obtain ⟨hpl, hz⟩ := zero_run hz
      cases h
      refine ⟨_, _, _, by simp [execOp, ho, Instr.alloc, hz, newVar, newRow], grown_push w (.cells z.cells t), fun ρ' i hle hi _ => ⟨hptr ρ' i hi, cells_obj (VRel.ofPlain hpl).cells⟩⟩
    · cases h
  · rename_i t x
    cases h
    refine ⟨_, _, _, by simp [execOp, ho, Instr.box, newVar, newRow], grown_push w (.cells (er x).cells t), fun ρ' i hle hi _ => ⟨hptr ρ' i hi, cells_obj ((hE x (by simp [Op.operands])).mono hle).cells⟩⟩
  · rename_i t len ps
    split at h
    · rename_i el hu
      split at h
      · rename_i s z hs hz
        obtain ⟨hpl, hz⟩ := zero_run hz
        split at h
        · rename_i hc
          split at h
          · rename_i cs hcs
            cases h
            have hsz : z.cells.size = s := by have := hc.2; simpa using this
            obtain ⟨l', hl', hr⟩ := fill_sound (ρ := ρ) (c' := (Array.range (len * s)).map (fun i => (if len * s = 0 then (#[] : Array Value) else z.cells)[i % (if len * s = 0 then (#[] : Array Value) else z.cells).size]!)) _ hcs (by
              rw [← hsz, rep_arr0]; exact ((VRel.ofPlain hpl).cells).repeat_ len) (partsOf_fst e er ps) (partsOf_snd (ρ := ρ) (fun p hp => hE _ (by simp [Op.operands]; exact ⟨p.1, by simpa using hp⟩)))
            refine ⟨_, .slice (some ⟨w.heap.size, 0, none⟩) len len, .cells l' el, ?_, grown_push w _, fun ρ' i hle hi hln => ⟨.slice (Nat.le_refl _) (fun _ => rfl) (fun _ => ⟨_, _, hi, rfl⟩) (fun _ e => by cases e), cells_obj (hr.mono hle)⟩⟩
            have hle : ¬ (len * s > 2 ^ 24) := by omega
            simp only [execOp, ho, Instr.buildSlice, Sem.run_bind, run_underlying hu, Result.andThen_ok, size_run hs, hle, if_false]
            by_cases h0 : len * s = 0
            · simp only [h0, if_true] at hl' ⊢
              simp only [Sem.run_bind, Sem.run_pure, Result.andThen_ok]
              rw [hl']
              simp [newRow]
            · simp only [h0, if_false] at hl' ⊢
              simp only [Sem.run_bind, hz, Sem.run_pure, Result.andThen_ok]
              rw [hl']
              simp [newRow]
          · cases h
        · cases h
      · cases h
    · cases h
  · rename_i t l c
    split at h
    · rename_i el hu
      split at h
      · rename_i s z b l0 c0 hs hz hb hl hcn
        obtain ⟨hpl, hz⟩ := zero_run hz
        split at h
        · rename_i hc
          cases h
          obtain ⟨k1, hk1⟩ := natOf_rel hl (hE l (by simp [Op.operands]))
          obtain ⟨k2, hk2⟩ := natOf_rel hcn (hE c (by simp [Op.operands]))
          have hsz : z.cells.size = s := by have := hc.2.2.2; simpa using this
          refine ⟨_, .slice (some ⟨w.heap.size, 0, none⟩) l0 c0, .cells ((Array.range (c0 * s)).map (fun i => (if c0 * s = 0 then (#[] : Array Value) else z.cells)[i % (if c0 * s = 0 then (#[] : Array Value) else z.cells).size]!)) el, ?_, grown_push w _, fun ρ' i hle hi hln => ⟨.slice (Nat.le_refl _) (fun _ => rfl) (fun _ => ⟨_, _, hi, rfl⟩) (fun _ e => by cases e), cells_obj (by rw [← hsz, rep_arr0]; exact ((VRel.ofPlain hpl).cells).repeat_ c0)⟩⟩
          obtain ⟨i, hi, hib⟩ := bytes_run hb w
          have w1 : IntKind.i64.wrap (l0 : Int) = l0 := wrap_in (by have := hc; omega)
          have w2 : IntKind.i64.wrap (c0 : Int) = c0 := wrap_in (by have := hc; omega)
          have hbc : (b : Int) * (c0 : Int) ≤ 281474976710656 := by have h0 : ((b * c0 : Nat) : Int) ≤ 281474976710656 := Int.ofNat_le.2 hc.2.1; rwa [Int.natCast_mul] at h0
          have e1 : (((decide ((c0 : Int) < 0) || decide ((i.bytes : Int) * (c0 : Int) > 2 ^ 48)) || decide ((l0 : Int) < 0)) || decide ((l0 : Int) > (c0 : Int))) = false := by
            rw [hib, decide_eq_false (by omega), decide_eq_false (by omega), decide_eq_false (by omega), decide_eq_false (by have := hc.1; omega)]; rfl
          simp only [execOp, ho, Instr.makeSlice, Sem.run_bind, run_underlying hu, Result.andThen_ok, hk1, hk2, asInt, asIntOf, Sem.run_pure, hi, w1, w2, e1, if_false, run_askRoom, size_run hs, Int.toNat_natCast, Bool.false_eq_true]
          by_cases h0 : c0 * s = 0
          · simp only [h0, if_true, Sem.run_pure, Result.andThen_ok]
            simp [newRow]
          · simp only [h0, if_false, Sem.run_bind, hz, Sem.run_pure, Result.andThen_ok]
            simp [newRow]
        · cases h
      · cases h
    · cases h
  · rename_i t
    cases h
    refine ⟨_, _, _, by simp [execOp, ho, Instr.makeMap], grown_push w (.map #[] 0), fun ρ' i hle hi _ => ⟨.map hi, rfl, rfl, rfl, fun i e r h => by simp at h⟩⟩
  · rename_i s d x
    split at h
    · rename_i us el b hs hd he
      split at h
      · rename_i hel
        cases h
        have hx := hE x (by simp [Op.operands]); rw [he] at hx
        obtain ⟨w', cap, arr, hrun, hcap, hg, hsz, harr⟩ := bytes_conv (P := P) el b w
        refine ⟨w', .slice (some ⟨w.heap.size, 0, none⟩) b.data.toList.length cap, .cells arr el (arr.size, arr.size + 1), ?_, hg, fun ρ' i hle hi hln => ⟨.slice hcap (fun e => by cases e) (fun _ => ⟨_, _, hi, rfl⟩) (fun z e _ => by cases e; rw [hln]; simp [clen]; omega), ?_, ?_, ?_⟩⟩
        · simp only [execOp, ho, convert, Sem.run_bind, run_underlying hs, run_underlying hd, Result.andThen_ok, hx.string]
          rw [run_underlying hel]
          simp only [Result.andThen_ok, hrun, Sem.run_pure]
        · simp at hcap ⊢; omega
        · intro j v hv
          refine ⟨v, by rw [Nat.zero_add]; exact harr j v hv, ?_⟩
          rw [List.getElem?_map] at hv
          cases hb : b.data.toList[j]? with
          | none => rw [hb] at hv; cases hv
          | some c => rw [hb] at hv; cases hv; exact .plain _ rfl
        · intro _ o ho'
          rw [decide_eq_false (by omega)]; rfl
      · cases h
    · cases h
  · cases h
end
end Go.Ab
