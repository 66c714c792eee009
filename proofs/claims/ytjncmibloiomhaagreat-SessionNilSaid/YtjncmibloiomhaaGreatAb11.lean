/-
  Operations that change memory, the first part: cells.
-/
import Derived.Test.YtjncmibloiomhaaGreatAb10
namespace Go.Ab
section
variable {P : Program} {ρ : Loc}
noncomputable def Upd.id : Upd → AHeap → Nat
  | .new _ _, H => H.next
  | _, _ => 0
theorem lay_get {c vs : List Value} {o : Nat} (h : o + vs.length ≤ c.length) (i : Nat) : (lay c o vs)[i]? = if i < o then c[i]? else if i < o + vs.length then vs[i - o]? else c[i]? := by
  unfold lay
  have hl : (c.take o).length = o := by simp; omega
  by_cases h1 : i < o
  · rw [if_pos h1, List.append_assoc, List.getElem?_append_left (by omega), List.getElem?_take, if_pos h1]
  · rw [if_neg h1, List.append_assoc, List.getElem?_append_right (by omega), hl]
    by_cases h2 : i < o + vs.length
    · rw [if_pos h2, List.getElem?_append_left (by omega)]
    · rw [if_neg h2, List.getElem?_append_right (by omega), List.getElem?_drop]
      congr 1; omega
theorem lay_length {c vs : List Value} {o : Nat} (h : o + vs.length ≤ c.length) : (lay c o vs).length = c.length := by
  unfold lay; simp; omega
theorem turned_set {w : World} {b : Nat} {rc : Array Value} {el : TypeId} {fr : Nat × Nat} (hb : w.heap[b]? = some (.cells rc el fr)) (o : Nat) (v : Value) :
    Turned w (w.setCell ⟨b, o, none⟩ v) b (.cells (rc.setIfInBounds o v) el fr) := by
  have hlt := (Array.getElem?_eq_some_iff.1 hb).1
  have hv := (Array.getElem?_eq_some_iff.1 hb).2
  refine ⟨by simp [World.setCell], ⟨_, hb, by simp [clen]⟩, ?_, fun j hj => by simp [World.setCell, Array.getElem?_modify, Ne.symm hj], ⟨rfl, rfl, rfl⟩⟩
  simp only [World.setCell]
  rw [Array.getElem?_eq_getElem (by simpa using hlt), Array.getElem_modify_self, hv]
  simp
theorem Turned.trans {w w1 w2 : World} {b : Nat} {r r' : Obj} (h : Turned w w1 b r) (k : Turned w1 w2 b r') : Turned w w2 b r' :=
  ⟨by rw [k.size, h.size], by
    obtain ⟨r0, h1, h2⟩ := h.was
    obtain ⟨r1, h3, h4⟩ := k.was
    rw [h.at_] at h3; cases h3
    exact ⟨r0, h1, h2.trans h4⟩, k.at_, fun j hj => by rw [k.other j hj, h.other j hj], h.calm.trans k.calm⟩
theorem turned_cells : ∀ (vs : List Value) {w : World} {b : Nat} {rc : Array Value} {el : TypeId} {fr : Nat × Nat} (o : Nat), w.heap[b]? = some (.cells rc el fr) → o + vs.length ≤ rc.size →
    ∃ rc', rc'.toList = lay rc.toList o vs ∧ Turned w (w.setCells b o vs) b (.cells rc' el fr)
  | [], w, b, rc, el, fr, o, hb, h => ⟨rc, by simp [lay], rfl, ⟨_, hb, rfl⟩, hb, fun _ _ => rfl, Calm.refl w⟩
  | v :: vs, w, b, rc, el, fr, o, hb, h => by
    have h1 := turned_set hb o v
    obtain ⟨rc', e, h2⟩ := turned_cells vs (o + 1) h1.at_ (by simp at h ⊢; omega)
    refine ⟨rc', ?_, h1.trans h2⟩
    rw [e, Array.toList_setIfInBounds]
    exact lay_set _ _ _ _ (by simp at h ⊢; omega)
theorem one_eq (v : Value) : v.oneCell' = one v := by cases v <;> rfl
/-- other cells in a block that may be written -/
theorem store_sound {H : AHeap} {w : World} (hH : HRel ρ H w) {i : Nat} {c vs : List Value} {vs' : List Value} {o : Nat} (hi : H.get i = some (.cells c false)) (hvs : LRel ρ vs vs') (ho : o + vs.length ≤ c.length) (h1 : vs.all one = true) :
    ∃ b s w', ρ i = some (b, s) ∧ (storeCells ⟨b, s + o, none⟩ vs').run P w = .ok () w' ∧ Step ρ H w ρ (H.put i (some (.cells (lay c o vs) false))) w' := by
  obtain ⟨b, s, rc, el, fr, h2, hb, hle, hl, hfr, hcell⟩ := cells_there hH hi
  have hlen := hvs.1
  have hone : ∀ v ∈ vs', v.oneCell' = true := by
    intro v hv
    obtain ⟨j, hj, rfl⟩ := List.mem_iff_getElem.1 hv
    have hj' : j < vs.length := by omega
    have := hvs.2 j vs[j] vs'[j] (List.getElem?_eq_getElem hj') (List.getElem?_eq_getElem hj)
    rw [one_eq, this.one]
    exact List.all_eq_true.1 h1 _ (List.getElem_mem hj')
  have hrun := run_storeCells_cells (P := P) b (s + o) vs' 0 w (fun j hj => by
      have : s + o + 0 + j < rc.size := by omega
      simp [World.cell?, hb]; omega) (fun j hj => by
      have : s + o + 0 + j < rc.size := by omega
      have := hfr rfl _ this
      simpa [World.frozen?, hb] using this) hone
  obtain ⟨rc', e, ht⟩ := turned_cells vs' (s + o) hb (by omega)
  refine ⟨b, s, _, h2, hrun, Step.put hH hi rfl h2 ht ?_ rfl⟩
  have hsz : rc'.size = rc.size := by
    have := congrArg List.length e
    rw [lay_length (by simp; omega)] at this
    simpa using this
  refine ⟨by rw [lay_length ho, hsz]; exact hle, fun j v hv => ?_, fun _ => by rw [hsz]; exact hfr rfl⟩
  rw [← Array.getElem?_toList, e, lay_get (by simp; omega)]
  rw [lay_get ho] at hv
  have hold : ∀ v, c[j]? = some v → ∃ r, rc.toList[s + j]? = some r ∧ VRel ρ v r := by
    intro v hv
    obtain ⟨r, hr, hvr⟩ := hl.get hv
    rw [List.getElem?_take] at hr
    split at hr
    · exact ⟨r, by rwa [List.getElem?_drop] at hr, hvr⟩
    · cases hr
  by_cases a1 : j < o
  · rw [if_pos a1] at hv
    rw [if_pos (by omega)]
    exact hold v hv
  · rw [if_neg a1] at hv
    rw [if_neg (by omega)]
    by_cases a2 : j < o + vs.length
    · rw [if_pos a2] at hv
      rw [if_pos (by omega), show s + j - (s + o) = j - o from by omega]
      exact hvs.get hv
    · rw [if_neg a2] at hv
      rw [if_neg (by omega)]
      exact hold v hv
theorem loadVar_fst (t : TypeId) : True := trivial
theorem storeVar_sound {H : AHeap} {w : World} {t : TypeId} {n i o : Nat} {c : List Value} {v v' : Value} {a' : Value} (hH : HRel ρ H w) (hn : sizeT P t = some n) (hlen : v.cells.toList.length = n) (h1 : v.cells.toList.all one = true)
    (hi : H.get i = some (.cells c false)) (ho : o + n ≤ c.length) (hv : VRel ρ v v') (ha : VRel ρ (.pointer (some ⟨i, o, none⟩)) a') :
    ∃ r w', a' = .pointer (some r) ∧ (storeVar t r v').run P w = .ok () w' ∧ Step ρ H w ρ (H.put i (some (.cells (lay c o v.cells.toList) false))) w' := by
  obtain ⟨r, rfl, _, b, s, e1, rfl⟩ := ha.ptrSome
  obtain ⟨b', s', w', e2, hrun, hst⟩ := store_sound (P := P) hH hi hv.cells (o := o) (by omega) h1
  rw [e1] at e2; cases e2
  refine ⟨_, w', rfl, ?_, hst⟩
  have hsz : v'.cells.size = n := by have := hv.cells.1; simp at this hlen; omega
  simp [storeVar, size_run hn, hsz, hrun]

/-! ### append -/
theorem src_sound {H : AHeap} {w : World} {sz n : Nat} {x x' : Value} {l : List Value} (h : srcA sz x n H = some l) (hH : HRel ρ H w) (hx : VRel ρ x x') :
    ∃ l', LRel ρ l l' ∧ ∀ w2 : World, w2.heap = w.heap → (Builtin.firstCells sz n x').run P w2 = .ok l'.toArray w2 := by
  unfold srcA at h
  split at h
  · rename_i b
    split at h
    · rename_i hn
      cases h
      rw [hx.string]
      refine ⟨_, LRel.map _ _ _ (fun _ _ => .plain _ rfl), fun w2 _ => ?_⟩
      simp only [Builtin.firstCells, Sem.run_pure]
      congr 1
      apply Array.ext'
      simp [ByteArray.data_extract, List.extract]
    · cases h
  · split at h
    · rename_i hn
      cases h
      rw [hx.sliceNone.1]
      exact ⟨[], LRel.nil ρ, fun _ _ => rfl⟩
    · cases h
  · rename_i a len c
    obtain ⟨r', rc0, rfl, hc', _, ha⟩ := hx.sliceSome
    split at h
    · rename_i hn
      split at h
      · rename_i h0
        cases h
        refine ⟨[], LRel.nil ρ, fun w2 _ => ?_⟩
        simp only [Builtin.firstCells, h0]; rfl
      · rename_i h0
        split at h
        · rename_i cs ro hg
          obtain ⟨b', s', rc, el, fr, e2, hbk, hle, hl, _, hcell⟩ := cells_there hH hg
          obtain ⟨l', hl1, hl2, hl3⟩ := cut_sub h hl
          obtain ⟨b, s, e1, rfl⟩ := ha (by
            have : n ≠ 0 := fun e => h0 (by rw [e]; omega)
            omega)
          rw [e1] at e2; cases e2
          refine ⟨l', hl1, fun w2 e => ?_⟩
          have hc2 : ∀ a, w2.cell? a = w.cell? a := fun a => by simp [World.cell?, e]
          simp only [Builtin.firstCells]
          rw [← hl2]
          exact load_cells (a := ⟨b', s' + a.off, none⟩) rfl (fun j v hv => by
            rw [hc2]
            have := hcell (a.off + j) v (hl3 j v hv)
            rwa [← Nat.add_assoc] at this)
        · cases h
    · cases h
  · cases h
theorem len_sound {w : World} {n : Nat} {x x' : Value} (h : lenA x = some n) (hx : VRel ρ x x') : (Builtin.lenOf x').run P w = .ok n w := by
  unfold lenA at h
  split at h <;> cases h
  · rw [hx.sliceNone.1]; rfl
  · obtain ⟨_, _, rfl, _⟩ := hx.sliceSome; rfl
  · rw [hx.string]; rfl
end
end Go.Ab
