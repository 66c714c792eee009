/-
  append, copy, clear.
-/
import Derived.Test.YtjncmibloiomhaaGreatAb12
namespace Go.Ab
section
variable {P : Program} {ρ : Loc}
theorem fresh_one {ρ : Loc} {n : Nat} (h : Fresh ρ n (n + 1)) : ρ n = none := h n (Nat.le_refl _) (Nat.lt_succ_self _)
theorem grown_of (w w' : World) (r : Obj) (h : w'.heap = w.heap.push r) (hc : Calm w w' := by exact ⟨rfl, rfl, rfl⟩) : Grown w w' r :=
  ⟨by rw [h]; simp, by rw [h]; simp, fun j hj => by rw [h]; simp [Array.getElem?_push, Nat.ne_of_lt hj], hc⟩
/-- a new block with cells that are known, and others behind them -/
theorem cells_more {c : List Value} {a : Array Value} {el : TypeId} {c' : List Value} (h : LRel ρ c c') (ha : ∃ r, a.toList = c' ++ r) : ObjRel ρ 0 (.cells c false) (.cells a el) := by
  obtain ⟨r, ha⟩ := ha
  have hsz : a.size = c'.length + r.length := by rw [← Array.length_toList, ha]; simp
  refine ⟨by rw [hsz, h.1]; omega, fun i v hv => ?_, fun _ o _ => by simp⟩
  obtain ⟨x, hx, hvx⟩ := h.get hv
  refine ⟨x, ?_, hvx⟩
  have hlt := (List.getElem?_eq_some_iff.1 hx).1
  rw [← Array.getElem?_toList, ha, Nat.zero_add, List.getElem?_append_left hlt, hx]
theorem grown_slice {ρ' : Loc} {i b n cap sz : Nat} (hi : ρ' i = some (b, 0)) (hc : n ≤ cap) (hlen : cap * sz ≤ ρ'.len b) : VRel ρ' (.slice (some ⟨i, 0, some sz⟩) n n) (.slice (some ⟨b, 0, none⟩) n cap) :=
  .slice (a := ⟨i, 0, some sz⟩) hc (fun e => by cases e) (fun _ => ⟨b, 0, hi, rfl⟩) (fun z e _ => by
    have : sz = z := by simpa using e
    subst this; simpa using hlen)
theorem cut_len {c l : List Value} {o n : Nat} (h : cut c o n = some l) : l.length = n := by
  unfold cut at h
  split at h
  · cases h; simp; omega
  · cases h
theorem grow_len {n l cap sz a b c : Nat} (hl : l + n ≤ cap) (ha : a = l * sz) (hb : b = n * sz) (hc : c = (cap - (l + n)) * sz) : cap * sz ≤ a + b + c := by
  subst ha hb hc
  have : cap = (l + n) + (cap - (l + n)) := by omega
  rw [← Nat.add_mul, ← Nat.add_mul, ← this]; exact Nat.le_refl _
theorem in_place {H : AHeap} {w : World} {a : Addr} {l n rc sz b sh : Nat} {old new new' : List Value} {cs : List Value} (hH : HRel ρ H w) (hn : ρ H.next = none) (hg : H.get a.block = some (.cells cs false)) (e1 : ρ a.block = some (b, sh))
    (hnr : LRel ρ new new') (hnl : new.length = n * sz) (h1 : new.all one = true) (hold : (if l * sz = 0 then some [] else cut cs a.off (l * sz)) = some old) (hfr : l + n ≤ rc) (hsz : (sh + a.off) + rc * sz ≤ ρ.len b) :
    ∃ w', (storeCells ⟨b, sh + a.off + l * sz, none⟩ new').run P w = .ok () w' ∧ Step ρ H w (upd ρ H.next (b, sh + a.off) (ρ.len b)) ((H.put a.block none).new (.cells (old ++ new) false)) w' := by
  obtain ⟨b', sh', ra, el, fr, e2, hb, hle, hl, hf, hcell⟩ := cells_there hH hg
  rw [e1] at e2; cases e2
  have hra : ra.size = ρ.len b := by
    obtain ⟨r, h2, h3⟩ := hH.dom _ _ _ e1
    rw [hb] at h2; cases h2; exact h3
  have hlen := hnr.1
  have hmul : (l + n) * sz ≤ rc * sz := Nat.mul_le_mul_right _ hfr
  rw [Nat.add_mul] at hmul
  have hone : ∀ v ∈ new', v.oneCell' = true := by
    intro v hv
    obtain ⟨j, hj, rfl⟩ := List.mem_iff_getElem.1 hv
    have hj' : j < new.length := by omega
    have := hnr.2 j new[j] new'[j] (List.getElem?_eq_getElem hj') (List.getElem?_eq_getElem hj)
    rw [one_eq, this.one]
    exact List.all_eq_true.1 h1 _ (List.getElem_mem hj')
  have hrun := run_storeCells_cells (P := P) b (sh + a.off + l * sz) new' 0 w (fun j hj => by
      have : sh + a.off + l * sz + j < ra.size := by omega
      simp [World.cell?, hb]; omega) (fun j hj => by
      have : sh + a.off + l * sz + 0 + j < ra.size := by omega
      have := hf rfl _ this
      simpa [World.frozen?, hb] using this) hone
  obtain ⟨ra', e, ht⟩ := turned_cells new' (sh + a.off + l * sz) hb (by omega)
  refine ⟨_, hrun, Step.grow hH hn hg rfl e1 ht ?_⟩
  have hle' := upd_le' (ρ := ρ) (i := H.next) (b := b) (s := sh + a.off) hn
  have hsz' : ra'.size = ra.size := by
    have := congrArg List.length e
    rw [lay_length (by simp; omega)] at this
    simpa using this
  have hol : old.length = l * sz := by
    split at hold
    · rename_i h0; cases hold; rw [h0]; rfl
    · exact cut_len hold
  refine ⟨by rw [hsz']; simp; omega, fun j v hv => ?_, fun _ => by rw [hsz']; exact hf rfl⟩
  rw [← Array.getElem?_toList, e, lay_get (by simp; omega)]
  by_cases hj : j < old.length
  · rw [List.getElem?_append_left hj] at hv
    rw [if_pos (by omega)]
    split at hold
    · rename_i h0; cases hold; simp at hj
    · obtain ⟨old', ho1, ho2, ho3⟩ := cut_sub hold hl
      obtain ⟨r, hr, hvr⟩ := ho1.get hv
      have := ho3 j r hr
      rw [List.getElem?_take] at this
      split at this
      · rw [List.getElem?_drop] at this
        refine ⟨r, by rw [Nat.add_assoc]; exact this, hvr.mono hle'⟩
      · cases this
  · rw [List.getElem?_append_right (by omega)] at hv
    obtain ⟨r, hr, hvr⟩ := hnr.get hv
    have hlt := (List.getElem?_eq_some_iff.1 hr).1
    rw [if_neg (by omega), if_pos (by omega), show sh + a.off + j - (sh + a.off + l * sz) = j - old.length from by omega]
    exact ⟨r, hr, hvr.mono hle'⟩
theorem appendA_sound {H : AHeap} {w : World} {t tx : TypeId} {s x s' x' : Value} {ts : Array TypeId} {args : Array Value} {ty : TypeId} {u : Upd} {mk : Nat → Value} (h : appendA P t tx s x H = some (u, mk)) (hH : HRel ρ H w)
    (hs : VRel ρ s s') (hx : VRel ρ x x') (h0 : ts[0]? = some t) (h1 : ts[1]? = some tx) (a0 : args[0]? = some s') (a1 : args[1]? = some x') (hF : Fresh ρ H.next (u.app H).next) :
    ∃ vr w' ρ', (Builtin.append_ ts ty args).run P w = .ok vr w' ∧ VRel ρ' (mk (u.id H)) vr ∧ Step ρ H w ρ' (u.app H) w' := by
  unfold appendA at h
  split at h
  rotate_left
  · cases h
  rename_i el hu
  split at h
  rotate_left
  · cases h
  rename_i sz by_ z hsz hby hz
  obtain hz := zero_run hz
  split at h
  · cases h
  rename_i n new hnew
  split at h
  rotate_left
  · cases h
  rename_i hc
  have hzs : z.cells.size = sz := by have := hc.1; simpa using this
  obtain ⟨d, new', hd, hnr, hsrc⟩ := newA_src hnew hH hx hz hc.2.1 hc.1
  split at h
  · -- nil
    obtain ⟨rfl, _, _⟩ := hs.sliceNone
    split at h
    · rename_i hn0
      cases h
      subst hn0
      refine ⟨.slice none 0 0, w, ρ, ?_, .plain _ rfl, Step.nop hH rfl⟩
      rw [append_fits h0 h1 a0 a1 hu hd hsz hby hsrc (by omega)]; rfl
    · rename_i hn0
      split at h
      · rename_i hb
        cases h
        obtain ⟨cap, rest, w', hrun, hcap, hrs, hheap, hcalm⟩ := append_grows (ty := ty) (old := []) h0 h1 a0 a1 hu hd hsz hby hsrc (by omega) (by rw [Nat.zero_add]; exact hb) (fun _ _ => rfl) hz.2
        have hg := grown_of w w' _ hheap hcalm
        have hst := Step.new hH (fresh_one hF) (o := .cells new false) hg (cells_more (hnr.mono (upd_le hH (fresh_one hF))) ⟨rest.toList, by simp⟩)
        rw [Nat.zero_add] at hrun hcap hrs
        refine ⟨_, w', _, hrun, grown_slice (upd_same _ _ _ _) hcap ?_, hst⟩
        rw [upd_len]
        have := grow_len (l := 0) (n := n) (sz := sz) (cap := cap) (a := 0) (b := new'.length) (c := rest.size) (by omega) (by omega) (by rw [← hnr.1, hc.2.1]) (by rw [hrs, hzs, Nat.zero_add])
        simp [clen]; omega
      · cases h
  · rename_i a l c
    split at h
    rotate_left
    · cases h
    rename_i hlc
    obtain ⟨r', rc, rfl, hcr, hex, ha, hzz⟩ := hs.sliceSome2
    split at h
    · rename_i hfit
      have hfr : l + n ≤ rc := by omega
      have hrun := append_fits (ty := ty) h0 h1 a0 a1 hu hd hsz hby hsrc hfr
      split at h
      · rename_i hz0
        cases h
        have hnil : new' = [] := List.eq_nil_of_length_eq_zero (by rw [← hnr.1, hc.2.1, hz0])
        subst hnil
        refine ⟨.slice (some r') (l + n) rc, w, ρ, by rw [hrun]; rfl, .slice hcr hex ha hzz, Step.nop hH rfl⟩
      · rename_i hz0
        split at h
        · rename_i cs hg
          split at h
          · rename_i hle
            cases h
            obtain ⟨b, sh, e1, rfl⟩ := ha (by
              have : n ≠ 0 := fun e => hz0 (by rw [e, Nat.zero_mul])
              omega)
            obtain ⟨b', sh', w', e2, hst, hstep⟩ := store_sound (P := P) hH hg hnr (o := a.off + l * sz) (by rw [hc.2.1]; exact hle) hc.2.2
            rw [e1] at e2; cases e2
            refine ⟨.slice (some ⟨b, sh + a.off, none⟩) (l + n) rc, w', ρ, ?_, .slice hcr hex ha hzz, hstep⟩
            rw [hrun]
            simp only [add_at, Sem.run_bind]
            rw [Nat.add_assoc, hst]; rfl
          · cases h
        · cases h
    · rename_i hfit
      split at h
      rotate_left
      · cases h
      rename_i hb
      split at h
      rotate_left
      · cases h
      rename_i old hold
      have hl1 : n ≠ 0 := fun e => by omega
      -- the old cells
      obtain ⟨old', hor, horun⟩ : ∃ old', LRel ρ old old' ∧ ∀ w2 : World, w2.heap = w.heap → (Builtin.firstCells sz l (.slice (some r') l rc)).run P w2 = .ok old'.toArray w2 := by
        have : srcA sz (.slice (some a) l c) l H = some old := by
          simp only [srcA, Nat.le_refl, hlc, and_self, if_true]; exact hold
        exact src_sound this hH (.slice hcr hex ha hzz)
      have hollen : old.length = l * sz := by
        split at hold
        · rename_i e; cases hold; rw [e]; rfl
        · split at hold
          · exact cut_len hold
          · cases hold
      split at h
      · rename_i hsp
        cases h
        obtain ⟨cap, rest, w', hrun, hcap, hrs, hheap, hcalm⟩ := append_grows (ty := ty) h0 h1 a0 a1 hu hd hsz hby hsrc (by rw [← hex hsp]; omega) hb horun hz.2
        have hg := grown_of w w' _ hheap hcalm
        have hst := Step.new hH (fresh_one hF) (o := .cells (old ++ new) false) hg (cells_more ((hor.append hnr).mono (upd_le hH (fresh_one hF))) ⟨rest.toList, by simp⟩)
        refine ⟨_, w', _, hrun, grown_slice (upd_same _ _ _ _) hcap ?_, hst⟩
        rw [upd_len]
        have := grow_len (l := l) (n := n) (sz := sz) (cap := cap) (a := old'.length) (b := new'.length) (c := rest.size) hcap (by rw [← hor.1, hollen]) (by rw [← hnr.1, hc.2.1]) (by rw [hrs, hzs])
        simp [clen]; omega
      · rename_i z0 hsp
        split at h
        · rename_i cs hg
          split at h
          · rename_i hz0
            cases h
            by_cases hfr : l + n ≤ rc
            · -- in its place
              have hrun := append_fits (ty := ty) h0 h1 a0 a1 hu hd hsz hby hsrc hfr
              obtain ⟨b, sh, e1, rfl⟩ := ha (by omega)
              subst hz0
              obtain ⟨w', hst, hstep⟩ := in_place (P := P) hH (fresh_one hF) hg e1 hnr hc.2.1 hc.2.2 (by
                rw [hg] at hold; exact hold) hfr (hzz _ hsp (by omega))
              refine ⟨.slice (some ⟨b, sh + a.off, none⟩) (l + n) rc, w', _, ?_, ?_, hstep⟩
              · rw [hrun]
                simp only [add_at, Sem.run_bind, hst]; rfl
              · refine .slice (a := ⟨H.next, 0, some z0⟩) hfr (fun e => by cases e) (fun _ => ⟨b, sh + a.off, upd_same _ _ _ _, rfl⟩) (fun z e _ => ?_)
                have e' : z0 = z := by simpa using e
                subst e'
                rw [show ((upd ρ H.next (b, sh + a.off) (ρ.len b)).len b) = ρ.len b from upd_len _ _ (b, sh + a.off) _]
                exact hzz _ hsp (by omega)
            · obtain ⟨cap, rest, w', hrun, hcap, hrs, hheap, hcalm⟩ := append_grows (ty := ty) h0 h1 a0 a1 hu hd hsz hby hsrc hfr hb horun hz.2
              have hg := grown_of w w' _ hheap hcalm
              have hk := Step.kill hH a.block
              have hf' : ρ (H.put a.block none).next = none := fresh_one hF
              have hst := Step.new hk.rel hf' (o := .cells (old ++ new) false) hg (cells_more ((hor.append hnr).mono (upd_le hk.rel hf')) ⟨rest.toList, by simp⟩)
              refine ⟨_, w', _, hrun, grown_slice (upd_same _ _ _ _) hcap ?_, hk.trans hst⟩
              rw [upd_len]
              have := grow_len (l := l) (n := n) (sz := sz) (cap := cap) (a := old'.length) (b := new'.length) (c := rest.size) hcap (by rw [← hor.1, hollen]) (by rw [← hnr.1, hc.2.1]) (by rw [hrs, hzs])
              simp [clen]; omega
          · cases h
        · cases h
  · cases h
end
end Go.Ab
