/-
  Regions.
-/
import Derived.Test.YtjncmibloiomhaaGreatAb24
namespace Go.Ab
section
variable {P : Program}
section
variable {ops : Array Oper} {l : List SStep} {x0 : Acc} {X : Nat → Acc} {V : Nat → Value} {L L' : Nat → Bool} {marks : List Nat} {ρ0 ρ : Loc} {H0 G : AHeap} {w0 w : World} {a : Act} {p : Nat}
/-- one operation, at whatever time -/
theorem Inv.op (S : Sched P ops l) (T : Trace P ops.toList l x0 X V) (hfl : x0.fl = []) (I : Inv P l X V x0.tm marks ρ0 H0 w0 L p ρ G a w) (h0 : H0.next ≤ (X 0).H.next) {n : Nat} {s : SStep} (hn : l[n]? = some s) (hu : L s.i = false) (hm : ∀ j, s.mask.testBit j = true → L j = true) (hL' : ∀ j, L' j = true ↔ L j = true ∨ j = s.i)
    {ro : Option Nat} {K : Act → World → Prop} {Q : Exit → Act → World → Prop} (hK : ∀ p' ρ' G' a' w', Inv P l X V x0.tm marks ρ0 H0 w0 L' p' ρ' G' a' w' → K a' w') : wpOpIn (FF ro) 0 P ops Q s.i K a w := by
  have hlen : n < l.length := (List.getElem?_eq_some_iff.1 hn).1
  have hpn : p ≤ n := Nat.le_of_not_lt (fun h => by rw [I.low n s h hn] at hu; cases hu)
  have hops : ops[s.i]? = some s.o := (S.step s (List.mem_of_getElem? hn)).1
  have hlook : ∀ d ∈ s.o.looksAt ops, (tmTo L l V x0.tm l.length)[d]? = (X n).tm[d]? := fun d hd => look_eq S T I.closed hn hu hm hd
  have hwant : Region.wanted s.o (yielded ops a.tmps) = wantedA ops.toList s.o (X n).tm := by rw [wanted_rel I.tm, wanted_look hlook]
  have hE : (∀ u ∈ s.o.op.operands.toList, okOperand u = true) → ∀ x ∈ s.o.op.operands.toList, VRel ρ (evT (X n).tm x) (a.eval x) := fun hok x hx => by
    rw [← evT_look hlook x hx]
    exact eval_rel I.tm x (hok x hx)
  unfold wpOpIn
  simp only [hops, hwant]
  have nolay : ∀ {tm : List Value}, X (n + 1) = { X n with tm } → ∀ f, ¬ Lays X n f := fun hy f hf => by
    unfold Lays at hf
    rw [hy] at hf
    have := congrArg List.length hf
    simp at this
  cases T.step n s hn with
  | skipE he hw hv hy =>
    rw [hw]
    simp only [Bool.false_eq_true, if_false]
    obtain ⟨hH, hF, k⟩ := I.effect S T h0 hn hu hm hL' he
    obtain ⟨G', I'⟩ := k (ρ' := ρ) (w' := w) (r := undef) (by rw [hy]; exact Step.refl hH) (by rw [hv]; exact VRel.undef ρ)
    exact ⟨fun _ _ => trivial, hK _ _ _ _ _ I'⟩
  | eff H' he hw hok hs hnx hy =>
    rw [hw]
    simp only [if_true]
    obtain ⟨hH, hF, k⟩ := I.effect S T h0 hn hu hm hL' he
    rw [hy] at hF k
    refine hs ρ w a ro K Q hH hF (hE hok) (fun ρ' vr w' hv hst => ?_)
    obtain ⟨G', I'⟩ := k hst hv
    exact hK _ _ _ _ _ I'
  | skipF he hw hv hy =>
    rw [hw]
    simp only [Bool.false_eq_true, if_false]
    exact ⟨fun _ _ => trivial, hK _ _ _ _ _ (I.quiet S T hn hu hm hL' he (nolay hy) (by rw [hv]; exact VRel.undef ρ))⟩
  | pur he hw hok hp hy =>
    rw [hw]
    simp only [if_true]
    obtain ⟨vr, hvr, hrun⟩ := pure_sound hp (hE hok)
    exact op_value (fun c e => by rw [e] at hp; simp [pureOp] at hp) (hrun s.o w rfl) (.inl rfl) (hK _ _ _ _ _ (I.quiet S T hn hu hm hL' he (nolay hy) hvr))
  | alloc ob mk he hw hok ha hv hy =>
    rw [hw]
    simp only [if_true]
    have hf : Lays X n { i := s.i, c := (X n).c, id := (X n).H.next, ob } := by unfold Lays; rw [hy]
    obtain ⟨hnone, k⟩ := I.lays S T h0 hn hu hm hL' hf
    obtain ⟨w', vr, robj, hrun, hg, hfin⟩ := alloc_sound ha (hE hok) s.o rfl w
    obtain ⟨h1, h2⟩ := hfin _ (X n).H.next (upd_le I.step.rel (s := 0) (n := clen robj) hnone) (upd_same _ _ _ _) (upd_len _ _ (w.heap.size, 0) _)
    have hHe : HRel ρ (⟨(X n).H.next, .leaf⟩ : AHeap) w := ⟨fun i o h => (by cases h), I.step.rel.dom, fun i j o o' b s s' _ h => (by cases h), fun i o h => (by cases h)⟩
    obtain ⟨G', I'⟩ := k (Step.new hHe hnone hg h2) (by rw [hv]; exact h1)
    exact op_value (fun c e => by rw [e] at ha; simp [allocOp] at ha) hrun (.inl rfl) (hK _ _ _ _ _ I')
  | read he hw hok hr hy =>
    rw [hw]
    simp only [if_true]
    have hh := T.hist (p := p) (n - p) (by omega)
    rw [show p + (n - p) = n by omega] at hh
    obtain ⟨es, e1, e2, e3, e4⟩ := hh
    have hv := hr es.length (X p).cur (fun j q hj hq => by
      have hmem : q ∈ es := by
        rw [e1, List.getElem?_append_left hj] at hq
        exact List.mem_of_getElem? hq
      obtain ⟨m, t, a1, a2, a3, a4, a5⟩ := e3 q hmem
      cases hb : s.mask.testBit q.1 with
      | false => rfl
      | true => have := hm _ hb; rw [← a5, I.high m t a1 a3 a4] at this; cases this) e4
    rw [show (X n).c - es.length = (X p).c by omega, I.cur] at hv
    have hsub : ∀ i o, (seen s.mask (X p).c (X p).H (X n).fl).get i = some o → G.get i = some o := fun i o hi => by
      rcases seen_get _ _ _ _ i o hi with h | ⟨f, hf, b1, b2, b3, b4⟩
      · exact (I.get i o).2 (.inl h)
      · obtain ⟨m, hmn, hl⟩ := T.flo hfl n (by omega) f hf
        have ht := List.getElem?_eq_getElem (show m < l.length by omega)
        obtain ⟨_, c1, c2, _⟩ := T.lays ht hl
        refine (I.get i o).2 (.inr ⟨m, _, f, ?_, ht, ?_, hl, b3, b4⟩)
        · exact Nat.le_of_not_lt (fun h => by have := I.cnt m h; omega)
        · rw [← c1]; exact hm _ b1
    have hX : HRel ρ (⟨G.next, (seen s.mask (X p).c (X p).H (X n).fl).tr⟩ : AHeap) w := I.step.rel.sub hsub (fun i o hi => I.step.rel.lt i o (hsub i o hi))
    obtain ⟨vr, hvr, hrun⟩ := read_sound (H := ⟨G.next, (seen s.mask (X p).c (X p).H (X n).fl).tr⟩) hv (hE hok) s.o rfl w hX
    exact op_value (fun c e => by rw [e] at hv; simp [readOp] at hv) hrun (.inl rfl) (hK _ _ _ _ _ (I.quiet S T hn hu hm hL' he (nolay hy) hvr))
theorem Inv.done (T : Trace P ops.toList l x0 X V) (I : Inv P l X V x0.tm marks ρ0 H0 w0 L p ρ G a w) (hall : ∀ s ∈ l, L s.i = true) : SRel ρ { tm := (X l.length).tm, marks, H := (X l.length).H } a w ∧ Step ρ0 H0 w0 ρ (X l.length).H w := by
  have hh := T.heap I.lt (l.length - p) (by have := I.pl; omega) (fun m s h1 h2 h3 => by
    cases hb : s.eff with
    | false => rfl
    | true => have := I.high m s h1 h3 hb; rw [hall s (List.mem_of_getElem? h3)] at this; cases this)
  rw [show p + (l.length - p) = l.length by have := I.pl; omega] at hh
  obtain ⟨wf, hget⟩ := hh
  have hst := I.step.congr (G' := (X l.length).H) (fun i => by
    apply Option.ext
    intro o
    rw [hget, I.get]
    constructor
    · rintro (h | ⟨m, f, a, b, c, d⟩)
      · exact .inl h
      · have ht := List.getElem?_eq_getElem b
        exact .inr ⟨m, _, f, a, ht, hall _ (List.getElem_mem _), c, d⟩
    · rintro (h | ⟨m, t, f, a, b, c, d, e⟩)
      · exact .inl h
      · exact .inr ⟨m, f, a, (List.getElem?_eq_some_iff.1 b).1, d, e⟩) I.next.symm
  exact ⟨⟨by have := I.tm; rw [tmTo_all T hall _ (Nat.le_refl _)] at this; exact this, I.marks, hst.rel⟩, hst⟩
/-- how many are not listed -/
def cntNot : List Bool → Nat
  | [] => 0
  | b :: r => (if b = true then 0 else 1) + cntNot r
theorem cntNot_set : ∀ (l : List Bool) (i : Nat), l[i]? = some false → cntNot (l.set i true) + 1 = cntNot l
  | [], i, h => by simp at h
  | b :: r, 0, h => by simp only [List.getElem?_cons_zero, Option.some.injEq] at h; subst h; simp [cntNot]; omega
  | b :: r, i + 1, h => by
    have := cntNot_set r i (by simpa using h)
    simp only [List.set_cons_succ, cntNot]; omega
theorem cntNot_zero : ∀ (l : List Bool), cntNot l = 0 → ∀ i, i < l.length → l[i]? = some true
  | [], _, i, h => by simp at h
  | b :: r, h, i, hi => by
    cases b with
    | false => simp [cntNot] at h
    | true =>
      cases i with
      | zero => rfl
      | succ i => exact cntNot_zero r (by simpa [cntNot] using h) i (by simpa using hi)
theorem cntNot_rep : ∀ n, cntNot (List.replicate n false) = n
  | 0 => rfl
  | n + 1 => by simp [List.replicate_succ, cntNot, cntNot_rep n]; omega
theorem any_sound (S : Sched P ops l) (T : Trace P ops.toList l x0 X V) (hfl : x0.fl = []) (h0 : H0.next ≤ (X 0).H.next) {ro : Option Nat} {Q : Exit → Act → World → Prop}
    (hQ : ∀ ρ' a' w', SRel ρ' { tm := (X l.length).tm, marks, H := (X l.length).H } a' w' → Step ρ0 H0 w0 ρ' (X l.length).H w' → Q .normal a' w') : ∀ (fuel : Nat) (listed : Array Bool) (p : Nat) (ρ : Loc) (G : AHeap) (a : Act) (w : World),
    listed.size = ops.size → cntNot listed.toList = fuel → Inv P l X V x0.tm marks ρ0 H0 w0 (fun j => listed.getD j false) p ρ G a w → wpAnyIn (FF ro) 0 P .any ops Q fuel listed a w := by
  have hlt : ∀ s ∈ l, s.i < ops.size := fun s hs => (Array.getElem?_eq_some_iff.1 (S.step s hs).1).1
  have fin : ∀ (listed : Array Bool) (p : Nat) (ρ : Loc) (G : AHeap) (a : Act) (w : World), listed.size = ops.size → Inv P l X V x0.tm marks ρ0 H0 w0 (fun j => listed.getD j false) p ρ G a w → Region.ready .any ops listed = [] → Q .normal a w := by
    intro listed p ρ G a w hsz I hr
    have hall : ∀ i, i < ops.size → listed.getD i false = true := by
      intro i
      induction i using Nat.strongRecOn with
      | ind i ih =>
        intro hi
        cases hb : listed.getD i false with
        | true => rfl
        | false =>
          obtain ⟨n, s, hn, hs⟩ := S.all i hi
          have hs' := List.mem_of_getElem? hn
          have hmem : i ∈ Region.ready .any ops listed := by
            rw [mem_ready]
            refine ⟨?_, s.o, by rw [← hs]; exact (S.step s hs').1, fun e he hbi => ?_⟩
            · simp only [Array.getD, hsz, hi, dif_pos] at hb ⊢; exact hb
            · have := S.back s hs' e (by simpa using he) hbi
              exact ih e.on (by omega) (by omega)
          rw [hr] at hmem; cases hmem
    obtain ⟨h1, h2⟩ := I.done T (fun s hs => hall s.i (hlt s hs))
    exact hQ ρ a w h1 h2
  intro fuel
  induction fuel with
  | zero =>
    intro listed p ρ G a w hsz hc I
    have hr : Region.ready .any ops listed = [] := by
      rw [List.eq_nil_iff_forall_not_mem]
      intro i hi
      rw [mem_ready] at hi
      obtain ⟨h1, o, h2, _⟩ := hi
      have hlt := (Array.getElem?_eq_some_iff.1 h2).1
      have := cntNot_zero _ hc i (by simpa [hsz] using hlt)
      rw [Array.getElem?_toList] at this
      have : listed.getD i true = true := by rw [Array.getD_eq_getD_getElem?, this]; rfl
      rw [this] at h1; cases h1
    exact ⟨hr, fin listed p ρ G a w hsz I hr⟩
  | succ fuel ih =>
    intro listed p ρ G a w hsz hc I
    refine ⟨fin listed p ρ G a w hsz I, fun i hi => ?_⟩
    rw [mem_ready] at hi
    obtain ⟨h1, o, h2, h3⟩ := hi
    have hi : i < ops.size := (Array.getElem?_eq_some_iff.1 h2).1
    have hil : i < listed.size := by omega
    obtain ⟨n, s, hn, rfl⟩ := S.all i hi
    have hs := List.mem_of_getElem? hn
    have hso := (S.step s hs).1
    rw [hso] at h2; cases h2
    have hget : listed[s.i]? = some false := by
      simp only [Array.getD, hil, dif_pos] at h1
      rw [Array.getElem?_eq_getElem hil]; exact congrArg some h1
    have hu : listed.getD s.i false = false := by rw [Array.getD_eq_getD_getElem?, hget]; rfl
    refine I.op S T hfl h0 hn hu (fun j hj => ?_) (L' := fun j => (listed.setIfInBounds s.i true).getD j false) (fun j => ?_) (fun p' ρ' G' a' w' I' => ih _ p' ρ' G' a' w' (by simp [hsz]) ?_ I')
    · obtain ⟨e, he, hb, rfl | ⟨t, ht, hte, htj⟩⟩ := S.bits s hs j hj
      · exact h3 e (by simpa using he) hb
      · exact I.closed t ht (by rw [hte]; exact h3 e (by simpa using he) hb) j htj
    · by_cases e : s.i = j
      · subst e
        simp [Array.getD_eq_getD_getElem?, hil]
      · rw [getD_set_ne false e]
        exact ⟨fun h => .inl h, fun h => h.elim id (fun k => absurd k.symm e)⟩
    · have := cntNot_set listed.toList s.i (by rw [Array.getElem?_toList]; exact hget)
      rw [Array.toList_setIfInBounds]; omega
end
theorem HRel.world {ρ : Loc} {H : AHeap} {w w' : World} (h : HRel ρ H w) (e : w'.heap = w.heap) : HRel ρ H w' := h.heap e
theorem region_sound (hm : P.follows .mixedOrders = true) {R : Type} (callF : CallF R) (hcall : CallOk P callF) : RegionOk P callF := by
  intro ops draw st k r h
  cases draw with
  | false =>
    have h : evOps P callF ops.toList ops.toList st k = some r := h
    obtain ⟨st', hk, hmk, hnx, hs⟩ := evOps_sound hcall ops ops.toList (List.range ops.size) st k r h (by
      apply List.ext_getElem?
      intro i
      simp only [List.getElem?_map, List.getElem?_range']
      by_cases hi : i < ops.size
      · simp [List.getElem?_range hi, hi]
      · simp [List.getElem?_eq_none, Nat.le_of_not_lt hi])
    refine ⟨st', hk, hmk, hnx, fun ρ a w ro id Q hS hF hQ => wpIn_region (hs ρ a w ro Q hS hF hQ)⟩
  | true =>
    have h : (match schedOf P ops with
      | some l => evSched P callF ops.toList l st.H [] 0 [] st k
      | none => none) = some r := h
    cases hl : schedOf P ops with
    | none => rw [hl] at h; cases h
    | some l =>
      rw [hl] at h
      simp only at h
      have S := sched_spec hl
      obtain ⟨X, V, T, hk⟩ := evSched_trace hcall ops.toList l _ _ _ _ st k r h
      have hX0 : (X 0).H = st.H := by rw [T.zero]
      refine ⟨_, hk, rfl, by rw [← hX0]; exact T.next_le (Nat.zero_le _) (Nat.le_refl _), fun ρ a w ro id Q hS hF hQ => ?_⟩
      refine wpIn_region_any hm ?_
      have hS' : HRel ρ st.H { w with drawn := w.drawn + 1 } := hS.heap.heap rfl
      obtain ⟨G, hGn, hGg⟩ := heap_of st.H.get (X l.length).H.next
      have hle : st.H.next ≤ (X l.length).H.next := by rw [← hX0]; exact T.next_le (Nat.zero_le _) (Nat.le_refl _)
      have hGe : ∀ i, G.get i = st.H.get i := fun i => by
        rw [hGg]
        by_cases hi : i < (X l.length).H.next
        · rw [if_pos hi]
        · rw [if_neg hi]
          cases hg : st.H.get i with
          | none => rfl
          | some o => have := hS.heap.lt i o hg; omega
      have hfalse : ∀ j, (Array.replicate ops.size false).getD j false = false := fun j => by
        rw [Array.getD_eq_getD_getElem?, Array.getElem?_replicate]
        split <;> rfl
      refine any_sound (H0 := st.H) (w0 := w) (ρ0 := ρ) (marks := st.marks) S T rfl (by rw [hX0]; exact Nat.le_refl _) (fun ρ' a' w' h1 h2 => hQ ρ' a' w' h1 h2) ops.size _ 0 ρ G a _ (by simp) (by rw [Array.toList_replicate]; exact cntNot_rep _) ?_
      refine ⟨Nat.zero_le _, fun i o hi => ?_, by rw [T.zero], fun m hm => absurd hm (Nat.not_lt_zero _), fun m s hm => absurd hm (Nat.not_lt_zero _), fun m s _ _ _ => hfalse _, fun s _ hc => ?_, ?_, hS.marks, fun i o => ?_, hGn, ?_, fun i h1 h2 _ => ?_⟩
      · rw [hX0] at hi ⊢; exact hS.heap.lt i o hi
      · rw [hfalse] at hc; cases hc
      · have : ∀ n, tmTo (fun j => (Array.replicate ops.size false).getD j false) l V st.tm n = st.tm := by
          intro n
          induction n with
          | zero => rfl
          | succ n ih =>
            cases hn : l[n]? with
            | some s => rw [tmTo_out hn (hfalse _), ih]
            | none =>
              show (match l[n]? with
                | some s => if (Array.replicate ops.size false).getD s.i false = true then putL (tmTo _ l V st.tm n) s.o.dst (V n) else tmTo _ l V st.tm n
                | none => tmTo _ l V st.tm n) = _
              rw [hn]; exact ih
        rw [this]; exact hS.tm
      · rw [hGe, hX0]
        exact ⟨fun h => .inl h, fun h => h.elim (fun x => x) (fun ⟨m, s, f, _, _, c, _⟩ => by rw [hfalse] at c; cases c)⟩
      · refine ⟨fun _ _ => rfl, fun _ _ => rfl, by rw [hGn]; exact hle, hS'.sub (fun i o hi => by rw [← hGe]; exact hi) (fun i o hi => ?_), Nat.le_refl _, fun _ _ _ => rfl, fun b hb => .inr ?_, fun b hb => .inr ?_, ⟨rfl, rfl, rfl⟩⟩
        · rw [hGn]
          rw [hGe] at hi
          exact Nat.lt_of_lt_of_le (hS.heap.lt i o hi) hle
        · obtain ⟨i, o, s, a1, a2, a3⟩ := hb
          exact ⟨i, o, s, by rw [← hGe]; exact a1, a2, a3⟩
        · obtain ⟨i, o, s, a1, a3⟩ := hb
          exact ⟨i, o, s, by rw [← hGe]; exact a1, a3⟩
      · rw [hX0] at h1
        exact hF i h1 h2
end
end Go.Ab
