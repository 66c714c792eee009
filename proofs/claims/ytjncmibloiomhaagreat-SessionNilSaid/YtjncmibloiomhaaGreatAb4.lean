/-
  What the abstract heap says of the machine's: values and objects related by where the blocks lie; what a step may change.
-/
import Derived.Test.YtjncmibloiomhaaGreatAb3
namespace Go.Ab

/-- where each block of the abstract heap lies (the machine's block, and from which of its cells on); how many cells the machine's blocks have -/
structure Loc where
  loc : Nat → Option (Nat × Nat)
  len : Nat → Nat
instance : CoeFun Loc (fun _ => Nat → Option (Nat × Nat)) := ⟨Loc.loc⟩
structure Loc.le (ρ ρ' : Loc) : Prop where
  loc : ∀ i p, ρ i = some p → ρ' i = some p
  len : ∀ i b s, ρ i = some (b, s) → ρ'.len b = ρ.len b
theorem Loc.le_refl (ρ : Loc) : ρ.le ρ := ⟨fun _ _ h => h, fun _ _ _ _ => rfl⟩
theorem Loc.le_trans {a b c : Loc} (h : a.le b) (k : b.le c) : a.le c := ⟨fun i p hp => k.loc i p (h.loc i p hp), fun i b s hp => by rw [k.len i b s (h.loc i _ hp), h.len i b s hp]⟩

def ARel (ρ : Loc) (a r : Addr) : Prop := ∃ b s, ρ a.block = some (b, s) ∧ r = ⟨b, s + a.off, none⟩
def FnRel (ρ : Loc) (f g : Fn) : Prop := (∃ i b, f = .yield i ∧ g = .yield b ∧ ρ i = some (b, 0)) ∨ (f = g ∧ ∃ k, f = .func k)
theorem ARel.mono {ρ ρ' : Loc} (h : ρ.le ρ') {a r : Addr} (k : ARel ρ a r) : ARel ρ' a r := by
  obtain ⟨b, s, e, e'⟩ := k; exact ⟨b, s, h.loc _ _ e, e'⟩
theorem FnRel.mono {ρ ρ' : Loc} (h : ρ.le ρ') {f g : Fn} (k : FnRel ρ f g) : FnRel ρ' f g := by
  rcases k with ⟨i, b, e, e', e''⟩ | k
  · exact .inl ⟨i, b, e, e', h.loc _ _ e''⟩
  · exact .inr k

/-- stands for whatever value: nothing but moves and loads is asked of it -/
abbrev opq : Value := .chan (some 0)
/-- what it may stand for -/
def opqOk : Value → Bool
  | .agg _ | .tuple _ | .bool _ => false
  | _ => true
inductive VRel (ρ : Loc) : Value → Value → Prop
  | any (r : Value) (h : opqOk r = true) : VRel ρ (.chan (some 0)) r
  | anyInt (n : Int) : VRel ρ (.chan (some 1)) (.int .i64 n)
  | plain (v : Value) (h : plain0 v = true) : VRel ρ v v
  | ptr {a r : Addr} (hs : a.spot = none) (h : ARel ρ a r) : VRel ρ (.pointer (some a)) (.pointer (some r))
  | slice {a r : Addr} {n c rc : Nat} (hc : c ≤ rc) (he : a.spot = none → c = rc) (h : 0 < rc → ARel ρ a r) (hz : ∀ z, a.spot = some z → 0 < rc → r.off + rc * z ≤ ρ.len r.block) : VRel ρ (.slice (some a) n c) (.slice (some r) n rc)
  | map {i b : Nat} (h : ρ i = some (b, 0)) : VRel ρ (.map (some i)) (.map (some b))
  | func {f g : Fn} {a a' b b' : Array Value} (hf : FnRel ρ f g) (hl : a.toList.length = a'.toList.length) (h : ∀ (i : Nat) (v r : Value), a.toList[i]? = some v → a'.toList[i]? = some r → VRel ρ v r)
      (hl' : b.toList.length = b'.toList.length) (h' : ∀ (i : Nat) (v r : Value), b.toList[i]? = some v → b'.toList[i]? = some r → VRel ρ v r) : VRel ρ (.func f a b) (.func g a' b')
  | iface (t : TypeId) {v r : Value} (h : VRel ρ v r) : VRel ρ (.iface t v) (.iface t r)
  | agg {a a' : Array Value} (hl : a.toList.length = a'.toList.length) (h : ∀ (i : Nat) (v r : Value), a.toList[i]? = some v → a'.toList[i]? = some r → VRel ρ v r) : VRel ρ (.agg a) (.agg a')
  | tuple {a a' : Array Value} (hl : a.toList.length = a'.toList.length) (h : ∀ (i : Nat) (v r : Value), a.toList[i]? = some v → a'.toList[i]? = some r → VRel ρ v r) : VRel ρ (.tuple a) (.tuple a')

theorem VRel.mono {ρ ρ' : Loc} (hρ : ρ.le ρ') {v r : Value} (h : VRel ρ v r) : VRel ρ' v r := by
  induction h with
  | any r h => exact .any r h
  | anyInt n => exact .anyInt n
  | plain v h => exact .plain v h
  | ptr hs h => exact .ptr hs (h.mono hρ)
  | slice hc he h hz => exact .slice hc he (fun k => (h k).mono hρ) (fun z e k => by
      obtain ⟨b, s, e1, e2⟩ := h k
      have := hz z e k
      rw [e2] at this ⊢
      rwa [hρ.len _ _ _ e1])
  | map h => exact .map (hρ.loc _ _ h)
  | func hf hl _ hl' _ ih ih' => exact .func (hf.mono hρ) hl ih hl' ih'
  | iface t _ ih => exact .iface t ih
  | agg hl _ ih => exact .agg hl ih
  | tuple hl _ ih => exact .tuple hl ih

def LRel (ρ : Loc) (l l' : List Value) : Prop := l.length = l'.length ∧ ∀ (i : Nat) (v r : Value), l[i]? = some v → l'[i]? = some r → VRel ρ v r
theorem LRel.mono {ρ ρ' : Loc} (hρ : ρ.le ρ') {l l' : List Value} (h : LRel ρ l l') : LRel ρ' l l' := ⟨h.1, fun i v r hv hr => (h.2 i v r hv hr).mono hρ⟩
theorem LRel.nil (ρ : Loc) : LRel ρ [] [] := ⟨rfl, fun i v r h => by simp at h⟩
theorem LRel.cons {ρ : Loc} {v r : Value} {l l' : List Value} (hv : VRel ρ v r) (h : LRel ρ l l') : LRel ρ (v :: l) (r :: l') :=
  ⟨by simp [h.1], fun i a b ha hb => by
    cases i with
    | zero => simp at ha hb; subst ha hb; exact hv
    | succ i => simp at ha hb; exact h.2 i a b ha hb⟩
theorem LRel.head {ρ : Loc} {v r : Value} {l l' : List Value} (h : LRel ρ (v :: l) (r :: l')) : VRel ρ v r := h.2 0 v r rfl rfl
theorem LRel.tail {ρ : Loc} {v r : Value} {l l' : List Value} (h : LRel ρ (v :: l) (r :: l')) : LRel ρ l l' := ⟨by simpa using h.1, fun i a b ha hb => h.2 (i + 1) a b (by simpa using ha) (by simpa using hb)⟩
theorem LRel.cons_inv {ρ : Loc} {v : Value} {l l' : List Value} (h : LRel ρ (v :: l) l') : ∃ r l'', l' = r :: l'' ∧ VRel ρ v r ∧ LRel ρ l l'' := by
  cases l' with
  | nil => have := h.1; simp at this
  | cons r l'' => exact ⟨r, l'', rfl, h.head, h.tail⟩
theorem LRel.nil_inv {ρ : Loc} {l' : List Value} (h : LRel ρ [] l') : l' = [] := by
  cases l' with
  | nil => rfl
  | cons r l'' => have := h.1; simp at this
theorem LRel.get {ρ : Loc} {l l' : List Value} (h : LRel ρ l l') {i : Nat} {v : Value} (hv : l[i]? = some v) : ∃ r, l'[i]? = some r ∧ VRel ρ v r := by
  have hlt : i < l.length := (List.getElem?_eq_some_iff.1 hv).1
  have hlt' : i < l'.length := h.1 ▸ hlt
  exact ⟨l'[i], List.getElem?_eq_getElem hlt', h.2 i v _ hv (List.getElem?_eq_getElem hlt')⟩
theorem LRel.append {ρ : Loc} {a a' b b' : List Value} (h : LRel ρ a a') (k : LRel ρ b b') : LRel ρ (a ++ b) (a' ++ b') := by
  induction a generalizing a' with
  | nil => rw [h.nil_inv]; exact k
  | cons x a ih => obtain ⟨r, l, rfl, hx, hl⟩ := h.cons_inv; exact .cons hx (ih hl)
theorem LRel.take {ρ : Loc} {a a' : List Value} (h : LRel ρ a a') (n : Nat) : LRel ρ (a.take n) (a'.take n) :=
  ⟨by simp [h.1], fun i v r hv hr => by
    rw [List.getElem?_take] at hv hr
    split at hv
    · exact h.2 i v r hv (by simpa [*] using hr)
    · cases hv⟩
theorem LRel.drop {ρ : Loc} {a a' : List Value} (h : LRel ρ a a') (n : Nat) : LRel ρ (a.drop n) (a'.drop n) :=
  ⟨by simp [h.1], fun i v r hv hr => h.2 (n + i) v r (by simpa [List.getElem?_drop] using hv) (by simpa [List.getElem?_drop] using hr)⟩
theorem LRel.set {ρ : Loc} {a a' : List Value} (h : LRel ρ a a') (n : Nat) {v r : Value} (hv : VRel ρ v r) : LRel ρ (a.set n v) (a'.set n r) :=
  ⟨by simp [h.1], fun i x y hx hy => by
    rw [List.getElem?_set] at hx hy
    by_cases e : n = i
    · subst e
      have hl := h.1
      rw [if_pos rfl] at hx hy
      split at hx
      · rename_i hlt
        rw [if_pos (hl ▸ hlt)] at hy
        cases hx; cases hy; exact hv
      · cases hx
    · rw [if_neg e] at hx hy
      exact h.2 i x y hx hy⟩
theorem LRel.lay {ρ : Loc} {a a' b b' : List Value} (h : LRel ρ a a') (k : LRel ρ b b') (n : Nat) : LRel ρ (lay a n b) (lay a' n b') := by
  unfold Ab.lay
  rw [← k.1]
  exact ((h.take n).append k).append (h.drop _)
theorem LRel.repeat_ {ρ : Loc} {a a' : List Value} (h : LRel ρ a a') (n : Nat) : LRel ρ (repeatL a n) (repeatL a' n) := by
  induction n with
  | zero => exact LRel.nil ρ
  | succ n ih => exact h.append ih
theorem LRel.map {α : Type} {ρ : Loc} (l : List α) (f g : α → Value) (h : ∀ x ∈ l, VRel ρ (f x) (g x)) : LRel ρ (l.map f) (l.map g) := by
  induction l with
  | nil => exact LRel.nil ρ
  | cons x l ih => exact .cons (h x (by simp)) (ih fun y hy => h y (by simp [hy]))

/-! ### what a related value is -/
section
variable {ρ : Loc}
theorem VRel.agg' {a a' : Array Value} (h : LRel ρ a.toList a'.toList) : VRel ρ (.agg a) (.agg a') := .agg h.1 h.2
theorem VRel.tuple' {a a' : Array Value} (h : LRel ρ a.toList a'.toList) : VRel ρ (.tuple a) (.tuple a') := .tuple h.1 h.2
theorem VRel.bool {b : Bool} {r : Value} (h : VRel ρ (.bool b) r) : r = .bool b := by cases h; rfl
theorem VRel.int {k : IntKind} {n : Int} {r : Value} (h : VRel ρ (.int k n) r) : r = .int k n := by cases h; rfl
theorem VRel.string {s : ByteArray} {r : Value} (h : VRel ρ (.string s) r) : r = .string s := by cases h; rfl
theorem VRel.ptrNone {r : Value} (h : VRel ρ (.pointer none) r) : r = .pointer none := by cases h; rfl
theorem VRel.ptrSome {a : Addr} {r : Value} (h : VRel ρ (.pointer (some a)) r) : ∃ r', r = .pointer (some r') ∧ a.spot = none ∧ ARel ρ a r' := by
  cases h with
  | plain _ h => simp [plain0] at h
  | ptr hs h => exact ⟨_, rfl, hs, h⟩
theorem VRel.sliceNone {n c : Nat} {r : Value} (h : VRel ρ (.slice none n c) r) : r = .slice none n c ∧ n = 0 ∧ c = 0 := by
  cases h with
  | plain _ h =>
    cases n <;> cases c <;> first | exact ⟨rfl, rfl, rfl⟩ | simp [plain0] at h
theorem VRel.sliceSome {a : Addr} {n c : Nat} {r : Value} (h : VRel ρ (.slice (some a) n c) r) : ∃ r' rc, r = .slice (some r') n rc ∧ c ≤ rc ∧ (a.spot = none → c = rc) ∧ (0 < rc → ARel ρ a r') := by
  cases h with
  | plain _ h => simp [plain0] at h
  | slice hc he h hz => exact ⟨_, _, rfl, hc, he, h⟩
theorem VRel.sliceSome2 {a : Addr} {n c : Nat} {r : Value} (h : VRel ρ (.slice (some a) n c) r) : ∃ r' rc, r = .slice (some r') n rc ∧ c ≤ rc ∧ (a.spot = none → c = rc) ∧ (0 < rc → ARel ρ a r') ∧ (∀ z, a.spot = some z → 0 < rc → r'.off + rc * z ≤ ρ.len r'.block) := by
  cases h with
  | plain _ h => simp [plain0] at h
  | slice hc he h hz => exact ⟨_, _, rfl, hc, he, h, hz⟩
theorem VRel.mapNone {r : Value} (h : VRel ρ (.map none) r) : r = .map none := by cases h; rfl
theorem VRel.mapSome {i : Nat} {r : Value} (h : VRel ρ (.map (some i)) r) : ∃ b, r = .map (some b) ∧ ρ i = some (b, 0) := by
  cases h with
  | plain _ h => simp [plain0] at h
  | map h => exact ⟨_, rfl, h⟩
theorem VRel.nilFunc {r : Value} (h : VRel ρ .nilFunc r) : r = .nilFunc := by cases h; rfl
theorem VRel.nilIface {r : Value} (h : VRel ρ .nilIface r) : r = .nilIface := by cases h; rfl
theorem VRel.ifaceSome {t : TypeId} {v r : Value} (h : VRel ρ (.iface t v) r) : ∃ r', r = .iface t r' ∧ VRel ρ v r' := by
  cases h with
  | plain _ h => simp [plain0] at h
  | iface _ h => exact ⟨_, rfl, h⟩
theorem VRel.aggSome {a : Array Value} {r : Value} (h : VRel ρ (.agg a) r) : ∃ a', r = .agg a' ∧ LRel ρ a.toList a'.toList := by
  cases h with
  | plain _ h => simp [plain0] at h
  | agg hl h => exact ⟨_, rfl, hl, h⟩
theorem VRel.tupleSome {a : Array Value} {r : Value} (h : VRel ρ (.tuple a) r) : ∃ a', r = .tuple a' ∧ LRel ρ a.toList a'.toList := by
  cases h with
  | plain _ h => simp [plain0] at h
  | tuple hl h => exact ⟨_, rfl, hl, h⟩
theorem VRel.funcSome {f : Fn} {a b : Array Value} {r : Value} (h : VRel ρ (.func f a b) r) : ∃ g a' b', r = .func g a' b' ∧ FnRel ρ f g ∧ LRel ρ a.toList a'.toList ∧ LRel ρ b.toList b'.toList := by
  cases h with
  | plain _ h => simp [plain0] at h
  | func hf hl h hl' h' => exact ⟨_, _, _, rfl, hf, ⟨hl, h⟩, ⟨hl', h'⟩⟩
theorem VRel.cells {v r : Value} (h : VRel ρ v r) : LRel ρ v.cells.toList r.cells.toList := by
  cases h with
  | any r h =>
    cases r <;> first | exact LRel.cons (.any _ h) (LRel.nil ρ) | cases h
  | anyInt n => exact LRel.cons (.anyInt n) (LRel.nil ρ)
  | agg hl h => exact ⟨hl, h⟩
  | plain v h => cases v <;> first | (simp [plain0] at h; done) | exact LRel.cons (.plain _ h) (LRel.nil ρ)
  | ptr hs h => exact LRel.cons (.ptr hs h) (LRel.nil ρ)
  | slice hc he h hz => exact LRel.cons (.slice hc he h hz) (LRel.nil ρ)
  | map h => exact LRel.cons (.map h) (LRel.nil ρ)
  | func a b c d e => exact LRel.cons (.func a b c d e) (LRel.nil ρ)
  | iface t h => exact LRel.cons (.iface t h) (LRel.nil ρ)
  | tuple a b => exact LRel.cons (.tuple a b) (LRel.nil ρ)
theorem VRel.one {v r : Value} (h : VRel ρ v r) : one r = one v := by
  cases h with
  | any r h => cases r <;> first | rfl | cases h
  | _ => rfl
theorem plain0_all {l : List Value} (h : l.all plain0 = true) : LRel ρ l l :=
  ⟨rfl, fun i v r hv hr => by
    rw [hv] at hr; cases hr
    exact .plain v (List.all_eq_true.1 h v (List.mem_of_getElem? hv))⟩
theorem VRel.ofPlain {v : Value} (h : plainV v = true) : VRel ρ v v := by
  unfold plainV at h
  split at h
  · exact .agg' (plain0_all h)
  · exact .tuple' (plain0_all h)
  · rename_i f a b
    simp only [Bool.and_eq_true, List.isEmpty_iff] at h
    refine .func (.inr ⟨rfl, _, rfl⟩) rfl ?_ rfl ?_
    · intro i v r hv; rw [h.1] at hv; simp at hv
    · intro i v r hv; rw [h.2] at hv; simp at hv
  · exact .plain v h
end
theorem VRel.undef (ρ : Loc) : VRel ρ undef undef := .tuple' (LRel.nil ρ)

/-! ### objects -/
def ERel (ρ : Loc) (e r : MapEntry) : Prop := e.born = r.born ∧ VRel ρ e.key r.key ∧ VRel ρ e.val r.val
def EsRel (ρ : Loc) (l l' : List MapEntry) : Prop := l.length = l'.length ∧ ∀ (i : Nat) (e r : MapEntry), l[i]? = some e → l'[i]? = some r → ERel ρ e r
def ObjRel (ρ : Loc) (s : Nat) : AObj → Obj → Prop
  | .cells c ro, .cells rc _ fr => s + c.length ≤ rc.size ∧ (∀ (i : Nat) (v : Value), c[i]? = some v → ∃ r, rc[s + i]? = some r ∧ VRel ρ v r) ∧
      (ro = false → ∀ o, o < rc.size → (decide (fr.1 ≤ o) && decide (o < fr.2)) = false)
  | .map es n, .map res n' => s = 0 ∧ n = n' ∧ EsRel ρ es res.toList
  | .strIter b p, .stringIter b' p' => s = 0 ∧ b = b' ∧ p = p'
  | .mapIter m a l b, .mapIter m' a' l' b' => s = 0 ∧ a = a' ∧ l'.toList = l ∧ b = b' ∧ (match m, m' with | none, none => True | some i, some j => ρ i = some (j, 0) | _, _ => False)
  | .loop st pend _ tm ps as bd d, .loop L => s = 0 ∧ L.state = st ∧ L.pending = pend ∧ LRel ρ tm L.tmps.toList ∧ L.params = ps ∧ L.assign = as ∧ L.body = bd ∧ ρ d = some (L.defers, 0)
  | .marked, .deferred (some []) => s = 0
  | .shut, .deferred none => s = 0
  | _, _ => False
theorem ObjRel.mono {ρ ρ' : Loc} (h : ρ.le ρ') {s : Nat} {o : AObj} {r : Obj} (k : ObjRel ρ s o r) : ObjRel ρ' s o r := by
  unfold ObjRel at k ⊢
  split at k
  · exact ⟨k.1, fun i v hv => let ⟨r, hr, e⟩ := k.2.1 i v hv; ⟨r, hr, e.mono h⟩, k.2.2⟩
  · exact ⟨k.1, k.2.1, k.2.2.1, fun i e r he hr => let ⟨a, b, c⟩ := k.2.2.2 i e r he hr; ⟨a, b.mono h, c.mono h⟩⟩
  · exact k
  · rename_i m a l b m' a' l' b'
    refine ⟨k.1, k.2.1, k.2.2.1, k.2.2.2.1, ?_⟩
    have := k.2.2.2.2
    cases m <;> cases m' <;> first | exact this | exact h.loc _ _ this
  · exact ⟨k.1, k.2.1, k.2.2.1, k.2.2.2.1.mono h, k.2.2.2.2.1, k.2.2.2.2.2.1, k.2.2.2.2.2.2.1, h.loc _ _ k.2.2.2.2.2.2.2⟩
  · exact k
  · exact k
  · exact k.elim

/-! ### heaps -/
def clen : Obj → Nat
  | .cells c _ _ => c.size
  | _ => 0
structure HRel (ρ : Loc) (H : AHeap) (w : World) : Prop where
  obj : ∀ i o, H.get i = some o → ∃ b s r, ρ i = some (b, s) ∧ w.heap[b]? = some r ∧ ObjRel ρ s o r
  dom : ∀ i b s, ρ i = some (b, s) → ∃ r, w.heap[b]? = some r ∧ clen r = ρ.len b
  inj : ∀ i j o o' b s s', i ≠ j → H.get i = some o → H.get j = some o' → o.free = true → ρ i = some (b, s) → ρ j = some (b, s') → False
  lt : ∀ i o, H.get i = some o → i < H.next
def Live (ρ : Loc) (H : AHeap) (b : Nat) : Prop := ∃ i o s, H.get i = some o ∧ ρ i = some (b, s)
def Owned (ρ : Loc) (H : AHeap) (b : Nat) : Prop := ∃ i o s, H.get i = some o ∧ o.free = true ∧ ρ i = some (b, s)
def Fresh (ρ : Loc) (n n' : Nat) : Prop := ∀ i, n ≤ i → i < n' → ρ i = none
/-- the streams are as they were -/
structure Calm (w w' : World) : Prop where
  os : w'.os = w.os
  tape : w'.tape = w.tape
  output : w'.output = w.output
theorem Calm.refl (w : World) : Calm w w := ⟨rfl, rfl, rfl⟩
theorem Calm.trans {a b c : World} (h : Calm a b) (k : Calm b c) : Calm a c := ⟨k.os.trans h.os, k.tape.trans h.tape, k.output.trans h.output⟩
structure Step (ρ : Loc) (H : AHeap) (w : World) (ρ' : Loc) (H' : AHeap) (w' : World) : Prop where
  ext : ∀ i, ¬ (H.next ≤ i ∧ i < H'.next) → ρ' i = ρ i
  len : ∀ b, b < w.heap.size → ρ'.len b = ρ.len b
  next : H.next ≤ H'.next
  rel : HRel ρ' H' w'
  size : w.heap.size ≤ w'.heap.size
  same : ∀ b, b < w.heap.size → ¬ Owned ρ H b → w'.heap[b]? = w.heap[b]?
  own : ∀ b, Owned ρ' H' b → w.heap.size ≤ b ∨ Owned ρ H b
  live : ∀ b, Live ρ' H' b → w.heap.size ≤ b ∨ Live ρ H b
  calm : Calm w w'
theorem HRel.dom_lt {ρ : Loc} {H : AHeap} {w : World} (h : HRel ρ H w) {i b s : Nat} (hi : ρ i = some (b, s)) : b < w.heap.size := by
  obtain ⟨r, hr, _⟩ := h.dom i b s hi
  exact (Array.getElem?_eq_some_iff.1 hr).1
theorem Step.le {ρ ρ' : Loc} {H H' : AHeap} {w w' : World} (h : Step ρ H w ρ' H' w') (hH : HRel ρ H w) (hf : Fresh ρ H.next H'.next) : ρ.le ρ' := ⟨fun i p hp => by
  by_cases hi : H.next ≤ i ∧ i < H'.next
  · rw [hf i hi.1 hi.2] at hp; cases hp
  · rw [h.ext i hi]; exact hp, fun i b s hi => h.len b (hH.dom_lt hi)⟩
theorem Step.fresh {ρ ρ' : Loc} {H H' : AHeap} {w w' : World} (h : Step ρ H w ρ' H' w') {n : Nat} (hf : Fresh ρ H.next n) : Fresh ρ' H'.next n := fun i hi hn => by
  rw [h.ext i (fun k => by omega)]; exact hf i (Nat.le_trans h.next hi) hn
theorem Fresh.le {ρ : Loc} {n m k : Nat} (h : Fresh ρ n k) (hm : m ≤ k) : Fresh ρ n m := fun i a b => h i a (Nat.lt_of_lt_of_le b hm)
theorem Step.refl {ρ : Loc} {H : AHeap} {w : World} (h : HRel ρ H w) : Step ρ H w ρ H w :=
  ⟨fun _ _ => rfl, fun _ _ => rfl, Nat.le_refl _, h, Nat.le_refl _, fun _ _ _ => rfl, fun _ h => .inr h, fun _ h => .inr h, Calm.refl w⟩
theorem Step.trans {ρ ρ1 ρ2 : Loc} {H H1 H2 : AHeap} {w w1 w2 : World} (h : Step ρ H w ρ1 H1 w1) (k : Step ρ1 H1 w1 ρ2 H2 w2) : Step ρ H w ρ2 H2 w2 where
  ext i hi := by
    have a := h.next; have b := k.next
    rw [k.ext i (fun x => hi ⟨by omega, x.2⟩), h.ext i (fun x => hi ⟨x.1, by omega⟩)]
  len b hb := by rw [k.len b (Nat.lt_of_lt_of_le hb h.size), h.len b hb]
  next := Nat.le_trans h.next k.next
  rel := k.rel
  size := Nat.le_trans h.size k.size
  same b hb ho := by
    rw [k.same b (Nat.lt_of_lt_of_le hb h.size) (fun x => (h.own b x).elim (fun y => absurd hb (by omega)) ho), h.same b hb ho]
  own b hb := by
    rcases k.own b hb with x | x
    · exact .inl (Nat.le_trans h.size x)
    · exact h.own b x
  live b hb := by
    rcases k.live b hb with x | x
    · exact .inl (Nat.le_trans h.size x)
    · exact h.live b x
  calm := h.calm.trans k.calm

theorem HRel.heap {ρ : Loc} {H : AHeap} {w w' : World} (h : HRel ρ H w) (e : w'.heap = w.heap) : HRel ρ H w' :=
  ⟨fun i o hi => let ⟨b, s, r, x, y, z⟩ := h.obj i o hi; ⟨b, s, r, x, by rw [e]; exact y, z⟩, fun i b s hi => by rw [e]; exact h.dom i b s hi, h.inj, h.lt⟩
theorem Step.nop {ρ : Loc} {H : AHeap} {w w' : World} (h : HRel ρ H w) (e : w'.heap = w.heap) (hc : Calm w w' := by exact ⟨rfl, rfl, rfl⟩) : Step ρ H w ρ H w' :=
  ⟨fun _ _ => rfl, fun _ _ => rfl, Nat.le_refl _, h.heap e, by rw [e]; exact Nat.le_refl _, fun _ _ _ => by rw [e], fun _ h => .inr h, fun _ h => .inr h, hc⟩
/-- the heap turned at one block -/
structure Turned (w w' : World) (b : Nat) (r : Obj) : Prop where
  size : w'.heap.size = w.heap.size
  was : ∃ r0, w.heap[b]? = some r0 ∧ clen r0 = clen r
  at_ : w'.heap[b]? = some r
  other : ∀ j, j ≠ b → w'.heap[j]? = w.heap[j]?
  calm : Calm w w'
/-- a block more -/
structure Grown (w w' : World) (r : Obj) : Prop where
  size : w'.heap.size = w.heap.size + 1
  at_ : w'.heap[w.heap.size]? = some r
  other : ∀ j, j < w.heap.size → w'.heap[j]? = w.heap[j]?
  calm : Calm w w'
theorem Turned.dom {ρ : Loc} {H : AHeap} {w w' : World} {b : Nat} {r : Obj} (ht : Turned w w' b r) (h : HRel ρ H w) (i c s : Nat) (hi : ρ i = some (c, s)) : ∃ r, w'.heap[c]? = some r ∧ clen r = ρ.len c := by
  obtain ⟨r1, h1, h2⟩ := h.dom i c s hi
  by_cases e : c = b
  · subst e
    obtain ⟨r0, h3, h4⟩ := ht.was
    rw [h1] at h3; cases h3
    exact ⟨r, ht.at_, by rw [← h4, h2]⟩
  · exact ⟨r1, by rw [ht.other c e]; exact h1, h2⟩
theorem Step.put {ρ : Loc} {H : AHeap} {w w' : World} (h : HRel ρ H w) {i b s : Nat} {o o' : AObj} {r' : Obj} (hi : H.get i = some o) (hf : o.free = true) (hp : ρ i = some (b, s))
    (ht : Turned w w' b r') (hr : ObjRel ρ s o' r') (hf' : o'.free = true) : Step ρ H w ρ (H.put i (some o')) w' where
  ext _ _ := rfl
  len _ _ := rfl
  next := Nat.le_refl _
  size := by rw [ht.size]; exact Nat.le_refl _
  calm := ht.calm
  same c hc ho := ht.other c (fun e => ho ⟨i, o, s, hi, hf, by rw [e]; exact hp⟩)
  own c hc := by
    obtain ⟨j, oj, sj, hj, hjf, hjp⟩ := hc
    rw [AHeap.get_put] at hj
    by_cases e : i = j
    · subst e; exact .inr ⟨i, o, sj, hi, hf, hjp⟩
    · rw [if_neg e] at hj; exact .inr ⟨j, oj, sj, hj, hjf, hjp⟩
  live c hc := by
    obtain ⟨j, oj, sj, hj, hjp⟩ := hc
    rw [AHeap.get_put] at hj
    by_cases e : i = j
    · subst e; exact .inr ⟨i, o, sj, hi, hjp⟩
    · rw [if_neg e] at hj; exact .inr ⟨j, oj, sj, hj, hjp⟩
  rel := by
    refine ⟨fun j oj hj => ?_, ht.dom h, fun j k oj ok c t t' hjk hj hk hjf hjp hkp => ?_, fun j oj hj => ?_⟩
    · rw [AHeap.get_put] at hj
      by_cases e : i = j
      · subst e; rw [if_pos rfl] at hj; cases hj; exact ⟨b, s, r', hp, ht.at_, hr⟩
      · rw [if_neg e] at hj
        obtain ⟨c, t, rr, a1, a2, a3⟩ := h.obj j oj hj
        refine ⟨c, t, rr, a1, ?_, a3⟩
        rw [ht.other c (fun ec => h.inj i j o oj b s t e hi hj hf hp (by rw [a1, ec]))]; exact a2
    · rw [AHeap.get_put] at hj hk
      by_cases e : i = j
      · subst e
        rw [if_neg hjk] at hk
        exact h.inj i k o ok c t t' hjk hi hk hf hjp hkp
      · rw [if_neg e] at hj
        by_cases e' : i = k
        · subst e'; exact h.inj j i oj o c t t' hjk hj hi hjf hjp hkp
        · rw [if_neg e'] at hk; exact h.inj j k oj ok c t t' hjk hj hk hjf hjp hkp
    · rw [AHeap.get_put] at hj
      by_cases e : i = j
      · subst e; exact h.lt i o hi
      · rw [if_neg e] at hj; exact h.lt j oj hj
def upd (ρ : Loc) (i : Nat) (p : Nat × Nat) (n : Nat) : Loc := ⟨fun j => if j = i then some p else ρ j, fun b => if b = p.1 then n else ρ.len b⟩
theorem upd_same (ρ : Loc) (i : Nat) (p : Nat × Nat) (n : Nat) : upd ρ i p n i = some p := if_pos rfl
theorem upd_other (ρ : Loc) {i j : Nat} (p : Nat × Nat) (n : Nat) (h : j ≠ i) : upd ρ i p n j = ρ j := if_neg h
theorem upd_len (ρ : Loc) (i : Nat) (p : Nat × Nat) (n : Nat) : (upd ρ i p n).len p.1 = n := if_pos rfl
theorem upd_len_other (ρ : Loc) (i : Nat) (p : Nat × Nat) (n : Nat) {b : Nat} (h : b ≠ p.1) : (upd ρ i p n).len b = ρ.len b := if_neg h
theorem upd_le {ρ : Loc} {H : AHeap} {w : World} (hH : HRel ρ H w) {i s n : Nat} (h : ρ i = none) : ρ.le (upd ρ i (w.heap.size, s) n) := ⟨fun j q hq => by
  by_cases e : j = i
  · subst e; rw [h] at hq; cases hq
  · rw [upd_other ρ _ _ e]; exact hq, fun j b s' hj => upd_len_other _ _ _ _ (by have := hH.dom_lt hj; omega)⟩
theorem upd_le' {ρ : Loc} {i b s : Nat} (h : ρ i = none) : ρ.le (upd ρ i (b, s) (ρ.len b)) := ⟨fun j q hq => by
  by_cases e : j = i
  · subst e; rw [h] at hq; cases hq
  · rw [upd_other ρ _ _ e]; exact hq, fun j b' s' hj => by
  by_cases e : b' = b
  · subst e; exact upd_len _ _ (b', s) _
  · exact upd_len_other _ _ (b, s) _ e⟩
theorem HRel.lt_size {ρ : Loc} {H : AHeap} {w : World} (h : HRel ρ H w) {i b s : Nat} {o : AObj} (hi : H.get i = some o) (hp : ρ i = some (b, s)) : b < w.heap.size := by
  obtain ⟨c, t, r, a1, a2, _⟩ := h.obj i o hi
  rw [hp] at a1; cases a1
  exact (Array.getElem?_eq_some_iff.1 a2).1
theorem Step.new {ρ : Loc} {H : AHeap} {w w' : World} (h : HRel ρ H w) (hn : ρ H.next = none) {o : AObj} {r : Obj} (hg : Grown w w' r)
    (hr : ObjRel (upd ρ H.next (w.heap.size, 0) (clen r)) 0 o r) : Step ρ H w (upd ρ H.next (w.heap.size, 0) (clen r)) (H.new o) w' where
  ext i hi := upd_other ρ _ _ (fun e => hi ⟨by omega, by rw [AHeap.next_new]; omega⟩)
  len b hb := upd_len_other _ _ _ _ (by show b ≠ w.heap.size; omega)
  next := Nat.le_succ _
  size := by rw [hg.size]; exact Nat.le_succ _
  calm := hg.calm
  same c hc _ := hg.other c hc
  own c hc := by
    obtain ⟨j, oj, sj, hj, hjf, hjp⟩ := hc
    rw [AHeap.get_new] at hj
    by_cases e : H.next = j
    · subst e; rw [upd_same] at hjp; cases hjp; exact .inl (Nat.le_refl _)
    · rw [if_neg e] at hj; rw [upd_other ρ _ _ (Ne.symm e)] at hjp; exact .inr ⟨j, oj, sj, hj, hjf, hjp⟩
  live c hc := by
    obtain ⟨j, oj, sj, hj, hjp⟩ := hc
    rw [AHeap.get_new] at hj
    by_cases e : H.next = j
    · subst e; rw [upd_same] at hjp; cases hjp; exact .inl (Nat.le_refl _)
    · rw [if_neg e] at hj; rw [upd_other ρ _ _ (Ne.symm e)] at hjp; exact .inr ⟨j, oj, sj, hj, hjp⟩
  rel := by
    refine ⟨fun j oj hj => ?_, fun j c t hj => ?_, fun j k oj ok c t t' hjk hj hk hjf hjp hkp => ?_, fun j oj hj => ?_⟩
    · rw [AHeap.get_new] at hj
      by_cases e : H.next = j
      · subst e; rw [if_pos rfl] at hj; cases hj; exact ⟨_, _, r, upd_same _ _ _ _, hg.at_, hr⟩
      · rw [if_neg e] at hj
        obtain ⟨c, t, rr, a1, a2, a3⟩ := h.obj j oj hj
        exact ⟨c, t, rr, by rw [upd_other ρ _ _ (Ne.symm e)]; exact a1, by rw [hg.other c (Array.getElem?_eq_some_iff.1 a2).1]; exact a2, a3.mono (upd_le h hn)⟩
    · by_cases e : j = H.next
      · subst e; rw [upd_same] at hj; cases hj; exact ⟨r, hg.at_, (upd_len _ _ (w.heap.size, 0) _).symm⟩
      · rw [upd_other ρ _ _ e] at hj
        obtain ⟨r', h1, h2⟩ := h.dom j c t hj
        have hlt := h.dom_lt hj
        exact ⟨r', by rw [hg.other c hlt]; exact h1, by rw [upd_len_other _ _ _ _ (by show c ≠ w.heap.size; omega)]; exact h2⟩
    · rw [AHeap.get_new] at hj hk
      by_cases e : H.next = j
      · subst e
        rw [if_neg hjk] at hk
        rw [upd_same] at hjp; cases hjp
        rw [upd_other ρ _ _ (Ne.symm hjk)] at hkp
        have := h.lt_size hk hkp; omega
      · rw [if_neg e] at hj
        rw [upd_other ρ _ _ (Ne.symm e)] at hjp
        by_cases e' : H.next = k
        · subst e'
          rw [upd_same] at hkp; cases hkp
          have := h.lt_size hj hjp; omega
        · rw [if_neg e'] at hk
          rw [upd_other ρ _ _ (Ne.symm e')] at hkp
          exact h.inj j k oj ok c t t' hjk hj hk hjf hjp hkp
    · rw [AHeap.get_new] at hj
      rw [AHeap.next_new]
      by_cases e : H.next = j
      · omega
      · rw [if_neg e] at hj; have := h.lt j oj hj; omega
theorem Step.kill {ρ : Loc} {H : AHeap} {w : World} (h : HRel ρ H w) (i : Nat) : Step ρ H w ρ (H.put i none) w where
  ext _ _ := rfl
  len _ _ := rfl
  next := Nat.le_refl _
  size := Nat.le_refl _
  calm := Calm.refl w
  same _ _ _ := rfl
  own c hc := by
    obtain ⟨j, oj, sj, hj, hjf, hjp⟩ := hc
    rw [AHeap.get_put] at hj
    by_cases e : i = j
    · rw [if_pos e] at hj; cases hj
    · rw [if_neg e] at hj; exact .inr ⟨j, oj, sj, hj, hjf, hjp⟩
  live c hc := by
    obtain ⟨j, oj, sj, hj, hjp⟩ := hc
    rw [AHeap.get_put] at hj
    by_cases e : i = j
    · rw [if_pos e] at hj; cases hj
    · rw [if_neg e] at hj; exact .inr ⟨j, oj, sj, hj, hjp⟩
  rel := by
    refine ⟨fun j oj hj => ?_, h.dom, fun j k oj ok c t t' hjk hj hk hjf hjp hkp => ?_, fun j oj hj => ?_⟩
    · rw [AHeap.get_put] at hj
      by_cases e : i = j
      · rw [if_pos e] at hj; cases hj
      · rw [if_neg e] at hj; exact h.obj j oj hj
    · rw [AHeap.get_put] at hj hk
      by_cases e : i = j
      · rw [if_pos e] at hj; cases hj
      · rw [if_neg e] at hj
        by_cases e' : i = k
        · rw [if_pos e'] at hk; cases hk
        · rw [if_neg e'] at hk; exact h.inj j k oj ok c t t' hjk hj hk hjf hjp hkp
    · rw [AHeap.get_put] at hj
      by_cases e : i = j
      · rw [if_pos e] at hj; cases hj
      · rw [if_neg e] at hj; exact h.lt j oj hj
/-- a slice that grows in its place: its block's number is another one from now on -/
theorem Step.grow {ρ : Loc} {H : AHeap} {w w' : World} (h : HRel ρ H w) (hn : ρ H.next = none) {i b s t : Nat} {o o' : AObj} {r' : Obj} (hi : H.get i = some o) (hf : o.free = true) (hp : ρ i = some (b, s))
    (ht : Turned w w' b r') (hr : ObjRel (upd ρ H.next (b, t) (ρ.len b)) t o' r') : Step ρ H w (upd ρ H.next (b, t) (ρ.len b)) ((H.put i none).new o') w' where
  ext j hj := upd_other ρ _ _ (fun e => hj ⟨by omega, by rw [AHeap.next_new, AHeap.next_put]; omega⟩)
  len c _ := by
    by_cases e : c = b
    · subst e; exact upd_len _ _ (c, t) _
    · exact upd_len_other _ _ (b, t) _ e
  next := Nat.le_succ _
  size := by rw [ht.size]; exact Nat.le_refl _
  calm := ht.calm
  same c hc ho := ht.other c (fun e => ho ⟨i, o, s, hi, hf, by rw [e]; exact hp⟩)
  own c hc := by
    obtain ⟨j, oj, sj, hj, hjf, hjp⟩ := hc
    rw [AHeap.get_new, AHeap.next_put] at hj
    by_cases e : H.next = j
    · subst e; rw [upd_same] at hjp; cases hjp; exact .inr ⟨i, o, s, hi, hf, hp⟩
    · rw [if_neg e, AHeap.get_put] at hj; rw [upd_other ρ _ _ (Ne.symm e)] at hjp
      by_cases e' : i = j
      · rw [if_pos e'] at hj; cases hj
      · rw [if_neg e'] at hj; exact .inr ⟨j, oj, sj, hj, hjf, hjp⟩
  live c hc := by
    obtain ⟨j, oj, sj, hj, hjp⟩ := hc
    rw [AHeap.get_new, AHeap.next_put] at hj
    by_cases e : H.next = j
    · subst e; rw [upd_same] at hjp; cases hjp; exact .inr ⟨i, o, s, hi, hp⟩
    · rw [if_neg e, AHeap.get_put] at hj; rw [upd_other ρ _ _ (Ne.symm e)] at hjp
      by_cases e' : i = j
      · rw [if_pos e'] at hj; cases hj
      · rw [if_neg e'] at hj; exact .inr ⟨j, oj, sj, hj, hjp⟩
  rel := by
    refine ⟨fun j oj hj => ?_, fun j c u hj => ?_, fun j k oj ok c u u' hjk hj hk hjf hjp hkp => ?_, fun j oj hj => ?_⟩
    · rw [AHeap.get_new, AHeap.next_put] at hj
      by_cases e : H.next = j
      · subst e; rw [if_pos rfl] at hj; cases hj; exact ⟨_, _, r', upd_same _ _ _ _, ht.at_, hr⟩
      · rw [if_neg e, AHeap.get_put] at hj
        by_cases e' : i = j
        · rw [if_pos e'] at hj; cases hj
        · rw [if_neg e'] at hj
          obtain ⟨c, u, rr, a1, a2, a3⟩ := h.obj j oj hj
          refine ⟨c, u, rr, by rw [upd_other ρ _ _ (Ne.symm e)]; exact a1, ?_, a3.mono (upd_le' hn)⟩
          rw [ht.other c (fun ec => h.inj i j o oj b s u e' hi hj hf hp (by rw [a1, ec]))]; exact a2
    · have hlen : (upd ρ H.next (b, t) (ρ.len b)).len c = ρ.len c := by
        by_cases e : c = b
        · subst e; exact upd_len _ _ (c, t) _
        · exact upd_len_other _ _ (b, t) _ e
      rw [hlen]
      by_cases e : j = H.next
      · subst e; rw [upd_same] at hj; cases hj; exact ht.dom h i b s hp
      · rw [upd_other ρ _ _ e] at hj
        exact ht.dom h j c u hj
    · rw [AHeap.get_new, AHeap.next_put] at hj hk
      by_cases e : H.next = j
      · subst e
        rw [if_neg hjk, AHeap.get_put] at hk
        rw [upd_same] at hjp; cases hjp
        rw [upd_other ρ _ _ (Ne.symm hjk)] at hkp
        by_cases e' : i = k
        · rw [if_pos e'] at hk; cases hk
        · rw [if_neg e'] at hk; exact h.inj i k o ok b s u' e' hi hk hf hp hkp
      · rw [if_neg e, AHeap.get_put] at hj
        rw [upd_other ρ _ _ (Ne.symm e)] at hjp
        by_cases e1 : i = j
        · rw [if_pos e1] at hj; cases hj
        rw [if_neg e1] at hj
        by_cases e' : H.next = k
        · subst e'
          rw [upd_same] at hkp; cases hkp
          exact h.inj j i oj o b u s (Ne.symm e1) hj hi hjf hjp hp
        · rw [if_neg e', AHeap.get_put] at hk
          rw [upd_other ρ _ _ (Ne.symm e')] at hkp
          by_cases e2 : i = k
          · rw [if_pos e2] at hk; cases hk
          · rw [if_neg e2] at hk; exact h.inj j k oj ok c u u' hjk hj hk hjf hjp hkp
    · rw [AHeap.get_new, AHeap.next_put] at hj
      rw [AHeap.next_new, AHeap.next_put]
      by_cases e : H.next = j
      · omega
      · rw [if_neg e, AHeap.get_put] at hj
        by_cases e' : i = j
        · rw [if_pos e'] at hj; cases hj
        · rw [if_neg e'] at hj; have := h.lt j oj hj; omega

end Go.Ab
