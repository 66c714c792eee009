/-
  append.
-/
import Derived.Test.YtjncmibloiomhaaGreatAb11
namespace Go.Ab
section
variable {P : Program} {ρ : Loc}
/-- what an append takes, as the machine comes to it -/
inductive AppSrc (P : Program) (d : TypeDesc) (el : TypeId) (sz by_ : Nat) (x : Value) (n : Nat) (new : List Value) (w : World) : Prop
  | list (hd : ∀ k, d ≠ .int k) (h : ∀ w2 : World, w2.heap = w.heap → (Builtin.lenOf x).run P w2 = .ok n w2 ∧ (Builtin.firstCells sz n x).run P w2 = .ok new.toArray w2)
  | zeros (kk k : IntKind) (z : Value) (hd : d = .int kk) (hx : x = .int k (n : Int)) (hb : n * by_ ≤ 281474976710656) (hn : n ≤ 9223372036854775807) (h0 : n * sz = 0 → new = [])
      (hz : ∀ w2, (zeroValue el).run P w2 = .ok z w2) (he : Builtin.zeroCells z.cells n = new.toArray)
theorem next_le (need cap : Nat) (h : cap < need) : Builtin.nextslicecap need cap ≤ 2 * (need + 1024) := by
  unfold Builtin.nextslicecap
  split
  · omega
  · split
    · omega
    · have : ∀ (r c : Nat), c ≤ 2 * (need + 1024) → Builtin.growBy need r c ≤ 2 * (need + 1024) := by
        intro r
        induction r with
        | zero => intro c hc; exact hc
        | succ r ih =>
          intro c hc
          unfold Builtin.growBy
          split
          · exact hc
          · exact ih _ (by omega)
      exact this _ _ (by omega)
theorem append_fits {t tx el : TypeId} {ty : TypeId} {d : TypeDesc} {ts : Array TypeId} {args : Array Value} {base : Option Addr} {x : Value} {l rc n sz by_ : Nat} {new : List Value} {w : World}
    (ht : ts[0]? = some t) (htx : ts[1]? = some tx) (ha : args[0]? = some (.slice base l rc)) (hx : args[1]? = some x) (hu : P.underlying t = some (.slice el)) (hd : P.underlying tx = some d)
    (hs : sizeT P el = some sz) (hb : bytesT P el = some by_) (h : AppSrc P d el sz by_ x n new w) (hn : l + n ≤ rc) :
    (Builtin.append_ ts ty args).run P w = (do if let some a := base then storeCells (a.add (l * sz)) new
                                               pure (.slice base (l + n) rc) : Sem Value).run P w := by
  obtain ⟨i, hi, hib⟩ := bytes_run hb w
  cases h with
  | list hd' h =>
    obtain ⟨h1, h2⟩ := h w rfl
    have e : (match d with | .int _ => true | _ => false) = false := by cases d <;> first | rfl | exact absurd rfl (hd' _)
    simp only [Builtin.append_, ht, htx, ha, hx, Sem.run_bind, run_underlying hu, run_underlying hd, Result.andThen_ok, size_run hs, Sem.run_pure]
    cases d <;> first | exact absurd rfl (hd' _) | (simp only [Bool.false_eq_true, if_false, Sem.run_bind, h1, Result.andThen_ok, hn, if_true, Bool.not_false, h2]; cases base <;> rfl)
  | zeros kk k z hd' hx' hb' hn' h0 hz he =>
    subst hd'; subst hx'
    have w1 : IntKind.i64.wrap (n : Int) = n := wrap_in hn'
    have c1 : ¬ ((n : Int) < 0) := by omega
    have c2 : ¬ ((n : Int) * (i.bytes : Int) > 2 ^ 48) := by
      rw [hib]
      have h0 : ((n * by_ : Nat) : Int) ≤ 281474976710656 := Int.ofNat_le.2 hb'
      rw [Int.natCast_mul] at h0; omega
    simp only [Builtin.append_, ht, htx, ha, hx, Sem.run_bind, run_underlying hu, run_underlying hd, Result.andThen_ok, size_run hs, Sem.run_pure, if_true, asInt, asIntOf, w1, c1, if_false, hi, c2, Int.toNat_natCast, hn, Bool.not_true, Bool.false_eq_true]
    by_cases hz0 : n * sz = 0
    · rw [if_pos hz0, h0 hz0]; simp only [Sem.run_pure, Result.andThen_ok]; cases base <;> rfl
    · rw [if_neg hz0]; simp only [Sem.run_bind, hz, Sem.run_pure, Result.andThen_ok, he]; cases base <;> rfl
theorem append_grows {t tx el : TypeId} {ty : TypeId} {d : TypeDesc} {ts : Array TypeId} {args : Array Value} {base : Option Addr} {x : Value} {l rc n sz by_ : Nat} {old new : List Value} {w : World} {z : Value}
    (ht : ts[0]? = some t) (htx : ts[1]? = some tx) (ha : args[0]? = some (.slice base l rc)) (hx : args[1]? = some x) (hu : P.underlying t = some (.slice el)) (hd : P.underlying tx = some d)
    (hs : sizeT P el = some sz) (hb : bytesT P el = some by_) (h : AppSrc P d el sz by_ x n new w) (hn : ¬ (l + n ≤ rc)) (hsm : (l + n + 1024) * (by_ + 1) * 4 ≤ 281474976710656)
    (hold : ∀ w2 : World, w2.heap = w.heap → (Builtin.firstCells sz l (.slice base l rc)).run P w2 = .ok old.toArray w2) (hz : ∀ w2, (zeroValue el).run P w2 = .ok z w2) :
    ∃ cap rest w', (Builtin.append_ ts ty args).run P w = .ok (.slice (some ⟨w.heap.size, 0, none⟩) (l + n) cap) w' ∧ l + n ≤ cap ∧ rest.size = (cap - (l + n)) * z.cells.size ∧ w'.heap = w.heap.push (.cells (old.toArray ++ new.toArray ++ rest) el) ∧ Calm w w' := by
  obtain ⟨i, hi, hib⟩ := bytes_run hb w
  have hnx := next_le (l + n) rc (by omega)
  have b1 : (l + n + 1024) ≤ (l + n + 1024) * (by_ + 1) := Nat.le_mul_of_pos_right _ (by omega)
  have c3 : ¬ (((l + n : Nat) : Int) > IntKind.i64.max ) := by simp [IntKind.max, IntKind.bits, IntKind.signed]; omega
  have c4 : ¬ (Builtin.nextslicecap (l + n) rc * i.bytes > 2 ^ 48) := by
    rw [hib]
    have h1 : Builtin.nextslicecap (l + n) rc * by_ ≤ 2 * (l + n + 1024) * by_ := Nat.mul_le_mul_right _ hnx
    have h2 : 2 * (l + n + 1024) * by_ ≤ 2 * ((l + n + 1024) * (by_ + 1)) := by rw [Nat.mul_assoc]; exact Nat.mul_le_mul_left _ (Nat.mul_le_mul_left _ (by omega))
    omega
  obtain ⟨cap, hcap⟩ : ∃ cap, cap = (Question.appendCap (l + n) rc el).cut (w.tape w.drawn (.appendCap (l + n) rc el)) := ⟨_, rfl⟩
  have hle : l + n ≤ cap := by rw [hcap]; exact Nat.le_add_right _ _
  refine ⟨cap, Builtin.zeroCells z.cells (cap - (l + n)), { w with heap := w.heap.push (.cells (old.toArray ++ new.toArray ++ Builtin.zeroCells z.cells (cap - (l + n))) el), drawn := w.drawn + 1 }, ?_, hle, by simp [Builtin.zeroCells], rfl, ⟨rfl, rfl, rfl⟩⟩
  have hi2 : ∀ w2 : World, (typeInfo el).run P w2 = .ok i w2 := by
    intro w2
    unfold typeInfo at hi ⊢
    simp only [Sem.run_bind, run_program, Result.andThen_ok] at hi ⊢
    cases hii : P.info? el with
    | none => rw [hii] at hi; simp at hi
    | some j => rw [hii] at hi; simp at hi; subst hi; rfl
  cases h with
  | list hd' h =>
    obtain ⟨h1, _⟩ := h w rfl
    obtain ⟨_, h2⟩ := h { w with drawn := w.drawn + 1 } rfl
    have h3 := hold { w with drawn := w.drawn + 1 } rfl
    simp only [Builtin.append_, ht, htx, ha, hx, Sem.run_bind, run_underlying hu, run_underlying hd, Result.andThen_ok, size_run hs, Sem.run_pure]
    cases d <;> first
      | exact absurd rfl (hd' _)
      | (simp only [Bool.false_eq_true, if_false, Sem.run_bind, h1, Result.andThen_ok, hn, Bool.not_false, if_true, hi2, c3, false_and, c4, run_choose, Question.forced, ← hcap, run_askRoom, h3, h2, hz, newRow, run_newObj, Sem.run_pure])
  | zeros kk k z' hd' hx' hb' hn' h0 hz' he =>
    subst hd'; subst hx'
    obtain rfl : z' = z := by
      have := (hz' w).symm.trans (hz w)
      injection this
    have w1 : IntKind.i64.wrap (n : Int) = n := wrap_in hn'
    have c1 : ¬ ((n : Int) < 0) := by omega
    have c2 : ¬ ((n : Int) * (i.bytes : Int) > 2 ^ 48) := by
      rw [hib]
      have h0 : ((n * by_ : Nat) : Int) ≤ 281474976710656 := Int.ofNat_le.2 hb'
      rw [Int.natCast_mul] at h0; omega
    have h3 := hold { w with drawn := w.drawn + 1 } rfl
    simp only [Builtin.append_, ht, htx, ha, hx, Sem.run_bind, run_underlying hu, run_underlying hd, Result.andThen_ok, size_run hs, Sem.run_pure, if_true, asInt, asIntOf, w1, c1, if_false, hi2, c2, Int.toNat_natCast, hn, Bool.not_true, Bool.false_eq_true,
      c3, false_and, c4, run_choose, Question.forced, ← hcap, run_askRoom, h3]
    by_cases hz0 : n * sz = 0
    · rw [if_pos hz0, h0 hz0]; simp only [Sem.run_pure, Result.andThen_ok, hz, newRow, Sem.run_bind, run_newObj]
    · rw [if_neg hz0]; simp only [Sem.run_bind, hz', Sem.run_pure, Result.andThen_ok, he, hz, newRow, run_newObj]
theorem newA_src {H : AHeap} {w : World} {tx el : TypeId} {sz by_ n : Nat} {z x x' : Value} {new : List Value} (h : newA P sz by_ z.cells.toList tx x H = some (n, new)) (hH : HRel ρ H w) (hx : VRel ρ x x')
    (hz : plainV z = true ∧ ∀ w, (zeroValue el).run P w = .ok z w) (hlen : new.length = n * sz) (hzl : z.cells.toList.length = sz) :
    ∃ d new', P.underlying tx = some d ∧ LRel ρ new new' ∧ AppSrc P d el sz by_ x' n new' w := by
  unfold newA at h
  split at h
  · rename_i k hu
    split at h
    · rename_i m hm
      split at h
      · rename_i hc
        cases h
        obtain ⟨k', rfl⟩ := natOf_rel hm hx
        refine ⟨_, repeatL z.cells.toList n, hu, ((VRel.ofPlain hz.1).cells).repeat_ n, .zeros k k' z rfl rfl hc.1 hc.2 (fun e => ?_) hz.2 ?_⟩
        · exact List.eq_nil_of_length_eq_zero (by rw [hlen, e])
        · apply Array.ext'
          have hsz : z.cells.size = sz := by simpa using hzl
          rw [Builtin.zeroCells, rep_arr]
      · cases h
    · cases h
  · rename_i d hn hu
    split at h
    · rename_i m hm
      split at h
      · rename_i l hl
        cases h
        obtain ⟨l', hl', hrun⟩ := src_sound (P := P) hl hH hx
        refine ⟨d, l', hu, hl', .list (fun k e => hn k (by rw [e])) (fun w2 e => ⟨len_sound hm hx, hrun w2 e⟩)⟩
      · cases h
    · cases h
  · cases h
end
end Go.Ab
