/-
  SessionNil: whatever comes, a server and a client that are nil say nothing, and without a store there is no client: the law answers true, and each argument reads behind the call as it read before. No condition.
-/
import Derived.Test.YtjncmibloiomhaaGreatRows
import Derived.Test.YtjncmibloiomhaaGreatAb28
namespace Go.Proofs.YtjncmibloiomhaaGreat
open Go.RowKit Go.WideShapes Go.ChangeShapes Go.Ab
noncomputable abbrev i64 (x : Int) : Value := .int .i64 x
noncomputable def within_code : Code := match Tryz.f71.body with | some c => c | none => .skip
theorem within_fe : fnTab Tryz.prog 71 = some { code := within_code, ntmps := 15, results := [.tmp 6] } := fnTab_of Tryz.func71 rfl
set_option maxRecDepth 20000 in
theorem within_run {R : Type} {P : Program} {callF : CallF R} (x a b : Int) (n : Nat) (H : AHeap) (kk : Exit → St → Option R) :
    ∃ t, evC P callF none n within_code { tm := [i64 x, i64 a, i64 b, undef, undef, undef, undef, undef, undef, undef, undef, undef, undef, undef, undef], marks := [], H } kk =
      kk .ret { tm := [i64 x, i64 a, i64 b, undef, undef, undef, .bool (decide (x ≥ a) && decide (x ≤ b))] ++ t, marks := [], H } := by
  unfold within_code Tryz.f71
  rw [evC_seq, evC_region, evOps_pur (v := .bool false) rfl rfl rfl rfl, evOps_end]
  dsimp only [putL, List.set]
  rw [evC_seq, evC_region, evOps_pur (v := i64 x) rfl rfl rfl rfl]
  dsimp only [putL, List.set]
  rw [evOps_pur (v := i64 a) rfl rfl rfl rfl]
  dsimp only [putL, List.set]
  rw [evOps_pur (v := .bool (decide (x ≥ a))) rfl rfl rfl rfl]
  dsimp only [putL, List.set]
  rw [evOps_pur (v := .bool (decide (x ≥ a))) rfl rfl rfl rfl]
  dsimp only [putL, List.set]
  cases decide (x ≥ a)
  · rw [evOps_skip rfl rfl]
    dsimp only [putL, List.set]
    rw [evOps_skip rfl rfl]
    dsimp only [putL, List.set]
    rw [evOps_skip rfl rfl]
    dsimp only [putL, List.set]
    rw [evOps_pur (v := .bool false) rfl rfl rfl rfl]
    dsimp only [putL, List.set]
    rw [evOps_pur (v := .bool false) rfl rfl rfl rfl, evOps_end]
    dsimp only [putL, List.set]
    rw [evC_ret]
    exact ⟨_, rfl⟩
  · rw [evOps_pur (v := i64 x) rfl rfl rfl rfl]
    dsimp only [putL, List.set]
    rw [evOps_pur (v := i64 b) rfl rfl rfl rfl]
    dsimp only [putL, List.set]
    rw [evOps_pur (v := .bool (decide (x ≤ b))) rfl rfl rfl rfl]
    dsimp only [putL, List.set]
    rw [evOps_pur (v := .bool (decide (x ≤ b))) rfl rfl rfl rfl]
    dsimp only [putL, List.set]
    rw [evOps_pur (v := .bool (decide (x ≤ b))) rfl rfl rfl rfl, evOps_end]
    dsimp only [putL, List.set]
    rw [evC_ret, Bool.true_and]
    exact ⟨_, rfl⟩
set_option maxRecDepth 20000 in
theorem within_ev {R : Type} (x a b : Int) (n : Nat) (H : AHeap) (k : Value → AHeap → Option R) :
    ev Tryz.prog (fnTab Tryz.prog) (n + 1) (.fn 71) [i64 x, i64 a, i64 b] H k = k (.bool (decide (x ≥ a) && decide (x ≤ b))) H := by
  rw [ev_call within_fe]
  obtain ⟨t, h⟩ := within_run (P := Tryz.prog) (callF := (ev Tryz.prog (fnTab Tryz.prog) n : CallF R)) x a b n H (fun ex st => match ex with
      | .normal | .ret => takeMarks st.marks st.H fun H => match resultsA Tryz.prog st.tm H [.tmp 6] with
        | some vs => k (tupled vs) H
        | none => none
      | _ => none)
  exact h
theorem may_fields : (fieldAddrA Tryz.prog 25 (.pointer (some ⟨0, 0, none⟩)) 0).isSome = true := by kernel_rfl
theorem may_addr0 (i : Nat) : fieldAddrA Tryz.prog 25 (.pointer (some ⟨i, 0, none⟩)) 0 = some (.pointer (some ⟨i, 0, none⟩)) := by kernel_rfl
theorem may_addr1 (i : Nat) : fieldAddrA Tryz.prog 25 (.pointer (some ⟨i, 0, none⟩)) 1 = some (.pointer (some ⟨i, 1, none⟩)) := by kernel_rfl
theorem may_addr2 (i : Nat) : fieldAddrA Tryz.prog 25 (.pointer (some ⟨i, 0, none⟩)) 2 = some (.pointer (some ⟨i, 2, none⟩)) := by kernel_rfl
theorem may_addr3 (i : Nat) : fieldAddrA Tryz.prog 25 (.pointer (some ⟨i, 0, none⟩)) 3 = some (.pointer (some ⟨i, 3, none⟩)) := by kernel_rfl
theorem may_addr4 (i : Nat) : fieldAddrA Tryz.prog 25 (.pointer (some ⟨i, 0, none⟩)) 4 = some (.pointer (some ⟨i, 4, none⟩)) := by kernel_rfl
theorem may_int : isAggT Tryz.prog 3 = some false := by kernel_rfl
theorem may_one : sizeT Tryz.prog 3 = some 1 := by kernel_rfl
theorem may_load {c : List Value} {j : Nat} {v : Value} (H : AHeap) (h : c[j]? = some v) : loadA Tryz.prog 3 (.pointer (some ⟨H.next, j, none⟩)) (H.new (.cells c false)) = some v := by
  unfold loadA
  simp only [AHeap.get_new, if_true, partA, may_int, may_one, h]
theorem may_load0 (H : AHeap) (x1 x2 x3 x4 x5 : Int) : loadA Tryz.prog 3 (.pointer (some ⟨H.next, 0, none⟩)) (H.new (.cells [i64 x1, i64 x2, i64 x3, i64 x4, i64 x5] false)) = some (i64 x1) := may_load H rfl
theorem may_load1 (H : AHeap) (x1 x2 x3 x4 x5 : Int) : loadA Tryz.prog 3 (.pointer (some ⟨H.next, 1, none⟩)) (H.new (.cells [i64 x1, i64 x2, i64 x3, i64 x4, i64 x5] false)) = some (i64 x2) := may_load H rfl
theorem may_load2 (H : AHeap) (x1 x2 x3 x4 x5 : Int) : loadA Tryz.prog 3 (.pointer (some ⟨H.next, 2, none⟩)) (H.new (.cells [i64 x1, i64 x2, i64 x3, i64 x4, i64 x5] false)) = some (i64 x3) := may_load H rfl
theorem may_load3 (H : AHeap) (x1 x2 x3 x4 x5 : Int) : loadA Tryz.prog 3 (.pointer (some ⟨H.next, 3, none⟩)) (H.new (.cells [i64 x1, i64 x2, i64 x3, i64 x4, i64 x5] false)) = some (i64 x4) := may_load H rfl
theorem may_load4 (H : AHeap) (x1 x2 x3 x4 x5 : Int) : loadA Tryz.prog 3 (.pointer (some ⟨H.next, 4, none⟩)) (H.new (.cells [i64 x1, i64 x2, i64 x3, i64 x4, i64 x5] false)) = some (i64 x5) := may_load H rfl
noncomputable def may_code : Code := match Tryz.f37.body with | some c => c | none => .skip
theorem may_fe : fnTab Tryz.prog 37 = some { code := may_code, ntmps := 33, results := [.tmp 2] } := fnTab_of Tryz.func37 rfl
set_option maxRecDepth 20000 in
theorem may_run (x1 x2 x3 x4 x5 : Int) (n : Nat) : ∃ b, ∀ {R : Type} (H : AHeap) (kk : Exit → St → Option R),
    ∃ t, evC Tryz.prog (ev Tryz.prog (fnTab Tryz.prog) (n + 1)) none n may_code { tm := [.agg #[i64 x1, i64 x2, i64 x3, i64 x4, i64 x5], undef, undef, undef, undef, undef, undef, undef, undef, undef, undef, undef, undef, undef, undef, undef, undef, undef, undef, undef, undef, undef, undef, undef, undef, undef, undef, undef, undef, undef, undef, undef, undef], marks := [], H } kk =
      kk .ret { tm := [.agg #[i64 x1, i64 x2, i64 x3, i64 x4, i64 x5], .pointer (some ⟨H.next, 0, none⟩), .bool b] ++ t, marks := [], H := H.new (.cells [i64 x1, i64 x2, i64 x3, i64 x4, i64 x5] false) } := by
  unfold may_code Tryz.f37
  cases h1 : (decide (x1 ≥ 1) && decide (x1 ≤ 1024))
  · skip
    refine ⟨false, fun H kk => ?_⟩
    rw [evC_seq, evC_region, evOps_alloc (ob := .cells [i64 x1, i64 x2, i64 x3, i64 x4, i64 x5] false) (mk := ptrTo) rfl rfl rfl rfl]
    dsimp only [putL, List.set, ptrTo]
    rw [evOps_pur (v := .bool false) rfl rfl rfl rfl, evOps_end]
    dsimp only [putL, List.set]
    rw [evC_seq, evC_region, evOps_pur (v := .func (.func 71) #[] #[]) rfl rfl rfl rfl, evOps_end]
    dsimp only [putL, List.set]
    rw [evC_seq, evC_region]
    rw [evOps_pur (v := .func (.func 71) #[] #[]) rfl rfl rfl rfl]
    dsimp only [putL, List.set]
    rw [evOps_pur (v := .pointer (some ⟨H.next, 0, none⟩)) rfl rfl rfl ?hp]
    case hp => exact (may_addr0 _)
    dsimp only [putL, List.set]
    rw [evOps_read (v := i64 x1) rfl rfl rfl ?hp]
    case hp => exact (may_load0 _ _ _ _ _ _)
    dsimp only [putL, List.set]
    rw [evOps_call (t := .fn 71) (args := [i64 x1, i64 1, i64 1024]) (v := .bool false) (H' := H.new (.cells [i64 x1, i64 x2, i64 x3, i64 x4, i64 x5] false)) rfl rfl rfl rfl ?hr]
    case hr => exact (fun k => by rw [within_ev, h1])
    dsimp only [putL, List.set]
    rw [evOps_pur (v := .bool false) rfl rfl rfl rfl]
    dsimp only [putL, List.set]
    rw [evOps_skip rfl rfl]
    dsimp only [putL, List.set]
    rw [evOps_skip rfl rfl]
    dsimp only [putL, List.set]
    rw [evOps_skip rfl rfl]
    dsimp only [putL, List.set]
    rw [evOps_skip rfl rfl]
    dsimp only [putL, List.set]
    rw [evOps_pur (v := .bool false) rfl rfl rfl rfl]
    dsimp only [putL, List.set]
    rw [evOps_pur (v := .bool false) rfl rfl rfl rfl]
    dsimp only [putL, List.set]
    rw [evOps_skip rfl rfl]
    dsimp only [putL, List.set]
    rw [evOps_skip rfl rfl]
    dsimp only [putL, List.set]
    rw [evOps_skip rfl rfl]
    dsimp only [putL, List.set]
    rw [evOps_skip rfl rfl]
    dsimp only [putL, List.set]
    rw [evOps_skip rfl rfl]
    dsimp only [putL, List.set]
    rw [evOps_skip rfl rfl]
    dsimp only [putL, List.set]
    rw [evOps_pur (v := .bool false) rfl rfl rfl rfl]
    dsimp only [putL, List.set]
    rw [evOps_pur (v := .bool false) rfl rfl rfl rfl]
    dsimp only [putL, List.set]
    rw [evOps_skip rfl rfl]
    dsimp only [putL, List.set]
    rw [evOps_skip rfl rfl]
    dsimp only [putL, List.set]
    rw [evOps_skip rfl rfl]
    dsimp only [putL, List.set]
    rw [evOps_pur (v := .bool false) rfl rfl rfl rfl]
    dsimp only [putL, List.set]
    rw [evOps_pur (v := .bool false) rfl rfl rfl rfl]
    dsimp only [putL, List.set]
    rw [evOps_skip rfl rfl]
    dsimp only [putL, List.set]
    rw [evOps_skip rfl rfl]
    dsimp only [putL, List.set]
    rw [evOps_skip rfl rfl]
    dsimp only [putL, List.set]
    rw [evOps_skip rfl rfl]
    dsimp only [putL, List.set]
    rw [evOps_pur (v := .bool false) rfl rfl rfl rfl]
    dsimp only [putL, List.set]
    rw [evOps_pur (v := .bool false) rfl rfl rfl rfl]
    dsimp only [putL, List.set]
    rw [evOps_end]
    rw [evC_ret]
    exact ⟨_, rfl⟩
  · skip
    cases h2 : (decide (x2 ≥ 1) && decide (x2 ≤ 64))
    · skip
      refine ⟨false, fun H kk => ?_⟩
      rw [evC_seq, evC_region, evOps_alloc (ob := .cells [i64 x1, i64 x2, i64 x3, i64 x4, i64 x5] false) (mk := ptrTo) rfl rfl rfl rfl]
      dsimp only [putL, List.set, ptrTo]
      rw [evOps_pur (v := .bool false) rfl rfl rfl rfl, evOps_end]
      dsimp only [putL, List.set]
      rw [evC_seq, evC_region, evOps_pur (v := .func (.func 71) #[] #[]) rfl rfl rfl rfl, evOps_end]
      dsimp only [putL, List.set]
      rw [evC_seq, evC_region]
      rw [evOps_pur (v := .func (.func 71) #[] #[]) rfl rfl rfl rfl]
      dsimp only [putL, List.set]
      rw [evOps_pur (v := .pointer (some ⟨H.next, 0, none⟩)) rfl rfl rfl ?hp]
      case hp => exact (may_addr0 _)
      dsimp only [putL, List.set]
      rw [evOps_read (v := i64 x1) rfl rfl rfl ?hp]
      case hp => exact (may_load0 _ _ _ _ _ _)
      dsimp only [putL, List.set]
      rw [evOps_call (t := .fn 71) (args := [i64 x1, i64 1, i64 1024]) (v := .bool true) (H' := H.new (.cells [i64 x1, i64 x2, i64 x3, i64 x4, i64 x5] false)) rfl rfl rfl rfl ?hr]
      case hr => exact (fun k => by rw [within_ev, h1])
      dsimp only [putL, List.set]
      rw [evOps_pur (v := .bool true) rfl rfl rfl rfl]
      dsimp only [putL, List.set]
      rw [evOps_pur (v := .func (.func 71) #[] #[]) rfl rfl rfl rfl]
      dsimp only [putL, List.set]
      rw [evOps_pur (v := .pointer (some ⟨H.next, 1, none⟩)) rfl rfl rfl ?hp]
      case hp => exact (may_addr1 _)
      dsimp only [putL, List.set]
      rw [evOps_read (v := i64 x2) rfl rfl rfl ?hp]
      case hp => exact (may_load1 _ _ _ _ _ _)
      dsimp only [putL, List.set]
      rw [evOps_call (t := .fn 71) (args := [i64 x2, i64 1, i64 64]) (v := .bool false) (H' := H.new (.cells [i64 x1, i64 x2, i64 x3, i64 x4, i64 x5] false)) rfl rfl rfl rfl ?hr]
      case hr => exact (fun k => by rw [within_ev, h2])
      dsimp only [putL, List.set]
      rw [evOps_pur (v := .bool false) rfl rfl rfl rfl]
      dsimp only [putL, List.set]
      rw [evOps_pur (v := .bool false) rfl rfl rfl rfl]
      dsimp only [putL, List.set]
      rw [evOps_skip rfl rfl]
      dsimp only [putL, List.set]
      rw [evOps_skip rfl rfl]
      dsimp only [putL, List.set]
      rw [evOps_skip rfl rfl]
      dsimp only [putL, List.set]
      rw [evOps_skip rfl rfl]
      dsimp only [putL, List.set]
      rw [evOps_skip rfl rfl]
      dsimp only [putL, List.set]
      rw [evOps_skip rfl rfl]
      dsimp only [putL, List.set]
      rw [evOps_pur (v := .bool false) rfl rfl rfl rfl]
      dsimp only [putL, List.set]
      rw [evOps_pur (v := .bool false) rfl rfl rfl rfl]
      dsimp only [putL, List.set]
      rw [evOps_skip rfl rfl]
      dsimp only [putL, List.set]
      rw [evOps_skip rfl rfl]
      dsimp only [putL, List.set]
      rw [evOps_skip rfl rfl]
      dsimp only [putL, List.set]
      rw [evOps_pur (v := .bool false) rfl rfl rfl rfl]
      dsimp only [putL, List.set]
      rw [evOps_pur (v := .bool false) rfl rfl rfl rfl]
      dsimp only [putL, List.set]
      rw [evOps_skip rfl rfl]
      dsimp only [putL, List.set]
      rw [evOps_skip rfl rfl]
      dsimp only [putL, List.set]
      rw [evOps_skip rfl rfl]
      dsimp only [putL, List.set]
      rw [evOps_skip rfl rfl]
      dsimp only [putL, List.set]
      rw [evOps_pur (v := .bool false) rfl rfl rfl rfl]
      dsimp only [putL, List.set]
      rw [evOps_pur (v := .bool false) rfl rfl rfl rfl]
      dsimp only [putL, List.set]
      rw [evOps_end]
      rw [evC_ret]
      exact ⟨_, rfl⟩
    · skip
      cases h3 : (decide (x3 ≥ 1) && decide (x3 ≤ x4))
      · skip
        refine ⟨false, fun H kk => ?_⟩
        rw [evC_seq, evC_region, evOps_alloc (ob := .cells [i64 x1, i64 x2, i64 x3, i64 x4, i64 x5] false) (mk := ptrTo) rfl rfl rfl rfl]
        dsimp only [putL, List.set, ptrTo]
        rw [evOps_pur (v := .bool false) rfl rfl rfl rfl, evOps_end]
        dsimp only [putL, List.set]
        rw [evC_seq, evC_region, evOps_pur (v := .func (.func 71) #[] #[]) rfl rfl rfl rfl, evOps_end]
        dsimp only [putL, List.set]
        rw [evC_seq, evC_region]
        rw [evOps_pur (v := .func (.func 71) #[] #[]) rfl rfl rfl rfl]
        dsimp only [putL, List.set]
        rw [evOps_pur (v := .pointer (some ⟨H.next, 0, none⟩)) rfl rfl rfl ?hp]
        case hp => exact (may_addr0 _)
        dsimp only [putL, List.set]
        rw [evOps_read (v := i64 x1) rfl rfl rfl ?hp]
        case hp => exact (may_load0 _ _ _ _ _ _)
        dsimp only [putL, List.set]
        rw [evOps_call (t := .fn 71) (args := [i64 x1, i64 1, i64 1024]) (v := .bool true) (H' := H.new (.cells [i64 x1, i64 x2, i64 x3, i64 x4, i64 x5] false)) rfl rfl rfl rfl ?hr]
        case hr => exact (fun k => by rw [within_ev, h1])
        dsimp only [putL, List.set]
        rw [evOps_pur (v := .bool true) rfl rfl rfl rfl]
        dsimp only [putL, List.set]
        rw [evOps_pur (v := .func (.func 71) #[] #[]) rfl rfl rfl rfl]
        dsimp only [putL, List.set]
        rw [evOps_pur (v := .pointer (some ⟨H.next, 1, none⟩)) rfl rfl rfl ?hp]
        case hp => exact (may_addr1 _)
        dsimp only [putL, List.set]
        rw [evOps_read (v := i64 x2) rfl rfl rfl ?hp]
        case hp => exact (may_load1 _ _ _ _ _ _)
        dsimp only [putL, List.set]
        rw [evOps_call (t := .fn 71) (args := [i64 x2, i64 1, i64 64]) (v := .bool true) (H' := H.new (.cells [i64 x1, i64 x2, i64 x3, i64 x4, i64 x5] false)) rfl rfl rfl rfl ?hr]
        case hr => exact (fun k => by rw [within_ev, h2])
        dsimp only [putL, List.set]
        rw [evOps_pur (v := .bool true) rfl rfl rfl rfl]
        dsimp only [putL, List.set]
        rw [evOps_pur (v := .bool true) rfl rfl rfl rfl]
        dsimp only [putL, List.set]
        rw [evOps_pur (v := .func (.func 71) #[] #[]) rfl rfl rfl rfl]
        dsimp only [putL, List.set]
        rw [evOps_pur (v := .pointer (some ⟨H.next, 2, none⟩)) rfl rfl rfl ?hp]
        case hp => exact (may_addr2 _)
        dsimp only [putL, List.set]
        rw [evOps_read (v := i64 x3) rfl rfl rfl ?hp]
        case hp => exact (may_load2 _ _ _ _ _ _)
        dsimp only [putL, List.set]
        rw [evOps_pur (v := .pointer (some ⟨H.next, 3, none⟩)) rfl rfl rfl ?hp]
        case hp => exact (may_addr3 _)
        dsimp only [putL, List.set]
        rw [evOps_read (v := i64 x4) rfl rfl rfl ?hp]
        case hp => exact (may_load3 _ _ _ _ _ _)
        dsimp only [putL, List.set]
        rw [evOps_call (t := .fn 71) (args := [i64 x3, i64 1, i64 x4]) (v := .bool false) (H' := H.new (.cells [i64 x1, i64 x2, i64 x3, i64 x4, i64 x5] false)) rfl rfl rfl rfl ?hr]
        case hr => exact (fun k => by rw [within_ev, h3])
        dsimp only [putL, List.set]
        rw [evOps_pur (v := .bool false) rfl rfl rfl rfl]
        dsimp only [putL, List.set]
        rw [evOps_pur (v := .bool false) rfl rfl rfl rfl]
        dsimp only [putL, List.set]
        rw [evOps_skip rfl rfl]
        dsimp only [putL, List.set]
        rw [evOps_skip rfl rfl]
        dsimp only [putL, List.set]
        rw [evOps_skip rfl rfl]
        dsimp only [putL, List.set]
        rw [evOps_pur (v := .bool false) rfl rfl rfl rfl]
        dsimp only [putL, List.set]
        rw [evOps_pur (v := .bool false) rfl rfl rfl rfl]
        dsimp only [putL, List.set]
        rw [evOps_skip rfl rfl]
        dsimp only [putL, List.set]
        rw [evOps_skip rfl rfl]
        dsimp only [putL, List.set]
        rw [evOps_skip rfl rfl]
        dsimp only [putL, List.set]
        rw [evOps_skip rfl rfl]
        dsimp only [putL, List.set]
        rw [evOps_pur (v := .bool false) rfl rfl rfl rfl]
        dsimp only [putL, List.set]
        rw [evOps_pur (v := .bool false) rfl rfl rfl rfl]
        dsimp only [putL, List.set]
        rw [evOps_end]
        rw [evC_ret]
        exact ⟨_, rfl⟩
      · skip
        cases h4 : decide (x4 ≤ 65536)
        · skip
          refine ⟨false, fun H kk => ?_⟩
          rw [evC_seq, evC_region, evOps_alloc (ob := .cells [i64 x1, i64 x2, i64 x3, i64 x4, i64 x5] false) (mk := ptrTo) rfl rfl rfl rfl]
          dsimp only [putL, List.set, ptrTo]
          rw [evOps_pur (v := .bool false) rfl rfl rfl rfl, evOps_end]
          dsimp only [putL, List.set]
          rw [evC_seq, evC_region, evOps_pur (v := .func (.func 71) #[] #[]) rfl rfl rfl rfl, evOps_end]
          dsimp only [putL, List.set]
          rw [evC_seq, evC_region]
          rw [evOps_pur (v := .func (.func 71) #[] #[]) rfl rfl rfl rfl]
          dsimp only [putL, List.set]
          rw [evOps_pur (v := .pointer (some ⟨H.next, 0, none⟩)) rfl rfl rfl ?hp]
          case hp => exact (may_addr0 _)
          dsimp only [putL, List.set]
          rw [evOps_read (v := i64 x1) rfl rfl rfl ?hp]
          case hp => exact (may_load0 _ _ _ _ _ _)
          dsimp only [putL, List.set]
          rw [evOps_call (t := .fn 71) (args := [i64 x1, i64 1, i64 1024]) (v := .bool true) (H' := H.new (.cells [i64 x1, i64 x2, i64 x3, i64 x4, i64 x5] false)) rfl rfl rfl rfl ?hr]
          case hr => exact (fun k => by rw [within_ev, h1])
          dsimp only [putL, List.set]
          rw [evOps_pur (v := .bool true) rfl rfl rfl rfl]
          dsimp only [putL, List.set]
          rw [evOps_pur (v := .func (.func 71) #[] #[]) rfl rfl rfl rfl]
          dsimp only [putL, List.set]
          rw [evOps_pur (v := .pointer (some ⟨H.next, 1, none⟩)) rfl rfl rfl ?hp]
          case hp => exact (may_addr1 _)
          dsimp only [putL, List.set]
          rw [evOps_read (v := i64 x2) rfl rfl rfl ?hp]
          case hp => exact (may_load1 _ _ _ _ _ _)
          dsimp only [putL, List.set]
          rw [evOps_call (t := .fn 71) (args := [i64 x2, i64 1, i64 64]) (v := .bool true) (H' := H.new (.cells [i64 x1, i64 x2, i64 x3, i64 x4, i64 x5] false)) rfl rfl rfl rfl ?hr]
          case hr => exact (fun k => by rw [within_ev, h2])
          dsimp only [putL, List.set]
          rw [evOps_pur (v := .bool true) rfl rfl rfl rfl]
          dsimp only [putL, List.set]
          rw [evOps_pur (v := .bool true) rfl rfl rfl rfl]
          dsimp only [putL, List.set]
          rw [evOps_pur (v := .func (.func 71) #[] #[]) rfl rfl rfl rfl]
          dsimp only [putL, List.set]
          rw [evOps_pur (v := .pointer (some ⟨H.next, 2, none⟩)) rfl rfl rfl ?hp]
          case hp => exact (may_addr2 _)
          dsimp only [putL, List.set]
          rw [evOps_read (v := i64 x3) rfl rfl rfl ?hp]
          case hp => exact (may_load2 _ _ _ _ _ _)
          dsimp only [putL, List.set]
          rw [evOps_pur (v := .pointer (some ⟨H.next, 3, none⟩)) rfl rfl rfl ?hp]
          case hp => exact (may_addr3 _)
          dsimp only [putL, List.set]
          rw [evOps_read (v := i64 x4) rfl rfl rfl ?hp]
          case hp => exact (may_load3 _ _ _ _ _ _)
          dsimp only [putL, List.set]
          rw [evOps_call (t := .fn 71) (args := [i64 x3, i64 1, i64 x4]) (v := .bool true) (H' := H.new (.cells [i64 x1, i64 x2, i64 x3, i64 x4, i64 x5] false)) rfl rfl rfl rfl ?hr]
          case hr => exact (fun k => by rw [within_ev, h3])
          dsimp only [putL, List.set]
          rw [evOps_pur (v := .bool true) rfl rfl rfl rfl]
          dsimp only [putL, List.set]
          rw [evOps_pur (v := .bool true) rfl rfl rfl rfl]
          dsimp only [putL, List.set]
          rw [evOps_pur (v := .pointer (some ⟨H.next, 3, none⟩)) rfl rfl rfl ?hp]
          case hp => exact (may_addr3 _)
          dsimp only [putL, List.set]
          rw [evOps_read (v := i64 x4) rfl rfl rfl ?hp]
          case hp => exact (may_load3 _ _ _ _ _ _)
          dsimp only [putL, List.set]
          rw [evOps_pur (v := .bool false) rfl rfl rfl ?hp]
          case hp => exact (congrArg (fun b => some (Value.bool b)) h4)
          dsimp only [putL, List.set]
          rw [evOps_pur (v := .bool false) rfl rfl rfl rfl]
          dsimp only [putL, List.set]
          rw [evOps_pur (v := .bool false) rfl rfl rfl rfl]
          dsimp only [putL, List.set]
          rw [evOps_skip rfl rfl]
          dsimp only [putL, List.set]
          rw [evOps_skip rfl rfl]
          dsimp only [putL, List.set]
          rw [evOps_skip rfl rfl]
          dsimp only [putL, List.set]
          rw [evOps_skip rfl rfl]
          dsimp only [putL, List.set]
          rw [evOps_pur (v := .bool false) rfl rfl rfl rfl]
          dsimp only [putL, List.set]
          rw [evOps_pur (v := .bool false) rfl rfl rfl rfl]
          dsimp only [putL, List.set]
          rw [evOps_end]
          rw [evC_ret]
          exact ⟨_, rfl⟩
        · skip
          cases h5 : (decide (x5 ≥ 1) && decide (x5 ≤ 1048576))
          · skip
            refine ⟨false, fun H kk => ?_⟩
            rw [evC_seq, evC_region, evOps_alloc (ob := .cells [i64 x1, i64 x2, i64 x3, i64 x4, i64 x5] false) (mk := ptrTo) rfl rfl rfl rfl]
            dsimp only [putL, List.set, ptrTo]
            rw [evOps_pur (v := .bool false) rfl rfl rfl rfl, evOps_end]
            dsimp only [putL, List.set]
            rw [evC_seq, evC_region, evOps_pur (v := .func (.func 71) #[] #[]) rfl rfl rfl rfl, evOps_end]
            dsimp only [putL, List.set]
            rw [evC_seq, evC_region]
            rw [evOps_pur (v := .func (.func 71) #[] #[]) rfl rfl rfl rfl]
            dsimp only [putL, List.set]
            rw [evOps_pur (v := .pointer (some ⟨H.next, 0, none⟩)) rfl rfl rfl ?hp]
            case hp => exact (may_addr0 _)
            dsimp only [putL, List.set]
            rw [evOps_read (v := i64 x1) rfl rfl rfl ?hp]
            case hp => exact (may_load0 _ _ _ _ _ _)
            dsimp only [putL, List.set]
            rw [evOps_call (t := .fn 71) (args := [i64 x1, i64 1, i64 1024]) (v := .bool true) (H' := H.new (.cells [i64 x1, i64 x2, i64 x3, i64 x4, i64 x5] false)) rfl rfl rfl rfl ?hr]
            case hr => exact (fun k => by rw [within_ev, h1])
            dsimp only [putL, List.set]
            rw [evOps_pur (v := .bool true) rfl rfl rfl rfl]
            dsimp only [putL, List.set]
            rw [evOps_pur (v := .func (.func 71) #[] #[]) rfl rfl rfl rfl]
            dsimp only [putL, List.set]
            rw [evOps_pur (v := .pointer (some ⟨H.next, 1, none⟩)) rfl rfl rfl ?hp]
            case hp => exact (may_addr1 _)
            dsimp only [putL, List.set]
            rw [evOps_read (v := i64 x2) rfl rfl rfl ?hp]
            case hp => exact (may_load1 _ _ _ _ _ _)
            dsimp only [putL, List.set]
            rw [evOps_call (t := .fn 71) (args := [i64 x2, i64 1, i64 64]) (v := .bool true) (H' := H.new (.cells [i64 x1, i64 x2, i64 x3, i64 x4, i64 x5] false)) rfl rfl rfl rfl ?hr]
            case hr => exact (fun k => by rw [within_ev, h2])
            dsimp only [putL, List.set]
            rw [evOps_pur (v := .bool true) rfl rfl rfl rfl]
            dsimp only [putL, List.set]
            rw [evOps_pur (v := .bool true) rfl rfl rfl rfl]
            dsimp only [putL, List.set]
            rw [evOps_pur (v := .func (.func 71) #[] #[]) rfl rfl rfl rfl]
            dsimp only [putL, List.set]
            rw [evOps_pur (v := .pointer (some ⟨H.next, 2, none⟩)) rfl rfl rfl ?hp]
            case hp => exact (may_addr2 _)
            dsimp only [putL, List.set]
            rw [evOps_read (v := i64 x3) rfl rfl rfl ?hp]
            case hp => exact (may_load2 _ _ _ _ _ _)
            dsimp only [putL, List.set]
            rw [evOps_pur (v := .pointer (some ⟨H.next, 3, none⟩)) rfl rfl rfl ?hp]
            case hp => exact (may_addr3 _)
            dsimp only [putL, List.set]
            rw [evOps_read (v := i64 x4) rfl rfl rfl ?hp]
            case hp => exact (may_load3 _ _ _ _ _ _)
            dsimp only [putL, List.set]
            rw [evOps_call (t := .fn 71) (args := [i64 x3, i64 1, i64 x4]) (v := .bool true) (H' := H.new (.cells [i64 x1, i64 x2, i64 x3, i64 x4, i64 x5] false)) rfl rfl rfl rfl ?hr]
            case hr => exact (fun k => by rw [within_ev, h3])
            dsimp only [putL, List.set]
            rw [evOps_pur (v := .bool true) rfl rfl rfl rfl]
            dsimp only [putL, List.set]
            rw [evOps_pur (v := .bool true) rfl rfl rfl rfl]
            dsimp only [putL, List.set]
            rw [evOps_pur (v := .pointer (some ⟨H.next, 3, none⟩)) rfl rfl rfl ?hp]
            case hp => exact (may_addr3 _)
            dsimp only [putL, List.set]
            rw [evOps_read (v := i64 x4) rfl rfl rfl ?hp]
            case hp => exact (may_load3 _ _ _ _ _ _)
            dsimp only [putL, List.set]
            rw [evOps_pur (v := .bool true) rfl rfl rfl ?hp]
            case hp => exact (congrArg (fun b => some (Value.bool b)) h4)
            dsimp only [putL, List.set]
            rw [evOps_pur (v := .bool true) rfl rfl rfl rfl]
            dsimp only [putL, List.set]
            rw [evOps_pur (v := .bool true) rfl rfl rfl rfl]
            dsimp only [putL, List.set]
            rw [evOps_pur (v := .func (.func 71) #[] #[]) rfl rfl rfl rfl]
            dsimp only [putL, List.set]
            rw [evOps_pur (v := .pointer (some ⟨H.next, 4, none⟩)) rfl rfl rfl ?hp]
            case hp => exact (may_addr4 _)
            dsimp only [putL, List.set]
            rw [evOps_read (v := i64 x5) rfl rfl rfl ?hp]
            case hp => exact (may_load4 _ _ _ _ _ _)
            dsimp only [putL, List.set]
            rw [evOps_call (t := .fn 71) (args := [i64 x5, i64 1, i64 1048576]) (v := .bool false) (H' := H.new (.cells [i64 x1, i64 x2, i64 x3, i64 x4, i64 x5] false)) rfl rfl rfl rfl ?hr]
            case hr => exact (fun k => by rw [within_ev, h5])
            dsimp only [putL, List.set]
            rw [evOps_pur (v := .bool false) rfl rfl rfl rfl]
            dsimp only [putL, List.set]
            rw [evOps_pur (v := .bool false) rfl rfl rfl rfl]
            dsimp only [putL, List.set]
            rw [evOps_end]
            rw [evC_ret]
            exact ⟨_, rfl⟩
          · skip
            refine ⟨true, fun H kk => ?_⟩
            rw [evC_seq, evC_region, evOps_alloc (ob := .cells [i64 x1, i64 x2, i64 x3, i64 x4, i64 x5] false) (mk := ptrTo) rfl rfl rfl rfl]
            dsimp only [putL, List.set, ptrTo]
            rw [evOps_pur (v := .bool false) rfl rfl rfl rfl, evOps_end]
            dsimp only [putL, List.set]
            rw [evC_seq, evC_region, evOps_pur (v := .func (.func 71) #[] #[]) rfl rfl rfl rfl, evOps_end]
            dsimp only [putL, List.set]
            rw [evC_seq, evC_region]
            rw [evOps_pur (v := .func (.func 71) #[] #[]) rfl rfl rfl rfl]
            dsimp only [putL, List.set]
            rw [evOps_pur (v := .pointer (some ⟨H.next, 0, none⟩)) rfl rfl rfl ?hp]
            case hp => exact (may_addr0 _)
            dsimp only [putL, List.set]
            rw [evOps_read (v := i64 x1) rfl rfl rfl ?hp]
            case hp => exact (may_load0 _ _ _ _ _ _)
            dsimp only [putL, List.set]
            rw [evOps_call (t := .fn 71) (args := [i64 x1, i64 1, i64 1024]) (v := .bool true) (H' := H.new (.cells [i64 x1, i64 x2, i64 x3, i64 x4, i64 x5] false)) rfl rfl rfl rfl ?hr]
            case hr => exact (fun k => by rw [within_ev, h1])
            dsimp only [putL, List.set]
            rw [evOps_pur (v := .bool true) rfl rfl rfl rfl]
            dsimp only [putL, List.set]
            rw [evOps_pur (v := .func (.func 71) #[] #[]) rfl rfl rfl rfl]
            dsimp only [putL, List.set]
            rw [evOps_pur (v := .pointer (some ⟨H.next, 1, none⟩)) rfl rfl rfl ?hp]
            case hp => exact (may_addr1 _)
            dsimp only [putL, List.set]
            rw [evOps_read (v := i64 x2) rfl rfl rfl ?hp]
            case hp => exact (may_load1 _ _ _ _ _ _)
            dsimp only [putL, List.set]
            rw [evOps_call (t := .fn 71) (args := [i64 x2, i64 1, i64 64]) (v := .bool true) (H' := H.new (.cells [i64 x1, i64 x2, i64 x3, i64 x4, i64 x5] false)) rfl rfl rfl rfl ?hr]
            case hr => exact (fun k => by rw [within_ev, h2])
            dsimp only [putL, List.set]
            rw [evOps_pur (v := .bool true) rfl rfl rfl rfl]
            dsimp only [putL, List.set]
            rw [evOps_pur (v := .bool true) rfl rfl rfl rfl]
            dsimp only [putL, List.set]
            rw [evOps_pur (v := .func (.func 71) #[] #[]) rfl rfl rfl rfl]
            dsimp only [putL, List.set]
            rw [evOps_pur (v := .pointer (some ⟨H.next, 2, none⟩)) rfl rfl rfl ?hp]
            case hp => exact (may_addr2 _)
            dsimp only [putL, List.set]
            rw [evOps_read (v := i64 x3) rfl rfl rfl ?hp]
            case hp => exact (may_load2 _ _ _ _ _ _)
            dsimp only [putL, List.set]
            rw [evOps_pur (v := .pointer (some ⟨H.next, 3, none⟩)) rfl rfl rfl ?hp]
            case hp => exact (may_addr3 _)
            dsimp only [putL, List.set]
            rw [evOps_read (v := i64 x4) rfl rfl rfl ?hp]
            case hp => exact (may_load3 _ _ _ _ _ _)
            dsimp only [putL, List.set]
            rw [evOps_call (t := .fn 71) (args := [i64 x3, i64 1, i64 x4]) (v := .bool true) (H' := H.new (.cells [i64 x1, i64 x2, i64 x3, i64 x4, i64 x5] false)) rfl rfl rfl rfl ?hr]
            case hr => exact (fun k => by rw [within_ev, h3])
            dsimp only [putL, List.set]
            rw [evOps_pur (v := .bool true) rfl rfl rfl rfl]
            dsimp only [putL, List.set]
            rw [evOps_pur (v := .bool true) rfl rfl rfl rfl]
            dsimp only [putL, List.set]
            rw [evOps_pur (v := .pointer (some ⟨H.next, 3, none⟩)) rfl rfl rfl ?hp]
            case hp => exact (may_addr3 _)
            dsimp only [putL, List.set]
            rw [evOps_read (v := i64 x4) rfl rfl rfl ?hp]
            case hp => exact (may_load3 _ _ _ _ _ _)
            dsimp only [putL, List.set]
            rw [evOps_pur (v := .bool true) rfl rfl rfl ?hp]
            case hp => exact (congrArg (fun b => some (Value.bool b)) h4)
            dsimp only [putL, List.set]
            rw [evOps_pur (v := .bool true) rfl rfl rfl rfl]
            dsimp only [putL, List.set]
            rw [evOps_pur (v := .bool true) rfl rfl rfl rfl]
            dsimp only [putL, List.set]
            rw [evOps_pur (v := .func (.func 71) #[] #[]) rfl rfl rfl rfl]
            dsimp only [putL, List.set]
            rw [evOps_pur (v := .pointer (some ⟨H.next, 4, none⟩)) rfl rfl rfl ?hp]
            case hp => exact (may_addr4 _)
            dsimp only [putL, List.set]
            rw [evOps_read (v := i64 x5) rfl rfl rfl ?hp]
            case hp => exact (may_load4 _ _ _ _ _ _)
            dsimp only [putL, List.set]
            rw [evOps_call (t := .fn 71) (args := [i64 x5, i64 1, i64 1048576]) (v := .bool true) (H' := H.new (.cells [i64 x1, i64 x2, i64 x3, i64 x4, i64 x5] false)) rfl rfl rfl rfl ?hr]
            case hr => exact (fun k => by rw [within_ev, h5])
            dsimp only [putL, List.set]
            rw [evOps_pur (v := .bool true) rfl rfl rfl rfl]
            dsimp only [putL, List.set]
            rw [evOps_pur (v := .bool true) rfl rfl rfl rfl]
            dsimp only [putL, List.set]
            rw [evOps_end]
            rw [evC_ret]
            exact ⟨_, rfl⟩
set_option maxRecDepth 20000 in
theorem may_ev (x1 x2 x3 x4 x5 : Int) (n : Nat) : ∃ b, ∀ {R : Type} (H : AHeap) (k : Value → AHeap → Option R),
    ev Tryz.prog (fnTab Tryz.prog) (n + 2) (.fn 37) [.agg #[i64 x1, i64 x2, i64 x3, i64 x4, i64 x5]] H k = k (.bool b) (H.new (.cells [i64 x1, i64 x2, i64 x3, i64 x4, i64 x5] false)) := by
  obtain ⟨b, hb⟩ := may_run x1 x2 x3 x4 x5 n
  refine ⟨b, fun {R} H k => ?_⟩
  rw [ev_call may_fe]
  obtain ⟨t, h⟩ := hb (R := R) H (fun ex st => match ex with
      | .normal | .ret => takeMarks st.marks st.H fun H => match resultsA Tryz.prog st.tm H [.tmp 2] with
        | some vs => k (tupled vs) H
        | none => none
      | _ => none)
  exact h
theorem new_agg : isAggT Tryz.prog 25 = some true := by kernel_rfl
theorem new_size : sizeT Tryz.prog 25 = some 5 := by kernel_rfl
theorem new_eql : binA Tryz.prog .eql 48 (.tmp 10) (.const (.pointer none)) (.pointer none) (.pointer none) = some (.bool true) := by kernel_rfl
theorem new_load (H : AHeap) (x1 x2 x3 x4 x5 : Int) : loadA Tryz.prog 25 (.pointer (some ⟨H.next, 0, none⟩)) (H.new (.cells [i64 x1, i64 x2, i64 x3, i64 x4, i64 x5] false)) = some (.agg #[i64 x1, i64 x2, i64 x3, i64 x4, i64 x5]) := by
  unfold loadA
  simp only [AHeap.get_new, if_true, partA, new_agg, new_size]
  rfl
noncomputable def new_code : Code := match Tryz.f6.body with | some c => c | none => .skip
theorem new_fe : fnTab Tryz.prog 6 = some { code := new_code, ntmps := 18, results := [.tmp 4, .tmp 5] } := fnTab_of Tryz.func6 rfl
set_option maxRecDepth 20000 in
theorem new_ev (x1 x2 x3 x4 x5 : Int) (n : Nat) {R : Type} (H : AHeap) (k : Value → AHeap → Option R) :
    ev Tryz.prog (fnTab Tryz.prog) (n + 3) (.fn 6) [.pointer none, .agg #[i64 x1, i64 x2, i64 x3, i64 x4, i64 x5]] H k = k (.tuple #[.pointer none, i64 1]) ((H.new (.cells [i64 x1, i64 x2, i64 x3, i64 x4, i64 x5] false)).new (.cells [i64 x1, i64 x2, i64 x3, i64 x4, i64 x5] false)) := by
  obtain ⟨b, hb⟩ := may_ev x1 x2 x3 x4 x5 n
  have hb := @hb R
  rw [ev_call new_fe]
  show evC Tryz.prog (ev Tryz.prog (fnTab Tryz.prog) (n + 2)) none (n + 2) new_code { tm := [.pointer none, .agg #[i64 x1, i64 x2, i64 x3, i64 x4, i64 x5], undef, undef, undef, undef, undef, undef, undef, undef, undef, undef, undef, undef, undef, undef, undef, undef], marks := [], H } _ = _
  unfold new_code Tryz.f6
  cases b
  · skip
    rw [evC_seq, evC_region, evOps_alloc (ob := .cells [i64 x1, i64 x2, i64 x3, i64 x4, i64 x5] false) (mk := ptrTo) rfl rfl rfl rfl]
    dsimp only [putL, List.set, ptrTo]
    rw [evOps_pur (v := .pointer none) rfl rfl rfl rfl]
    dsimp only [putL, List.set]
    rw [evOps_pur (v := i64 0) rfl rfl rfl rfl, evOps_end]
    dsimp only [putL, List.set]
    rw [evC_seq, evC_seq, evC_region]
    rw [evOps_read (v := .agg #[i64 x1, i64 x2, i64 x3, i64 x4, i64 x5]) rfl rfl rfl ?hp]
    case hp => exact new_load _ _ _ _ _ _
    dsimp only [putL, List.set]
    rw [evOps_call (t := .fn 37) (args := [.agg #[i64 x1, i64 x2, i64 x3, i64 x4, i64 x5]]) (v := .bool false) (H' := (H.new (.cells [i64 x1, i64 x2, i64 x3, i64 x4, i64 x5] false)).new (.cells [i64 x1, i64 x2, i64 x3, i64 x4, i64 x5] false)) rfl rfl rfl rfl ?hr]
    case hr => exact (fun k => hb _ k)
    dsimp only [putL, List.set]
    rw [evOps_pur (v := .bool true) rfl rfl rfl rfl]
    dsimp only [putL, List.set]
    rw [evOps_pur (v := .bool true) rfl rfl rfl rfl]
    dsimp only [putL, List.set]
    rw [evOps_skip rfl rfl]
    dsimp only [putL, List.set]
    rw [evOps_skip rfl rfl]
    dsimp only [putL, List.set]
    rw [evOps_pur (v := .bool true) rfl rfl rfl rfl, evOps_end]
    dsimp only [putL, List.set]
    rw [evC_cond true rfl rfl, if_pos rfl, evC_seq, evC_region]
    rw [evOps_pur (v := .pointer none) rfl rfl rfl rfl]
    dsimp only [putL, List.set]
    rw [evOps_pur (v := i64 1) rfl rfl rfl rfl, evOps_end]
    dsimp only [putL, List.set]
    rw [evC_ret]
    rfl
  · skip
    rw [evC_seq, evC_region, evOps_alloc (ob := .cells [i64 x1, i64 x2, i64 x3, i64 x4, i64 x5] false) (mk := ptrTo) rfl rfl rfl rfl]
    dsimp only [putL, List.set, ptrTo]
    rw [evOps_pur (v := .pointer none) rfl rfl rfl rfl]
    dsimp only [putL, List.set]
    rw [evOps_pur (v := i64 0) rfl rfl rfl rfl, evOps_end]
    dsimp only [putL, List.set]
    rw [evC_seq, evC_seq, evC_region]
    rw [evOps_read (v := .agg #[i64 x1, i64 x2, i64 x3, i64 x4, i64 x5]) rfl rfl rfl ?hp]
    case hp => exact new_load _ _ _ _ _ _
    dsimp only [putL, List.set]
    rw [evOps_call (t := .fn 37) (args := [.agg #[i64 x1, i64 x2, i64 x3, i64 x4, i64 x5]]) (v := .bool true) (H' := (H.new (.cells [i64 x1, i64 x2, i64 x3, i64 x4, i64 x5] false)).new (.cells [i64 x1, i64 x2, i64 x3, i64 x4, i64 x5] false)) rfl rfl rfl rfl ?hr]
    case hr => exact (fun k => hb _ k)
    dsimp only [putL, List.set]
    rw [evOps_pur (v := .bool false) rfl rfl rfl rfl]
    dsimp only [putL, List.set]
    rw [evOps_pur (v := .bool false) rfl rfl rfl rfl]
    dsimp only [putL, List.set]
    rw [evOps_pur (v := .pointer none) rfl rfl rfl rfl]
    dsimp only [putL, List.set]
    rw [evOps_pur (v := .bool true) rfl rfl rfl ?hp]
    case hp => exact new_eql
    dsimp only [putL, List.set]
    rw [evOps_pur (v := .bool true) rfl rfl rfl rfl, evOps_end]
    dsimp only [putL, List.set]
    rw [evC_cond true rfl rfl, if_pos rfl, evC_seq, evC_region]
    rw [evOps_pur (v := .pointer none) rfl rfl rfl rfl]
    dsimp only [putL, List.set]
    rw [evOps_pur (v := i64 1) rfl rfl rfl rfl, evOps_end]
    dsimp only [putL, List.set]
    rw [evC_ret]
    rfl
theorem Tryz.own : ownKnob Tryz.prog.godebug = none := by kernel_rfl
theorem Tryz.laidOut : laidOutB Tryz.prog = true := by kernel_rfl
theorem Tryz.mixed : Tryz.prog.follows .mixedOrders = true := by kernel_rfl
theorem Tryz.names : namesOk Tryz.prog = true := by kernel_rfl
theorem new_name : (Tryz.f6.name == "runtime.NumGoroutine") = false := by kernel_rfl
noncomputable def newOv : Tgt → List Value → Option Value
  | .fn 6, [.pointer none, .agg ⟨[.chan (some 1), .chan (some 1), .chan (some 1), .chan (some 1), .chan (some 1)]⟩] => some (.tuple #[.pointer none, .int .i64 1])
  | _, _ => none
theorem new_sim (t : Tgt) (args : List Value) (v : Value) (h : newOv t args = some v) (H : AHeap) : CallSim Tryz.prog t args H v H := by
  unfold newOv at h
  split at h
  · cases h
    refine sim_of (enters_of Tryz.func6 new_name (c := new_code) rfl) (fun ρ ar w hA => ?_) H
    obtain ⟨r1, l1, e1, h1, hl⟩ := LRel.cons_inv hA
    obtain ⟨r2, l2, rfl, h2, hl⟩ := LRel.cons_inv hl
    obtain rfl := LRel.nil_inv hl
    obtain rfl := plain_eq h1 rfl
    obtain ⟨x1, x2, x3, x4, x5, rfl⟩ := tok5 h2
    obtain rfl : ar = #[.pointer none, .agg #[i64 x1, i64 x2, i64 x3, i64 x4, i64 x5]] := Array.ext' e1
    refine (ran Tryz.mixed Tryz.names (new_ev x1 x2 x3 x4 x5 0 heap0 (fun v _ => some v)) (LRel.cons (.plain _ rfl) (LRel.cons (.agg' (plain0_all rfl)) (LRel.nil loc0)))).mono fun e w' ⟨ρ', vr, he, hvr, hB⟩ => ⟨vr, he, ?_, hB⟩
    obtain ⟨a', rfl, hl⟩ := hvr.tupleSome
    have ha := plain_list hl rfl
    refine .tuple' ?_
    rw [ha]
    exact plain0_all rfl
  · cases h
theorem sessionNil_tells : tells (evO Tryz.prog (fnTab Tryz.prog) newOv 1000 (.fn 3) [opq, opq, opq, .agg ⟨List.replicate (Tryz.prog.cellsOf 25) (.chan (some 1))⟩] heap0 fun v _ => some v) = true := by kernel_rfl
theorem sessionNil_ints : intStruct Tryz.prog 25 = true := by kernel_rfl
theorem sessionNil_p22 : opqPlain Tryz.prog 22 = true := by kernel_rfl
theorem sessionNil_p23 : opqPlain Tryz.prog 23 = true := by kernel_rfl
theorem sessionNil_p3 : opqPlain Tryz.prog 3 = true := by kernel_rfl
theorem sessionNil_reads : Tryz.f3.params.toList.all (fun t => Tryz.prog.readableRec t && decide (t < Tryz.prog.types.size)) = true := by kernel_rfl
set_option maxRecDepth 100000 in
theorem sessionNil_lifted (os : Os) (started : os.Started) (H : Type) (enc : TypeId × Value → H) :
    ReturnsInHanded {} Tryz.checked os 3 .any (Rows.sessionNilSpec.pre6 enc Tryz.prog Tryz.f3 Rows.sessionNilRow.domain false) (Rows.sessionNilSpec.post enc Tryz.prog Tryz.f3 Rows.sessionNilRow.apart Rows.sessionNilRow.fresh Rows.sessionNilRow.handsOn Rows.sessionNilRow.again) := by
  refine returnsInHanded_of_change (C := Tryz.checked) Tryz.own started (by kernel_rfl) Tryz.func3
    (ChangeSpec.witness6 (enc := enc) (C := Tryz.checked) false ⟨#[], #[.slice none 0 0, .int .u32 0, .int .i64 0, .agg #[.int .i64 0, .int .i64 0, .int .i64 0, .int .i64 0, .int .i64 0]], []⟩ 8 (by kernel_rfl) (by kernel_rfl) (by kernel_rfl) (by kernel_rfl)) ?_
  intro W base args ds gs before hval hW _ _
  have hW' := hW
  obtain ⟨p, q, hA, _, _, _, _⟩ := hW'
  have hA : DataW.TrodAll enc Tryz.prog W 0 (fun _ => true) true Tryz.f3.params.toList args.toList ds p := hA
  rw [Tryz.params3] at hA
  obtain ⟨v0, l0, d0, m0, _, _, e0, rfl, rfl, _, hA⟩ := trodAll_cons hA
  obtain ⟨v1, l1, d1, m1, _, _, rfl, rfl, rfl, _, hA⟩ := trodAll_cons hA
  obtain ⟨v2, l2, d2, m2, _, _, rfl, rfl, rfl, _, hA⟩ := trodAll_cons hA
  obtain ⟨v3, l3, d3, m3, _, _, rfl, rfl, rfl, _, hA⟩ := trodAll_cons hA
  obtain ⟨rfl, rfl, rfl⟩ := trodAll_nil hA
  obtain rfl : args = #[v0, v1, v2, v3] := Array.ext' e0
  have k0 := arg_opq (ρ := loc0) (hval 0 22 v0 rfl rfl) sessionNil_p22
  have k1 := arg_opq (ρ := loc0) (hval 1 23 v1 rfl rfl) sessionNil_p23
  have k2 := arg_opq (ρ := loc0) (hval 2 3 v2 rfl rfl) sessionNil_p3
  have k3 := arg_ints (ρ := loc0) (hval 3 25 v3 rfl rfl) sessionNil_ints
  refine (ranO Tryz.mixed Tryz.names new_sim (tells_eq sessionNil_tells) (LRel.cons k0 (LRel.cons k1 (LRel.cons k2 (LRel.cons k3 (LRel.nil loc0)))))).mono fun e W' ⟨ρ, vr, he, hvr, hB⟩ => ?_
  cases hvr.bool
  have hs : Rows.sessionNilSpec.fn H ([d0, d1, d2, d3] ++ gs) = { results := [.lit (.bool true)], args := [d0, d1, d2, d3] } := by
    obtain ⟨_, _, _, hV, _, _, _⟩ := hW
    obtain ⟨rfl, _⟩ := trodVars_none hV
    rfl
  exact ⟨_, he, law_post Tryz.laidOut sessionNil_reads rfl rfl Tryz.underlying4 hW hs hB⟩
theorem sessionNil_holds : Rows.SessionNilSaid :=
  OpenClaim.holds_of_wide 3 Tryz.f3 rfl rfl rfl rfl rfl rfl rfl ⟨rfl, rfl, rfl, rfl, rfl⟩ rfl rfl rfl rfl rfl (by kernel_rfl) Tryz.func3 (by kernel_rfl)
    (of_decide_eq_true (by kernel_rfl)) (by unfold Func.isWrapper; first | (rw [if_pos (by decide +kernel)]; kernel_rfl) | (rw [if_neg (by decide +kernel)]; exact ⟨rfl, rfl⟩))
    (fun os started H enc _ => sessionNil_lifted os started H enc)
#print axioms sessionNil_holds
end Go.Proofs.YtjncmibloiomhaaGreat
