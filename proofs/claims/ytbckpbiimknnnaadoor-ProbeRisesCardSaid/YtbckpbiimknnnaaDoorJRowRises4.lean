import Derived.Test.YtbckpbiimknnnaaDoorJRowRises0
import Derived.Test.YtbckpbiimknnnaaDoorJRowRises3
import Derived.SizedLaws
import Derived.ChangeSlices
namespace Go.Proofs.YtbckpbiimknnnaaDoor.X
open Go.RowKit Go.Proofs.YtbckpbiimknnnaaDoorW.PrintWords Go.Proofs.YtbckpbiimknnnaaDoorW.PrintLast Go.Proofs.YtbckpbiimknnnaaDoorW.PrintMore
attribute [local go_sem] max2_int min2_int max_two min_two max_three min_three max_four min_four
set_option linter.unusedVariables false
set_option linter.unusedSimpArgs false
def leastMin : List Int → Int
  | [] => 0
  | x :: xs => xs.foldl (fun a b => min a b) x
theorem leastMin_snoc (l : List Int) (x : Int) (h : l ≠ []) : leastMin (l ++ [x]) = min (leastMin l) x := by
  cases l with
  | nil => exact absurd rfl h
  | cons y ys => simp [leastMin]
def slices_Min_int64_int64.f (l0 : List Int) : Option (Int) := (if l0.length = 0 then none else some (leastMin l0))
set_option maxHeartbeats 8000000 in
set_option maxRecDepth 1000000 in
theorem slices_Min_int64_int64.calls (A0 : Option Addr) (c0 : Nat) (l0 : List Int) (r : Int) (w : World) (hr0 : Kd.C (Kd.int .i64) w A0 l0.length l0) (hc0 : l0.length ≤ c0) (h : slices_Min_int64_int64.f l0 = some r) :
    Calls Tryd.prog 19 #[.slice A0 l0.length c0] w fun e w' => e = .returned (.int .i64 r) ∧ Drawn0 w w' := by
  unfold slices_Min_int64_int64.f at h
  split at h
  case isTrue => cases h
  rename_i hne
  obtain rfl := Option.some.inj h
  clear h
  have HR0 := Aside0.mk hr0
  have hlen : l0.length ≤ 9223372036854775807 := Kd.C_max hr0
  clear hr0 hc0
  have hz1 : (1 : Int) ≤ (l0.length : Int) := by omega
  have d1 : decide ((l0.length : Int) < 1) = false := decide_eq_false (by omega)
  obtain ⟨ad, e1, hx⟩ := Kd.at_int HR0.out (0 : Int) (by omega) (by omega)
  cases e1
  have hx0 : w.cell? ad = some (.int .i64 (rd l0 0)) := hx
  clear hx
  go_enter Tryd.func19, Tryd.ntmps19
  go_wp2
  go_loopw [3, 4] (fun s3 s4 wr => ∃ (k : Nat) (m : Int), s4 = .int .i64 k ∧ s3 = .int .i64 m ∧ 1 ≤ k ∧ k ≤ l0.length ∧ wr = w ∧ Aside0 (m = leastMin (l0.take k))) (fun _ i _ => l0.length - (intOf i).toNat)
  case atStart =>
    refine ⟨1, _, rfl, rfl, Nat.le_refl _, by omega, rfl, ⟨?_⟩⟩
    cases l0 with
    | nil => exact absurd rfl hne
    | cons x xs => simp [leastMin, rd]
  case round =>
    clear hx0 d1
    obtain ⟨k, m, rfl, rfl, hk1, hk, rfl, HM⟩ := hrel
    by_cases hlt : k < l0.length
    · have hltz : (k : Int) < (l0.length : Int) := by omega
      obtain ⟨ad2, e1, hx⟩ := Kd.at_int HR0.out (k : Int) (by omega) hltz
      cases e1
      rw [Int.toNat_natCast] at hx
      have hg : rd l0 (k : Int) = l0[k] := by rw [rd, Int.toNat_natCast, List.getD_eq_getElem?_getD, List.getElem?_eq_getElem hlt]; rfl
      have HG : Aside0 (min m (rd l0 (k : Int)) = leastMin (l0.take (k + 1))) := ⟨by
        rw [List.take_succ_eq_append_getElem hlt, ← hg, leastMin_snoc _ _ (fun h => by
          have := congrArg List.length h
          rw [List.length_take, List.length_nil] at this
          omega), HM.out]⟩
      clear hg HM
      generalize rd l0 (k : Int) = y at hx HG
      go_wp2
      refine ⟨⟨k + 1, _, by go_num, rfl, by omega, by omega, trivial, ⟨?_⟩⟩, by simp [intOf]; omega⟩
      rw [← HG.out]
      split <;> omega
    · have hltz : ¬ (k : Int) < (l0.length : Int) := by omega
      have : k = l0.length := by omega
      subst this
      go_wp2
      go_ret
      rw [List.take_length] at HM
      exact ⟨by rw [← HM.out]; rfl, Drawn0.refl _⟩
end Go.Proofs.YtbckpbiimknnnaaDoor.X
namespace Go.Proofs.YtbckpbiimknnnaaDoor.X
open Go.RowKit Go.Proofs.YtbckpbiimknnnaaDoorW.PrintWords Go.Proofs.YtbckpbiimknnnaaDoorW.PrintLast Go.Proofs.YtbckpbiimknnnaaDoorW.PrintMore
attribute [local go_sem] max2_int min2_int max_two min_two max_three min_three max_four min_four
set_option linter.unusedVariables false
set_option linter.unusedSimpArgs false
def probe_Span.f (l0 : List Int) : Option (Int × Int × Int) := (probe_look.f l0).bind fun t101 => (if t101 = 0 then ((slices_Min_int64_int64.f l0).bind fun t102 => ((slices_Max_int64_int64.f l0).bind fun t103 => (some (t102, t103, 0)))) else (some (0, 0, t101)))
set_option maxHeartbeats 8000000 in
set_option maxRecDepth 100000 in
theorem probe_Span.calls (A0 : Option Addr) (c0 : Nat) (l0 : List Int) (r1 : Int) (r2 : Int) (r3 : Int) (w : World) (hr0 : Kd.C (Kd.int .i64) w A0 l0.length l0) (hc0 : l0.length ≤ c0) (h : probe_Span.f l0 = some (r1, r2, r3)) :
    Calls Tryd.prog 12 #[.slice A0 l0.length c0] w fun e w' => e = .returned (.tuple #[.int .i64 r1, .int .i64 r2, .int .i64 r3]) ∧ Below w.heap.size w w' := by
  have HR0 := Aside0.mk hr0
  have HC0 := Aside0.mk hc0
  clear hr0 hc0
  have HB := Aside0.mk (Below.refl w.heap.size w)
  have H : ((probe_look.f l0).bind fun t101 => (if t101 = 0 then ((slices_Min_int64_int64.f l0).bind fun t102 => ((slices_Max_int64_int64.f l0).bind fun t103 => (some (t102, t103, 0)))) else (some (0, 0, t101)))) = some (r1, r2, r3) := h
  clear h
  replace H := Option.bind_eq_some_iff.mp H
  obtain ⟨t101, A20, H⟩ := H
  replace H : (if t101 = 0 then ((slices_Min_int64_int64.f l0).bind fun t102 => ((slices_Max_int64_int64.f l0).bind fun t103 => (some (t102, t103, 0)))) else (some (0, 0, t101))) = some (r1, r2, r3) := H
  have A2 := Aside0.mk A20
  clear A20
  by_cases c3 : t101 = 0
  · rw [if_pos c3] at H
    have c3b0 : (t101 == 0) = true := beq_iff_eq.mpr c3
    have c3b1 : (t101 != 0) = false := bne_eq_false_iff_eq.mpr c3
    clear c3
    replace H := Option.bind_eq_some_iff.mp H
    obtain ⟨t102, A40, H⟩ := H
    replace H : ((slices_Max_int64_int64.f l0).bind fun t103 => (some (t102, t103, 0))) = some (r1, r2, r3) := H
    have A4 := Aside0.mk A40
    clear A40
    replace H := Option.bind_eq_some_iff.mp H
    obtain ⟨t103, A50, H⟩ := H
    replace H : (some (t102, t103, 0)) = some (r1, r2, r3) := H
    have A5 := Aside0.mk A50
    clear A50
    simp only [Option.some.injEq, Prod.mk.injEq] at H
    obtain ⟨rfl, rfl, rfl⟩ := H
    go_enter Tryd.func12, Tryd.ntmps12
    go_wp2_with (first | ((with_reducible refine gate_callee (f := 14) rfl ?_); refine goesL_ (some 7) rfl rfl Tryd.func14 (by kernel_rfl) rfl #[.slice A0 l0.length c0] rfl (by (try simp only [List.map_toArray, List.map_cons, List.map_nil]); first | done | rfl | (simp only [List.length_drop, List.length_take]; rfl)) ?_; (with_reducible refine (probe_look.calls _ _ l0 t101 _ ?side1 ?side2 A2.out).mono ?_); (case side1 => repeat (first | exact HR0.out | (with_reducible refine Kd.C_alloc ?_ _) | (with_reducible refine Kd.C_drewN ?_ _) | (with_reducible refine Kd.C_drew ?_))); (case side2 => exact HC0.out); rintro e w6 ⟨rfl, hb⟩; refine ⟨_, rfl, ?_⟩; have n0_ := Aside0.mk (below_step (by repeat (first | (with_reducible first | exact HB.out | apply below_alloc | apply pw_below_drewN | apply below_drew1) | exact HB.out)) hb); clear HB; have HB := n0_; clear n0_; (try clear hb); (try clear hb2); (try clear hk); (try clear hi)) | ((with_reducible refine gate_callee (f := 19) rfl ?_); refine goesL_ (some 12) rfl rfl Tryd.func19 (by kernel_rfl) rfl #[.slice A0 l0.length c0] rfl (by (try simp only [List.map_toArray, List.map_cons, List.map_nil]); first | done | rfl | (simp only [List.length_drop, List.length_take]; rfl)) ?_; (with_reducible refine (slices_Min_int64_int64.calls _ _ l0 t102 _ ?side1 ?side2 A4.out).mono ?_); (case side1 => repeat (first | exact (Kd.C_below HR0.out HB.out) | (with_reducible refine Kd.C_alloc ?_ _) | (with_reducible refine Kd.C_drewN ?_ _) | (with_reducible refine Kd.C_drew ?_))); (case side2 => exact HC0.out); rintro e w' ⟨rfl, ⟨nd, rfl⟩⟩; refine ⟨_, rfl, ?_⟩) | ((with_reducible refine gate_callee (f := 20) rfl ?_); refine goesL_ (some 14) rfl rfl Tryd.func20 (by kernel_rfl) rfl #[.slice A0 l0.length c0] rfl (by (try simp only [List.map_toArray, List.map_cons, List.map_nil]); first | done | rfl | (simp only [List.length_drop, List.length_take]; rfl)) ?_; (with_reducible refine (slices_Max_int64_int64.calls _ _ l0 t103 _ ?side1 ?side2 A5.out).mono ?_); (case side1 => repeat (first | exact (Kd.C_below HR0.out (by repeat (first | (with_reducible first | exact HB.out | apply below_alloc | apply pw_below_drewN | apply below_drew1) | exact HB.out))) | (with_reducible refine Kd.C_alloc ?_ _) | (with_reducible refine Kd.C_drewN ?_ _) | (with_reducible refine Kd.C_drew ?_))); (case side2 => exact HC0.out); rintro e w' ⟨rfl, ⟨nd, rfl⟩⟩; refine ⟨_, rfl, ?_⟩))
    go_ret3
    exact ⟨by first | rfl | (simp [errW_none, errW_some] <;> rfl) | (simp [*, errW_none, errW_some] <;> rfl), by repeat (first | (with_reducible first | exact HB.out | apply below_alloc | apply pw_below_drewN | apply below_drew1) | exact HB.out)⟩
  · rw [if_neg c3] at H
    have c3b0 : (t101 == 0) = false := beq_eq_false_iff_ne.mpr c3
    have c3b1 : (t101 != 0) = true := bne_iff_ne.mpr c3
    simp only [Option.some.injEq, Prod.mk.injEq] at H
    obtain ⟨rfl, rfl, rfl⟩ := H
    go_enter Tryd.func12, Tryd.ntmps12
    go_wp2_with (first | ((with_reducible refine gate_callee (f := 14) rfl ?_); refine goesL_ (some 7) rfl rfl Tryd.func14 (by kernel_rfl) rfl #[.slice A0 l0.length c0] rfl (by (try simp only [List.map_toArray, List.map_cons, List.map_nil]); first | done | rfl | (simp only [List.length_drop, List.length_take]; rfl)) ?_; (with_reducible refine (probe_look.calls _ _ l0 t101 _ ?side1 ?side2 A2.out).mono ?_); (case side1 => repeat (first | exact HR0.out | (with_reducible refine Kd.C_alloc ?_ _) | (with_reducible refine Kd.C_drewN ?_ _) | (with_reducible refine Kd.C_drew ?_))); (case side2 => exact HC0.out); rintro e w7 ⟨rfl, hb⟩; refine ⟨_, rfl, ?_⟩; have n0_ := Aside0.mk (below_step (by repeat (first | (with_reducible first | exact HB.out | apply below_alloc | apply pw_below_drewN | apply below_drew1) | exact HB.out)) hb); clear HB; have HB := n0_; clear n0_; (try clear hb); (try clear hb2); (try clear hk); (try clear hi)))
    go_ret3
    exact ⟨by first | rfl | (simp [errW_none, errW_some] <;> rfl) | (simp [*, errW_none, errW_some] <;> rfl), by repeat (first | (with_reducible first | exact HB.out | apply below_alloc | apply pw_below_drewN | apply below_drew1) | exact HB.out)⟩
end Go.Proofs.YtbckpbiimknnnaaDoor.X
namespace Go.Proofs.YtbckpbiimknnnaaDoor.X
open Go.RowKit Go.Proofs.YtbckpbiimknnnaaDoorW.PrintWords Go.Proofs.YtbckpbiimknnnaaDoorW.PrintLast Go.Proofs.YtbckpbiimknnnaaDoorW.PrintMore
attribute [local go_sem] max2_int min2_int max_two min_two max_three min_three max_four min_four
set_option linter.unusedVariables false
set_option linter.unusedSimpArgs false
def shuntlaw20_circuit.f  : Option (List ByteArray × (List (S60)) × Int × Int × Int) := some ((([(⟨#[48]⟩ : ByteArray), (⟨#[97]⟩ : ByteArray), (⟨#[120, 49, 46, 98]⟩ : ByteArray)] : List ByteArray)), (([(⟨114, (⟨#[120, 49, 46, 114, 49]⟩ : ByteArray), (([1, 2] : List Int)), 0, (⟨1, 0⟩ : S42), (⟨0, ([] : List (S42)), ([] : List Int)⟩ : S56), (⟨(⟨#[]⟩ : ByteArray), 0, ([] : List (S42)), ([] : List (S42))⟩ : S58)⟩ : S60)] : List (S60))), 1, 0, 1)
set_option maxHeartbeats 8000000 in
set_option maxRecDepth 100000 in
theorem shuntlaw20_circuit.calls  (r1 : List ByteArray) (r2 : List (S60)) (r3 : Int) (r4 : Int) (r5 : Int) (w : World) (h : shuntlaw20_circuit.f  = some (r1, r2, r3, r4, r5)) :
    Calls Tryd.prog 11 #[] w fun e w' => ∃ v0_ v1_ : Value, e = .returned (.agg #[v0_, v1_, .int .i64 r3, .int .i64 r4, .int .i64 r5]) ∧ Kd.R Kd.string 9 w' w.heap.size (fun k_ => (w.heap.size ≤ k_)) v0_ r1 ∧ Kd.N k60 60 w' w.heap.size (fun k_ => (w.heap.size ≤ k_) ∧ some k_ ≠ (v0_ : Value).ownBlock) v1_ r2 ∧ Below w.heap.size w w' := by
  have hu44 := Tryd.underlying44
  have hu42 := Tryd.underlying42
  have hu60 := Tryd.underlying60
  have HB := Aside0.mk (Below.refl w.heap.size w)
  have H : (some ((([(⟨#[48]⟩ : ByteArray), (⟨#[97]⟩ : ByteArray), (⟨#[120, 49, 46, 98]⟩ : ByteArray)] : List ByteArray)), (([(⟨114, (⟨#[120, 49, 46, 114, 49]⟩ : ByteArray), (([1, 2] : List Int)), 0, (⟨1, 0⟩ : S42), (⟨0, ([] : List (S42)), ([] : List Int)⟩ : S56), (⟨(⟨#[]⟩ : ByteArray), 0, ([] : List (S42)), ([] : List (S42))⟩ : S58)⟩ : S60)] : List (S60))), 1, 0, 1)) = some (r1, r2, r3, r4, r5) := h
  clear h
  obtain ⟨y102, hy102⟩ : ∃ y_ : List ByteArray, y_ = (([(⟨#[48]⟩ : ByteArray), (⟨#[97]⟩ : ByteArray), (⟨#[120, 49, 46, 98]⟩ : ByteArray)] : List ByteArray)) := ⟨_, rfl⟩
  replace H : (some (y102, (([(⟨114, (⟨#[120, 49, 46, 114, 49]⟩ : ByteArray), (([1, 2] : List Int)), 0, (⟨1, 0⟩ : S42), (⟨0, ([] : List (S42)), ([] : List Int)⟩ : S56), (⟨(⟨#[]⟩ : ByteArray), 0, ([] : List (S42)), ([] : List (S42))⟩ : S58)⟩ : S60)] : List (S60))), 1, 0, 1)) = some (r1, r2, r3, r4, r5) := by first | (rw [hy102]; with_reducible exact H) | (have H2_ := (Option.bind_some _ _).symm.trans H; rw [hy102]; with_reducible exact H2_) | (have H2_ := (Option.bind_some _ _).symm.trans H; with_reducible exact H2_) | with_reducible exact H | (rw [hy102]; exact H) | exact H
  have Ny102 := Aside0.mk hy102
  clear hy102
  obtain ⟨y105, hy105⟩ : ∃ y_ : List Int, y_ = (([1, 2] : List Int)) := ⟨_, rfl⟩
  replace H : (some (y102, (([(⟨114, (⟨#[120, 49, 46, 114, 49]⟩ : ByteArray), y105, 0, (⟨1, 0⟩ : S42), (⟨0, ([] : List (S42)), ([] : List Int)⟩ : S56), (⟨(⟨#[]⟩ : ByteArray), 0, ([] : List (S42)), ([] : List (S42))⟩ : S58)⟩ : S60)] : List (S60))), 1, 0, 1)) = some (r1, r2, r3, r4, r5) := by first | (rw [hy105]; with_reducible exact H) | (have H2_ := (Option.bind_some _ _).symm.trans H; rw [hy105]; with_reducible exact H2_) | (have H2_ := (Option.bind_some _ _).symm.trans H; with_reducible exact H2_) | with_reducible exact H | (rw [hy105]; exact H) | exact H
  have Ny105 := Aside0.mk hy105
  clear hy105
  obtain ⟨y108, hy108⟩ : ∃ y_ : List (S60), y_ = (([(⟨114, (⟨#[120, 49, 46, 114, 49]⟩ : ByteArray), y105, 0, (⟨1, 0⟩ : S42), (⟨0, ([] : List (S42)), ([] : List Int)⟩ : S56), (⟨(⟨#[]⟩ : ByteArray), 0, ([] : List (S42)), ([] : List (S42))⟩ : S58)⟩ : S60)] : List (S60))) := ⟨_, rfl⟩
  replace H : (some (y102, y108, 1, 0, 1)) = some (r1, r2, r3, r4, r5) := by first | (rw [hy108]; with_reducible exact H) | (have H2_ := (Option.bind_some _ _).symm.trans H; rw [hy108]; with_reducible exact H2_) | (have H2_ := (Option.bind_some _ _).symm.trans H; with_reducible exact H2_) | with_reducible exact H | (rw [hy108]; exact H) | exact H
  have Ny108 := Aside0.mk hy108
  clear hy108
  simp only [Option.some.injEq, Prod.mk.injEq] at H
  obtain ⟨rfl, rfl, rfl, rfl, rfl⟩ := H
  go_enter Tryd.func11, Tryd.ntmps11
  go_wp2_with (first | ((with_reducible refine gate_dst (N := 0) rfl ?_); refine box_event ?hg (N := 0) ?hd (cs := #[.slice none 0 0, .slice none 0 0, .int .i64 0, .int .i64 0, .int .i64 0]) (t := 44) ?hr ?_; (case hd => rfl); (case hg => rfl); (case hr => first | (go_simp; done) | (go_simp; rfl)); intro gb101 hg w1 hbox hb; have n0_ := Aside0.mk (below_step (by repeat (first | (with_reducible first | exact HB.out | apply below_alloc | apply pw_below_drewN | apply below_drew1) | exact HB.out)) hb); have n1_ := Aside0.mk (hbox); have n2_ := Aside0.mk ((by rw [hg]; exact (below_size (by repeat (first | (with_reducible first | exact HB.out | apply below_alloc | apply pw_below_drewN | apply below_drew1) | exact HB.out))) : w.heap.size ≤ gb101)); have n3_ := Aside0.mk ((by rw [hg]; exact (below_size (by repeat (first | (with_reducible first | exact HB.out | apply below_alloc | apply pw_below_drewN | apply below_drew1) | exact HB.out))) : w.heap.size ≤ gb101)); clear HB; have HB := n0_; have BK101 := n1_; have GW101 := n2_; have GE101 := n3_; clear n0_ n1_ n2_ n3_; clear hb hbox hg) | ((with_reducible refine gate_dst (N := 1) rfl ?_); refine Kd.R_lit Kd.string _ 9 ?hg (N := 1) ?hd (xs := ([(⟨#[48]⟩ : ByteArray), (⟨#[97]⟩ : ByteArray), (⟨#[120, 49, 46, 98]⟩ : ByteArray)] : List ByteArray)) (inner := [.string (⟨#[48]⟩ : ByteArray), .string (⟨#[97]⟩ : ByteArray), .string (⟨#[120, 49, 46, 98]⟩ : ByteArray)]) (ok := fun _ => True) (okp := fun _ => True) ?hr ?hp (fun _ hk => hk) trivial (Below.refl _ _) (Nat.le_refl _) (by simp) ?_; (case hd => rfl); (case hg => rfl); (case hr => first | (go_simp; done) | (go_simp; rfl)); (case hp => exact (Reps.one (show Kd.M Kd.string _ _ _ (⟨#[48]⟩ : ByteArray) [.string (⟨#[48]⟩ : ByteArray)] from rfl) (Reps.one (show Kd.M Kd.string _ _ _ (⟨#[97]⟩ : ByteArray) [.string (⟨#[97]⟩ : ByteArray)] from rfl) (Reps.one (show Kd.M Kd.string _ _ _ (⟨#[120, 49, 46, 98]⟩ : ByteArray) [.string (⟨#[120, 49, 46, 98]⟩ : ByteArray)] from rfl) (Reps.none _ _))))); intro v103 w2 ho3 hb hg_ hnew_; clear hg_ hnew_; (first | rw [← Ny102.out] at ho3 | (simp only [Int.reduceToNat] at ho3; rw [← Ny102.out] at ho3)); have n0_ := Aside0.mk (Kd.R_lower (Kd.R_newM (M := fun k_ => (w.heap.size ≤ k_)) ho3 (below_size (by repeat (first | (with_reducible first | exact HB.out | apply below_alloc | apply pw_below_drewN | apply below_drew1 | refine below_set ?_ GE101.out) | exact HB.out))) (fun k_ h_ => h_)) (below_size (by repeat (first | (with_reducible first | exact HB.out | apply below_alloc | apply pw_below_drewN | apply below_drew1 | refine below_set ?_ GE101.out) | exact HB.out)))); have n1_ := Aside0.mk (blk_below (g := gb101) (o := .cells #[.slice none 0 0, .slice none 0 0, .int .i64 0, .int .i64 0, .int .i64 0] 44 (0, 0)) (by (with_reducible repeat (first | refine blk_drewN ?_ _ | refine blk_drew ?_ | refine blk_alloc ?_ _)); exact BK101.out) hb); have n2_ := Aside0.mk (below_step (by repeat (first | (with_reducible first | exact HB.out | apply below_alloc | apply pw_below_drewN | apply below_drew1 | refine below_set ?_ GE101.out) | exact HB.out)) hb); clear BK101; clear HB; have HO104 := n0_; have BK101 := n1_; have HB := n2_; clear n0_ n1_ n2_; clear hb ho3) | ((with_reducible refine gate_dst (N := 3) rfl ?_); refine Kd.R_lit (Kd.int .i64) _ 3 ?hg (N := 3) ?hd (xs := ([1, 2] : List Int)) (inner := [.int .i64 1, .int .i64 2]) (ok := fun _ => True) (okp := fun _ => True) ?hr ?hp (fun _ hk => hk) trivial (Below.refl _ _) (Nat.le_refl _) (by simp) ?_; (case hd => rfl); (case hg => rfl); (case hr => first | (go_simp; done) | (go_simp; rfl)); (case hp => exact (Reps.one (show Kd.M (Kd.int .i64) _ _ _ 1 [.int .i64 1] from rfl) (Reps.one (show Kd.M (Kd.int .i64) _ _ _ 2 [.int .i64 2] from rfl) (Reps.none _ _)))); intro v106 w4 ho5 hb hg_ hnew_; clear hg_ hnew_; (first | rw [← Ny105.out] at ho5 | (simp only [Int.reduceToNat] at ho5; rw [← Ny105.out] at ho5)); have n0_ := Aside0.mk (Kd.R_below (by (with_reducible repeat (first | apply Kd.R_alloc | apply Kd.R_drewN | apply Kd.R_drew)); exact HO104.out) hb); have n1_ := Aside0.mk (Kd.R_lower (Kd.R_newM (M := fun k_ => (w.heap.size ≤ k_)) ho5 (below_size (by repeat (first | (with_reducible first | exact HB.out | apply below_alloc | apply pw_below_drewN | apply below_drew1 | refine below_set ?_ GE101.out) | exact HB.out))) (fun k_ h_ => h_)) (below_size (by repeat (first | (with_reducible first | exact HB.out | apply below_alloc | apply pw_below_drewN | apply below_drew1 | refine below_set ?_ GE101.out) | exact HB.out)))); have n2_ := Aside0.mk (blk_below (g := gb101) (o := .cells #[.slice none 0 0, .slice none 0 0, .int .i64 0, .int .i64 0, .int .i64 0] 44 (0, 0)) (by (with_reducible repeat (first | refine blk_drewN ?_ _ | refine blk_drew ?_ | refine blk_alloc ?_ _)); exact BK101.out) hb); have n3_ := Aside0.mk (below_step (by repeat (first | (with_reducible first | exact HB.out | apply below_alloc | apply pw_below_drewN | apply below_drew1 | refine below_set ?_ GE101.out) | exact HB.out)) hb); clear HO104; clear BK101; clear HB; have HO104 := n0_; have HO107 := n1_; have BK101 := n2_; have HB := n3_; clear n0_ n1_ n2_ n3_; clear hb ho5; obtain ⟨Ao6, co6, eo6⟩ := Kd.R_slice HO107.out; subst eo6) | ((with_reducible refine gate_dst (N := 6) rfl ?_); refine Kd.N_lit k60 _ 60 ?hg (N' := 6) ?hd (xs := ([(⟨114, (⟨#[120, 49, 46, 114, 49]⟩ : ByteArray), y105, 0, (⟨1, 0⟩ : S42), (⟨0, ([] : List (S42)), ([] : List Int)⟩ : S56), (⟨(⟨#[]⟩ : ByteArray), 0, ([] : List (S42)), ([] : List (S42))⟩ : S58)⟩ : S60)] : List (S60))) (inner := [.int .u8 114, .string (⟨#[120, 49, 46, 114, 49]⟩ : ByteArray), .slice Ao6 y105.length co6, .int .i64 0, .int .i64 1, .int .i64 0, .int .i64 0, .slice none 0 0, .slice none 0 0, .string (⟨#[]⟩ : ByteArray), .int .u8 0, .slice none 0 0, .slice none 0 0]) (ok := (fun k_ => (w.heap.size ≤ k_) ∧ some k_ ≠ (v103 : Value).ownBlock ∧ k_ ≠ gb101)) (okp := (fun k_ => (w.heap.size ≤ k_) ∧ some k_ ≠ (v103 : Value).ownBlock ∧ k_ ≠ gb101)) ?hr ?hp (fun _ hk => hk) ((show ∀ k_, w4.heap.size ≤ k_ → (fun k_ => (w.heap.size ≤ k_) ∧ some k_ ≠ (v103 : Value).ownBlock ∧ k_ ≠ gb101) k_ from fun k_ hk => ⟨(Nat.le_trans (below_size (by repeat (first | (with_reducible first | exact HB.out | apply below_alloc | apply pw_below_drewN | apply below_drew1 | refine below_set ?_ GE101.out) | exact HB.out))) hk), Kd.fresh' (Kd.R_lt (by (with_reducible repeat (first | apply Kd.R_alloc | apply Kd.R_drewN | apply Kd.R_drew)); exact HO104.out)) k_ hk, Kd.freshB (g := gb101) (o := .cells #[.slice none 0 0, .slice none 0 0, .int .i64 0, .int .i64 0, .int .i64 0] 44 (0, 0)) (by (with_reducible repeat (first | refine blk_drewN ?_ _ | refine blk_drew ?_ | refine blk_alloc ?_ _)); exact BK101.out) k_ hk⟩) _ (Nat.le_refl _)) (Below.refl _ _) (Nat.le_refl _) (by simp) ?_; (case hd => rfl); (case hg => rfl); (case hr => first | (go_simp; done) | (go_simp; rfl)); (case hp => exact (Reps.front (show Kd.FK k60 _ _ (⟨114, (⟨#[120, 49, 46, 114, 49]⟩ : ByteArray), y105, 0, (⟨1, 0⟩ : S42), (⟨0, ([] : List (S42)), ([] : List Int)⟩ : S56), (⟨(⟨#[]⟩ : ByteArray), 0, ([] : List (S42)), ([] : List (S42))⟩ : S58)⟩ : S60) [.int .u8 114, .string (⟨#[120, 49, 46, 114, 49]⟩ : ByteArray), .slice Ao6 y105.length co6, .int .i64 0, .int .i64 1, .int .i64 0, .int .i64 0, .slice none 0 0, .slice none 0 0, .string (⟨#[]⟩ : ByteArray), .int .u8 0, .slice none 0 0, .slice none 0 0] from (k60_mkF _ _ (⟨114, (⟨#[120, 49, 46, 114, 49]⟩ : ByteArray), y105, 0, (⟨1, 0⟩ : S42), (⟨0, ([] : List (S42)), ([] : List Int)⟩ : S56), (⟨(⟨#[]⟩ : ByteArray), 0, ([] : List (S42)), ([] : List (S42))⟩ : S58)⟩ : S60) (Kd.R_reads' (Kd.R_mono (ok' := (fun k_ => (w.heap.size ≤ k_) ∧ some k_ ≠ (v103 : Value).ownBlock ∧ k_ ≠ gb101)) (Kd.R_types (Kd.R_apart' (HO107.out) (Kd.R_typed HO104.out) (by decide)) BK101.out (by decide)) (fun k_ hk => ⟨hk.1.1.1, ⟨hk.1.2, hk.2⟩⟩))).2.1 (Kd.R_F (Kd.R_mono (ok' := (fun k_ => (w.heap.size ≤ k_) ∧ some k_ ≠ (v103 : Value).ownBlock ∧ k_ ≠ gb101)) (Kd.R_types (Kd.R_apart' (HO107.out) (Kd.R_typed HO104.out) (by decide)) BK101.out (by decide)) (fun k_ hk => ⟨hk.1.1.1, ⟨hk.1.2, hk.2⟩⟩))) (Nat.le_refl _) (Kd.F_nil _ _ _) (Nat.le_refl _) (Kd.F_nil _ _ _) (Nat.le_refl _) (Kd.F_nil _ _ _) (Nat.le_refl _) (Kd.F_nil _ _ _))) rfl (Reps.none _ _) rfl)); intro v109 w7 ho8 hb hg_ hnew_; clear hg_ hnew_; (first | rw [← Ny108.out] at ho8 | (simp only [Int.reduceToNat] at ho8; rw [← Ny108.out] at ho8)); have n0_ := Aside0.mk (Kd.R_below (by (with_reducible repeat (first | apply Kd.R_alloc | apply Kd.R_drewN | apply Kd.R_drew)); exact HO104.out) hb); have n1_ := Aside0.mk (Kd.N_lower ho8 (below_size (by repeat (first | (with_reducible first | exact HB.out | apply below_alloc | apply pw_below_drewN | apply below_drew1 | refine below_set ?_ GE101.out) | exact HB.out)))); have n2_ := Aside0.mk (blk_below (g := gb101) (o := .cells #[.slice none 0 0, .slice none 0 0, .int .i64 0, .int .i64 0, .int .i64 0] 44 (0, 0)) (by (with_reducible repeat (first | refine blk_drewN ?_ _ | refine blk_drew ?_ | refine blk_alloc ?_ _)); exact BK101.out) hb); have n3_ := Aside0.mk (below_step (by repeat (first | (with_reducible first | exact HB.out | apply below_alloc | apply pw_below_drewN | apply below_drew1 | refine below_set ?_ GE101.out) | exact HB.out)) hb); clear HO104; clear BK101; clear HB; clear HO107; have HO104 := n0_; have HO110 := n1_; have BK101 := n2_; have HB := n3_; clear n0_ n1_ n2_ n3_; clear hb ho8; obtain ⟨Ao9, co9, eo9⟩ := Kd.N_slice HO110.out; subst eo9; obtain ⟨Ao10, co10, eo10⟩ := Kd.R_slice HO104.out; subst eo10; have hcz11_0 : w7.cell? ⟨gb101, 0, none⟩ = some (.slice none 0 0) := (blk_cell BK101.out 0).trans rfl; have hcz11_1 : w7.cell? ⟨gb101, 1, none⟩ = some (.slice none 0 0) := (blk_cell BK101.out 1).trans rfl; have hcz11_2 : w7.cell? ⟨gb101, 2, none⟩ = some (.int .i64 0) := (blk_cell BK101.out 2).trans rfl; have hcz11_3 : w7.cell? ⟨gb101, 3, none⟩ = some (.int .i64 0) := (blk_cell BK101.out 3).trans rfl; have hcz11_4 : w7.cell? ⟨gb101, 4, none⟩ = some (.int .i64 0) := (blk_cell BK101.out 4).trans rfl; have hfz11_0 := blk_frozen BK101.out 0; have hfz11_1 := blk_frozen BK101.out 1; have hfz11_2 := blk_frozen BK101.out 2; have hfz11_3 := blk_frozen BK101.out 3; have hfz11_4 := blk_frozen BK101.out 4))
  refine bodyPost_ret (results_cell_row rfl _ _ gb101 44 #[.slice Ao10 y102.length co10, .slice Ao9 y108.length co9, .int .i64 1, .int .i64 0, .int .i64 1] (0, 0) _ rfl (by (with_reducible repeat (first | refine blk_drewN ?_ _ | refine blk_drew ?_ | refine blk_alloc ?_ _)); refine blk_put (cs := #[.slice Ao10 y102.length co10, .slice Ao9 y108.length co9, .int .i64 1, .int .i64 0, .int .i64 0]) ?_ 4 _ rfl; (with_reducible repeat (first | refine blk_drewN ?_ _ | refine blk_drew ?_ | refine blk_alloc ?_ _)); refine blk_put (cs := #[.slice Ao10 y102.length co10, .slice Ao9 y108.length co9, .int .i64 1, .int .i64 0, .int .i64 0]) ?_ 3 _ rfl; (with_reducible repeat (first | refine blk_drewN ?_ _ | refine blk_drew ?_ | refine blk_alloc ?_ _)); refine blk_put (cs := #[.slice Ao10 y102.length co10, .slice Ao9 y108.length co9, .int .i64 0, .int .i64 0, .int .i64 0]) ?_ 2 _ rfl; (with_reducible repeat (first | refine blk_drewN ?_ _ | refine blk_drew ?_ | refine blk_alloc ?_ _)); refine blk_put (cs := #[.slice Ao10 y102.length co10, .slice none 0 0, .int .i64 0, .int .i64 0, .int .i64 0]) ?_ 1 _ rfl; (with_reducible repeat (first | refine blk_drewN ?_ _ | refine blk_drew ?_ | refine blk_alloc ?_ _)); refine blk_put (cs := #[.slice none 0 0, .slice none 0 0, .int .i64 0, .int .i64 0, .int .i64 0]) ?_ 0 _ rfl; (with_reducible repeat (first | refine blk_drewN ?_ _ | refine blk_drew ?_ | refine blk_alloc ?_ _)); exact BK101.out) Tryd.underlying44 rfl (by kernel_rfl)) rfl ?_
  exact ⟨_, _, by first | rfl | (simp [errW_none, errW_some] <;> rfl) | (simp [*, errW_none, errW_some] <;> rfl), by (with_reducible repeat (first | apply Kd.R_alloc | apply Kd.R_drewN | apply Kd.R_drew)); exact Kd.R_mono (Kd.R_far (p := ⟨gb101, 4, none⟩) (Kd.R_far (p := ⟨gb101, 3, none⟩) (Kd.R_far (p := ⟨gb101, 2, none⟩) (Kd.R_far (p := ⟨gb101, 1, none⟩) (Kd.R_far (p := ⟨gb101, 0, none⟩) (Kd.R_types HO104.out BK101.out (by decide)) (fun _ hk => hk.2) (.slice Ao10 y102.length co10)) (fun _ hk => hk.2) (.slice Ao9 y108.length co9)) (fun _ hk => hk.2) (.int .i64 1)) (fun _ hk => hk.2) (.int .i64 0)) (fun _ hk => hk.2) (.int .i64 1)) (fun _ hk => hk.1.1), by (with_reducible repeat (first | apply Kd.N_alloc | apply Kd.N_drewN | apply Kd.N_drew)); exact Kd.N_mono (Kd.N_far (p := ⟨gb101, 4, none⟩) (Kd.N_far (p := ⟨gb101, 3, none⟩) (Kd.N_far (p := ⟨gb101, 2, none⟩) (Kd.N_far (p := ⟨gb101, 1, none⟩) (Kd.N_far (p := ⟨gb101, 0, none⟩) (Kd.N_mono HO110.out (fun k_ hk => (⟨hk, hk.2.2⟩ : _ ∧ k_ ≠ gb101))) (fun _ hk => hk.2) (.slice Ao10 y102.length co10)) (fun _ hk => hk.2) (.slice Ao9 y108.length co9)) (fun _ hk => hk.2) (.int .i64 1)) (fun _ hk => hk.2) (.int .i64 0)) (fun _ hk => hk.2) (.int .i64 1)) (fun _ hk => ⟨hk.1.1, hk.1.2.1⟩), by repeat (first | (with_reducible first | exact HB.out | apply below_alloc | apply pw_below_drewN | apply below_drew1 | refine below_set ?_ GE101.out) | exact HB.out)⟩
end Go.Proofs.YtbckpbiimknnnaaDoor.X
namespace Go.Proofs.YtbckpbiimknnnaaDoor.X
open Go.RowKit Go.Proofs.YtbckpbiimknnnaaDoorW.PrintWords Go.Proofs.YtbckpbiimknnnaaDoorW.PrintLast Go.Proofs.YtbckpbiimknnnaaDoorW.PrintMore
attribute [local go_sem] max2_int min2_int max_two min_two max_three min_three max_four min_four
set_option linter.unusedVariables false
set_option linter.unusedSimpArgs false
def shuntlaw20_awake.f (k : Nat)  : Option (Bool) := (some (([7, 3] : List Int) : List Int)).bind fun y101 => ((some (([4] : List Int) : List Int)).bind fun y104 => ((shuntlaw20_circuit.f).bind fun bt108 => ((probe_Read.f k bt108.1 bt108.2.1 bt108.2.2.1 bt108.2.2.2.1 bt108.2.2.2.2 0 y101 y104 ([] : List Int) (⟨#[118, 40, 97, 44, 120, 49, 46, 98, 41]⟩ : ByteArray)).bind fun bt117 => ((shuntlaw20_circuit.f).bind fun bt119 => ((probe_Read.f k bt119.1 bt119.2.1 bt119.2.2.1 bt119.2.2.2.1 bt119.2.2.2.2 0 y101 y104 ([] : List Int) (⟨#[105, 40, 120, 49, 46, 114, 49, 41]⟩ : ByteArray)).bind fun bt128 => ((probe_Rise.f k (([0, 5, 2, 5] : List Int)) 5 2).bind fun bt133 => ((probe_Settle.f k (([0, 9, 10, 11] : List Int)) 10 1).bind fun bt138 => ((probe_Span.f (([3, 1, 2] : List Int))).bind fun bt143 => (if bt117.2 = 0 then (if bt128.2 = 0 then (if bt133.2 = 0 then (if bt138.2 = 0 then (if bt143.2.2 = 0 then (if bt117.1 = 4 then (if bt128.1 = 4 then (if bt133.1 = 3 then (if bt138.1 = 1 then (if bt143.1 = 1 then (some (bt143.2.1 == 3)) else (none)) else (none)) else (none)) else (none)) else (none)) else (none)) else (none)) else (none)) else (none)) else (none))))))))))
theorem shuntlaw20_awake.mono : ∀ k, LeO (shuntlaw20_awake.f k ) (shuntlaw20_awake.f (k + 1) ) := by
  intro  k
  unfold shuntlaw20_awake.f
  repeat' first
      | (with_reducible exact probe_Read.mono _ _ _ _ _ _ _ _ _ _ _)
      | (with_reducible exact probe_Rise.mono _ _ _ _)
      | (with_reducible exact probe_Settle.mono _ _ _ _)
      | (with_reducible exact LeO.refl _)
      | (with_reducible exact LeO.none _)
      | (with_reducible refine LeO.ite ?_ ?_)
      | (with_reducible refine LeO.bind ?_ (fun _ => ?_))
      | exact probe_Read.mono _ _ _ _ _ _ _ _ _ _ _
      | exact probe_Rise.mono _ _ _ _
      | exact probe_Settle.mono _ _ _ _
      | exact LeO.none _
      | refine LeO.ite ?_ ?_
      | refine LeO.bind ?_ (fun _ => ?_)
def shuntlaw20_awake.T2 : Bool × List (List Nat × List Nat) := (true, [([], []), ([], []), ([0, 1, 0], [0, 1]), ([2], [2]), ([3], [3]), ([3], [3]), ([4, 2, 0, 1, 2, 3, 4], [4]), ([5, 6, 0, 1, 2, 3, 4, 5, 6], [5])])
def shuntlaw20_awake.B2 : List Nat := [0, 0, 3, 7, 15, 15, 31, 127]
theorem shuntlaw20_awake.tab2 : rtab .any (opsOf Tryd.f5 2) = shuntlaw20_awake.T2 := by kernel_rfl
theorem shuntlaw20_awake.bits2 : waitsOk shuntlaw20_awake.T2.2 shuntlaw20_awake.B2 = true := by kernel_rfl
def shuntlaw20_awake.T3 : Bool × List (List Nat × List Nat) := (true, [([], []), ([], []), ([0, 1, 0], [0, 1]), ([2], [2]), ([3], [3]), ([3], [3]), ([4, 2, 0, 1, 2, 3, 4], [4]), ([5, 6, 0, 1, 2, 3, 4, 5, 6], [5])])
def shuntlaw20_awake.B3 : List Nat := [0, 0, 3, 7, 15, 15, 31, 127]
theorem shuntlaw20_awake.tab3 : rtab .any (opsOf Tryd.f5 3) = shuntlaw20_awake.T3 := by kernel_rfl
theorem shuntlaw20_awake.bits3 : waitsOk shuntlaw20_awake.T3.2 shuntlaw20_awake.B3 = true := by kernel_rfl
set_option maxHeartbeats 8000000 in
set_option maxRecDepth 100000 in
theorem shuntlaw20_awake.calls (k : Nat)  (r : Bool) (w : World) (h : shuntlaw20_awake.f k  = some r) :
    Calls Tryd.prog 5 #[] w fun e w' => e = .returned (.bool r) ∧ Below w.heap.size w w' := by
  have hu36 := Tryd.underlying36
  have HB := Aside0.mk (Below.refl w.heap.size w)
  have H : ((some (([7, 3] : List Int) : List Int)).bind fun y101 => ((some (([4] : List Int) : List Int)).bind fun y104 => ((shuntlaw20_circuit.f).bind fun bt108 => ((probe_Read.f k bt108.1 bt108.2.1 bt108.2.2.1 bt108.2.2.2.1 bt108.2.2.2.2 0 y101 y104 ([] : List Int) (⟨#[118, 40, 97, 44, 120, 49, 46, 98, 41]⟩ : ByteArray)).bind fun bt117 => ((shuntlaw20_circuit.f).bind fun bt119 => ((probe_Read.f k bt119.1 bt119.2.1 bt119.2.2.1 bt119.2.2.2.1 bt119.2.2.2.2 0 y101 y104 ([] : List Int) (⟨#[105, 40, 120, 49, 46, 114, 49, 41]⟩ : ByteArray)).bind fun bt128 => ((probe_Rise.f k (([0, 5, 2, 5] : List Int)) 5 2).bind fun bt133 => ((probe_Settle.f k (([0, 9, 10, 11] : List Int)) 10 1).bind fun bt138 => ((probe_Span.f (([3, 1, 2] : List Int))).bind fun bt143 => (if bt117.2 = 0 then (if bt128.2 = 0 then (if bt133.2 = 0 then (if bt138.2 = 0 then (if bt143.2.2 = 0 then (if bt117.1 = 4 then (if bt128.1 = 4 then (if bt133.1 = 3 then (if bt138.1 = 1 then (if bt143.1 = 1 then (some (bt143.2.1 == 3)) else (none)) else (none)) else (none)) else (none)) else (none)) else (none)) else (none)) else (none)) else (none)) else (none))))))))))) = some r := h
  clear h
  obtain ⟨y101, hy101⟩ : ∃ y_ : List Int, y_ = (([7, 3] : List Int)) := ⟨_, rfl⟩
  replace H : ((some (([4] : List Int) : List Int)).bind fun y104 => ((shuntlaw20_circuit.f).bind fun bt108 => ((probe_Read.f k bt108.1 bt108.2.1 bt108.2.2.1 bt108.2.2.2.1 bt108.2.2.2.2 0 y101 y104 ([] : List Int) (⟨#[118, 40, 97, 44, 120, 49, 46, 98, 41]⟩ : ByteArray)).bind fun bt117 => ((shuntlaw20_circuit.f).bind fun bt119 => ((probe_Read.f k bt119.1 bt119.2.1 bt119.2.2.1 bt119.2.2.2.1 bt119.2.2.2.2 0 y101 y104 ([] : List Int) (⟨#[105, 40, 120, 49, 46, 114, 49, 41]⟩ : ByteArray)).bind fun bt128 => ((probe_Rise.f k (([0, 5, 2, 5] : List Int)) 5 2).bind fun bt133 => ((probe_Settle.f k (([0, 9, 10, 11] : List Int)) 10 1).bind fun bt138 => ((probe_Span.f (([3, 1, 2] : List Int))).bind fun bt143 => (if bt117.2 = 0 then (if bt128.2 = 0 then (if bt133.2 = 0 then (if bt138.2 = 0 then (if bt143.2.2 = 0 then (if bt117.1 = 4 then (if bt128.1 = 4 then (if bt133.1 = 3 then (if bt138.1 = 1 then (if bt143.1 = 1 then (some (bt143.2.1 == 3)) else (none)) else (none)) else (none)) else (none)) else (none)) else (none)) else (none)) else (none)) else (none)) else (none)))))))))) = some r := by first | (rw [hy101]; with_reducible exact H) | (have H2_ := (Option.bind_some _ _).symm.trans H; rw [hy101]; with_reducible exact H2_) | (have H2_ := (Option.bind_some _ _).symm.trans H; with_reducible exact H2_) | with_reducible exact H | (rw [hy101]; exact H) | exact H
  have Ny101 := Aside0.mk hy101
  clear hy101
  obtain ⟨y104, hy104⟩ : ∃ y_ : List Int, y_ = (([4] : List Int)) := ⟨_, rfl⟩
  replace H : ((shuntlaw20_circuit.f).bind fun bt108 => ((probe_Read.f k bt108.1 bt108.2.1 bt108.2.2.1 bt108.2.2.2.1 bt108.2.2.2.2 0 y101 y104 ([] : List Int) (⟨#[118, 40, 97, 44, 120, 49, 46, 98, 41]⟩ : ByteArray)).bind fun bt117 => ((shuntlaw20_circuit.f).bind fun bt119 => ((probe_Read.f k bt119.1 bt119.2.1 bt119.2.2.1 bt119.2.2.2.1 bt119.2.2.2.2 0 y101 y104 ([] : List Int) (⟨#[105, 40, 120, 49, 46, 114, 49, 41]⟩ : ByteArray)).bind fun bt128 => ((probe_Rise.f k (([0, 5, 2, 5] : List Int)) 5 2).bind fun bt133 => ((probe_Settle.f k (([0, 9, 10, 11] : List Int)) 10 1).bind fun bt138 => ((probe_Span.f (([3, 1, 2] : List Int))).bind fun bt143 => (if bt117.2 = 0 then (if bt128.2 = 0 then (if bt133.2 = 0 then (if bt138.2 = 0 then (if bt143.2.2 = 0 then (if bt117.1 = 4 then (if bt128.1 = 4 then (if bt133.1 = 3 then (if bt138.1 = 1 then (if bt143.1 = 1 then (some (bt143.2.1 == 3)) else (none)) else (none)) else (none)) else (none)) else (none)) else (none)) else (none)) else (none)) else (none)) else (none))))))))) = some r := by first | (rw [hy104]; with_reducible exact H) | (have H2_ := (Option.bind_some _ _).symm.trans H; rw [hy104]; with_reducible exact H2_) | (have H2_ := (Option.bind_some _ _).symm.trans H; with_reducible exact H2_) | with_reducible exact H | (rw [hy104]; exact H) | exact H
  have Ny104 := Aside0.mk hy104
  clear hy104
  replace H := Option.bind_eq_some_iff.mp H
  obtain ⟨⟨t108, t111, t114, t115, t116⟩, A10, H⟩ := H
  replace H : ((probe_Read.f k t108 t111 t114 t115 t116 0 y101 y104 ([] : List Int) (⟨#[118, 40, 97, 44, 120, 49, 46, 98, 41]⟩ : ByteArray)).bind fun bt117 => ((shuntlaw20_circuit.f).bind fun bt119 => ((probe_Read.f k bt119.1 bt119.2.1 bt119.2.2.1 bt119.2.2.2.1 bt119.2.2.2.2 0 y101 y104 ([] : List Int) (⟨#[105, 40, 120, 49, 46, 114, 49, 41]⟩ : ByteArray)).bind fun bt128 => ((probe_Rise.f k (([0, 5, 2, 5] : List Int)) 5 2).bind fun bt133 => ((probe_Settle.f k (([0, 9, 10, 11] : List Int)) 10 1).bind fun bt138 => ((probe_Span.f (([3, 1, 2] : List Int))).bind fun bt143 => (if bt117.2 = 0 then (if bt128.2 = 0 then (if bt133.2 = 0 then (if bt138.2 = 0 then (if bt143.2.2 = 0 then (if bt117.1 = 4 then (if bt128.1 = 4 then (if bt133.1 = 3 then (if bt138.1 = 1 then (if bt143.1 = 1 then (some (bt143.2.1 == 3)) else (none)) else (none)) else (none)) else (none)) else (none)) else (none)) else (none)) else (none)) else (none)) else (none)))))))) = some r := H
  have A1 := Aside0.mk A10
  clear A10
  replace H := Option.bind_eq_some_iff.mp H
  obtain ⟨⟨t117, t118⟩, A20, H⟩ := H
  replace H : ((shuntlaw20_circuit.f).bind fun bt119 => ((probe_Read.f k bt119.1 bt119.2.1 bt119.2.2.1 bt119.2.2.2.1 bt119.2.2.2.2 0 y101 y104 ([] : List Int) (⟨#[105, 40, 120, 49, 46, 114, 49, 41]⟩ : ByteArray)).bind fun bt128 => ((probe_Rise.f k (([0, 5, 2, 5] : List Int)) 5 2).bind fun bt133 => ((probe_Settle.f k (([0, 9, 10, 11] : List Int)) 10 1).bind fun bt138 => ((probe_Span.f (([3, 1, 2] : List Int))).bind fun bt143 => (if t118 = 0 then (if bt128.2 = 0 then (if bt133.2 = 0 then (if bt138.2 = 0 then (if bt143.2.2 = 0 then (if t117 = 4 then (if bt128.1 = 4 then (if bt133.1 = 3 then (if bt138.1 = 1 then (if bt143.1 = 1 then (some (bt143.2.1 == 3)) else (none)) else (none)) else (none)) else (none)) else (none)) else (none)) else (none)) else (none)) else (none)) else (none))))))) = some r := H
  have A2 := Aside0.mk A20
  clear A20
  replace H := Option.bind_eq_some_iff.mp H
  obtain ⟨⟨t119, t122, t125, t126, t127⟩, A30, H⟩ := H
  replace H : ((probe_Read.f k t119 t122 t125 t126 t127 0 y101 y104 ([] : List Int) (⟨#[105, 40, 120, 49, 46, 114, 49, 41]⟩ : ByteArray)).bind fun bt128 => ((probe_Rise.f k (([0, 5, 2, 5] : List Int)) 5 2).bind fun bt133 => ((probe_Settle.f k (([0, 9, 10, 11] : List Int)) 10 1).bind fun bt138 => ((probe_Span.f (([3, 1, 2] : List Int))).bind fun bt143 => (if t118 = 0 then (if bt128.2 = 0 then (if bt133.2 = 0 then (if bt138.2 = 0 then (if bt143.2.2 = 0 then (if t117 = 4 then (if bt128.1 = 4 then (if bt133.1 = 3 then (if bt138.1 = 1 then (if bt143.1 = 1 then (some (bt143.2.1 == 3)) else (none)) else (none)) else (none)) else (none)) else (none)) else (none)) else (none)) else (none)) else (none)) else (none)))))) = some r := H
  have A3 := Aside0.mk A30
  clear A30
  replace H := Option.bind_eq_some_iff.mp H
  obtain ⟨⟨t128, t129⟩, A40, H⟩ := H
  replace H : ((probe_Rise.f k (([0, 5, 2, 5] : List Int)) 5 2).bind fun bt133 => ((probe_Settle.f k (([0, 9, 10, 11] : List Int)) 10 1).bind fun bt138 => ((probe_Span.f (([3, 1, 2] : List Int))).bind fun bt143 => (if t118 = 0 then (if t129 = 0 then (if bt133.2 = 0 then (if bt138.2 = 0 then (if bt143.2.2 = 0 then (if t117 = 4 then (if t128 = 4 then (if bt133.1 = 3 then (if bt138.1 = 1 then (if bt143.1 = 1 then (some (bt143.2.1 == 3)) else (none)) else (none)) else (none)) else (none)) else (none)) else (none)) else (none)) else (none)) else (none)) else (none))))) = some r := H
  have A4 := Aside0.mk A40
  clear A40
  obtain ⟨y130, hy130⟩ : ∃ y_ : List Int, y_ = (([0, 5, 2, 5] : List Int)) := ⟨_, rfl⟩
  replace H : ((probe_Rise.f k y130 5 2).bind fun bt133 => ((probe_Settle.f k (([0, 9, 10, 11] : List Int)) 10 1).bind fun bt138 => ((probe_Span.f (([3, 1, 2] : List Int))).bind fun bt143 => (if t118 = 0 then (if t129 = 0 then (if bt133.2 = 0 then (if bt138.2 = 0 then (if bt143.2.2 = 0 then (if t117 = 4 then (if t128 = 4 then (if bt133.1 = 3 then (if bt138.1 = 1 then (if bt143.1 = 1 then (some (bt143.2.1 == 3)) else (none)) else (none)) else (none)) else (none)) else (none)) else (none)) else (none)) else (none)) else (none)) else (none))))) = some r := by first | (rw [hy130]; with_reducible exact H) | (have H2_ := (Option.bind_some _ _).symm.trans H; rw [hy130]; with_reducible exact H2_) | (have H2_ := (Option.bind_some _ _).symm.trans H; with_reducible exact H2_) | with_reducible exact H | (rw [hy130]; exact H) | exact H
  have Ny130 := Aside0.mk hy130
  clear hy130
  replace H := Option.bind_eq_some_iff.mp H
  obtain ⟨⟨t133, t134⟩, A50, H⟩ := H
  replace H : ((probe_Settle.f k (([0, 9, 10, 11] : List Int)) 10 1).bind fun bt138 => ((probe_Span.f (([3, 1, 2] : List Int))).bind fun bt143 => (if t118 = 0 then (if t129 = 0 then (if t134 = 0 then (if bt138.2 = 0 then (if bt143.2.2 = 0 then (if t117 = 4 then (if t128 = 4 then (if t133 = 3 then (if bt138.1 = 1 then (if bt143.1 = 1 then (some (bt143.2.1 == 3)) else (none)) else (none)) else (none)) else (none)) else (none)) else (none)) else (none)) else (none)) else (none)) else (none)))) = some r := H
  have A5 := Aside0.mk A50
  clear A50
  obtain ⟨y135, hy135⟩ : ∃ y_ : List Int, y_ = (([0, 9, 10, 11] : List Int)) := ⟨_, rfl⟩
  replace H : ((probe_Settle.f k y135 10 1).bind fun bt138 => ((probe_Span.f (([3, 1, 2] : List Int))).bind fun bt143 => (if t118 = 0 then (if t129 = 0 then (if t134 = 0 then (if bt138.2 = 0 then (if bt143.2.2 = 0 then (if t117 = 4 then (if t128 = 4 then (if t133 = 3 then (if bt138.1 = 1 then (if bt143.1 = 1 then (some (bt143.2.1 == 3)) else (none)) else (none)) else (none)) else (none)) else (none)) else (none)) else (none)) else (none)) else (none)) else (none)))) = some r := by first | (rw [hy135]; with_reducible exact H) | (have H2_ := (Option.bind_some _ _).symm.trans H; rw [hy135]; with_reducible exact H2_) | (have H2_ := (Option.bind_some _ _).symm.trans H; with_reducible exact H2_) | with_reducible exact H | (rw [hy135]; exact H) | exact H
  have Ny135 := Aside0.mk hy135
  clear hy135
  replace H := Option.bind_eq_some_iff.mp H
  obtain ⟨⟨t138, t139⟩, A60, H⟩ := H
  replace H : ((probe_Span.f (([3, 1, 2] : List Int))).bind fun bt143 => (if t118 = 0 then (if t129 = 0 then (if t134 = 0 then (if t139 = 0 then (if bt143.2.2 = 0 then (if t117 = 4 then (if t128 = 4 then (if t133 = 3 then (if t138 = 1 then (if bt143.1 = 1 then (some (bt143.2.1 == 3)) else (none)) else (none)) else (none)) else (none)) else (none)) else (none)) else (none)) else (none)) else (none)) else (none))) = some r := H
  have A6 := Aside0.mk A60
  clear A60
  obtain ⟨y140, hy140⟩ : ∃ y_ : List Int, y_ = (([3, 1, 2] : List Int)) := ⟨_, rfl⟩
  replace H : ((probe_Span.f y140).bind fun bt143 => (if t118 = 0 then (if t129 = 0 then (if t134 = 0 then (if t139 = 0 then (if bt143.2.2 = 0 then (if t117 = 4 then (if t128 = 4 then (if t133 = 3 then (if t138 = 1 then (if bt143.1 = 1 then (some (bt143.2.1 == 3)) else (none)) else (none)) else (none)) else (none)) else (none)) else (none)) else (none)) else (none)) else (none)) else (none))) = some r := by first | (rw [hy140]; with_reducible exact H) | (have H2_ := (Option.bind_some _ _).symm.trans H; rw [hy140]; with_reducible exact H2_) | (have H2_ := (Option.bind_some _ _).symm.trans H; with_reducible exact H2_) | with_reducible exact H | (rw [hy140]; exact H) | exact H
  have Ny140 := Aside0.mk hy140
  clear hy140
  replace H := Option.bind_eq_some_iff.mp H
  obtain ⟨⟨t143, t144, t145⟩, A70, H⟩ := H
  replace H : (if t118 = 0 then (if t129 = 0 then (if t134 = 0 then (if t139 = 0 then (if t145 = 0 then (if t117 = 4 then (if t128 = 4 then (if t133 = 3 then (if t138 = 1 then (if t143 = 1 then (some (t144 == 3)) else (none)) else (none)) else (none)) else (none)) else (none)) else (none)) else (none)) else (none)) else (none)) else (none)) = some r := H
  have A7 := Aside0.mk A70
  clear A70
  by_cases c8 : t118 = 0
  · rw [if_pos c8] at H
    have c8b0 : (t118 == 0) = true := beq_iff_eq.mpr c8
    have c8b1 : (t118 != 0) = false := bne_eq_false_iff_eq.mpr c8
    clear c8
    by_cases c9 : t129 = 0
    · rw [if_pos c9] at H
      have c9b0 : (t129 == 0) = true := beq_iff_eq.mpr c9
      have c9b1 : (t129 != 0) = false := bne_eq_false_iff_eq.mpr c9
      clear c9
      by_cases c10 : t134 = 0
      · rw [if_pos c10] at H
        have c10b0 : (t134 == 0) = true := beq_iff_eq.mpr c10
        have c10b1 : (t134 != 0) = false := bne_eq_false_iff_eq.mpr c10
        clear c10
        by_cases c11 : t139 = 0
        · rw [if_pos c11] at H
          have c11b0 : (t139 == 0) = true := beq_iff_eq.mpr c11
          have c11b1 : (t139 != 0) = false := bne_eq_false_iff_eq.mpr c11
          clear c11
          by_cases c12 : t145 = 0
          · rw [if_pos c12] at H
            have c12b0 : (t145 == 0) = true := beq_iff_eq.mpr c12
            have c12b1 : (t145 != 0) = false := bne_eq_false_iff_eq.mpr c12
            clear c12
            by_cases c13 : t117 = 4
            · rw [if_pos c13] at H
              have c13b0 : (t117 == 4) = true := beq_iff_eq.mpr c13
              have c13b1 : (t117 != 4) = false := bne_eq_false_iff_eq.mpr c13
              clear c13
              by_cases c14 : t128 = 4
              · rw [if_pos c14] at H
                have c14b0 : (t128 == 4) = true := beq_iff_eq.mpr c14
                have c14b1 : (t128 != 4) = false := bne_eq_false_iff_eq.mpr c14
                clear c14
                by_cases c15 : t133 = 3
                · rw [if_pos c15] at H
                  have c15b0 : (t133 == 3) = true := beq_iff_eq.mpr c15
                  have c15b1 : (t133 != 3) = false := bne_eq_false_iff_eq.mpr c15
                  clear c15
                  by_cases c16 : t138 = 1
                  · rw [if_pos c16] at H
                    have c16b0 : (t138 == 1) = true := beq_iff_eq.mpr c16
                    have c16b1 : (t138 != 1) = false := bne_eq_false_iff_eq.mpr c16
                    clear c16
                    by_cases c17 : t143 = 1
                    · rw [if_pos c17] at H
                      have c17b0 : (t143 == 1) = true := beq_iff_eq.mpr c17
                      have c17b1 : (t143 != 1) = false := bne_eq_false_iff_eq.mpr c17
                      clear c17
                      obtain rfl := Option.some.inj H
                      go_enter Tryd.func5, Tryd.ntmps5
                      try go_wp2_with (first | ((with_reducible refine gate_dst (N := 13) rfl ?_); refine Kd.R_lit (Kd.int .i64) _ 2 ?hg (N := 13) ?hd (xs := ([7, 3] : List Int)) (inner := [.int .i64 7, .int .i64 3]) (ok := fun _ => True) (okp := fun _ => True) ?hr ?hp (fun _ hk => hk) trivial (Below.refl _ _) (Nat.le_refl _) (by simp) ?_; (case hd => rfl); (case hg => rfl); (case hr => first | (go_simp; done) | (go_simp; rfl)); (case hp => exact (Reps.one (show Kd.M (Kd.int .i64) _ _ _ 7 [.int .i64 7] from rfl) (Reps.one (show Kd.M (Kd.int .i64) _ _ _ 3 [.int .i64 3] from rfl) (Reps.none _ _)))); intro v102 w18 ho19 hb hg_ hnew_; clear hg_ hnew_; (first | rw [← Ny101.out] at ho19 | (simp only [Int.reduceToNat] at ho19; rw [← Ny101.out] at ho19)); have n0_ := Aside0.mk (Kd.R_lower ho19 (below_size (by repeat (first | (with_reducible first | exact HB.out | apply below_alloc | apply pw_below_drewN | apply below_drew1) | exact HB.out)))); have n1_ := Aside0.mk (below_step (by repeat (first | (with_reducible first | exact HB.out | apply below_alloc | apply pw_below_drewN | apply below_drew1) | exact HB.out)) hb); clear HB; have HO103 := n0_; have HB := n1_; clear n0_ n1_; clear hb ho19) | ((with_reducible refine gate_dst (N := 14) rfl ?_); refine Kd.R_lit (Kd.int .i64) _ 2 ?hg (N := 14) ?hd (xs := ([4] : List Int)) (inner := [.int .i64 4]) (ok := fun _ => True) (okp := fun _ => True) ?hr ?hp (fun _ hk => hk) trivial (Below.refl _ _) (Nat.le_refl _) (by simp) ?_; (case hd => rfl); (case hg => rfl); (case hr => first | (go_simp; done) | (go_simp; rfl)); (case hp => exact (Reps.one (show Kd.M (Kd.int .i64) _ _ _ 4 [.int .i64 4] from rfl) (Reps.none _ _))); intro v105 w20 ho21 hb hg_ hnew_; clear hg_ hnew_; (first | rw [← Ny104.out] at ho21 | (simp only [Int.reduceToNat] at ho21; rw [← Ny104.out] at ho21)); have n0_ := Aside0.mk (Kd.R_elder' (by (with_reducible repeat (first | apply Kd.R_alloc | apply Kd.R_drewN | apply Kd.R_drew)); exact HO103.out) (Kd.R_base ho21) hb); have n1_ := Aside0.mk (Kd.R_lower (Kd.R_new' ho21 (Kd.R_lt (by (with_reducible repeat (first | apply Kd.R_alloc | apply Kd.R_drewN | apply Kd.R_drew)); exact HO103.out))) (below_size (by repeat (first | (with_reducible first | exact HB.out | apply below_alloc | apply pw_below_drewN | apply below_drew1) | exact HB.out)))); have n2_ := Aside0.mk (below_step (by repeat (first | (with_reducible first | exact HB.out | apply below_alloc | apply pw_below_drewN | apply below_drew1) | exact HB.out)) hb); clear HO103; clear HB; have HO103 := n0_; have HO106 := n1_; have HB := n2_; clear n0_ n1_ n2_; clear hb ho21; obtain ⟨Ao22, co22, eo22⟩ := Kd.R_slice HO106.out; subst eo22; obtain ⟨Ao23, co23, eo23⟩ := Kd.R_slice HO103.out; subst eo23) | ((with_reducible refine gate_dst (N := 1) rfl ?_); refine box_event ?hg (N := 1) ?hd (cs := #[.int .i64 0, .slice none 0 0, .slice none 0 0, .slice none 0 0]) (t := 36) ?hr ?_; (case hd => rfl); (case hg => rfl); (case hr => first | (go_simp; done) | (go_simp; rfl)); intro gb107 hg w24 hbox hb; have n0_ := Aside0.mk (Kd.R_below (by (with_reducible repeat (first | apply Kd.R_alloc | apply Kd.R_drewN | apply Kd.R_drew)); exact HO103.out) hb); have n1_ := Aside0.mk (Kd.R_below (by (with_reducible repeat (first | apply Kd.R_alloc | apply Kd.R_drewN | apply Kd.R_drew)); exact HO106.out) hb); have n2_ := Aside0.mk (below_step (by repeat (first | (with_reducible first | exact HB.out | apply below_alloc | apply pw_below_drewN | apply below_drew1) | exact HB.out)) hb); have n3_ := Aside0.mk (hbox); have n4_ := Aside0.mk ((by rw [hg]; exact (below_size (by repeat (first | (with_reducible first | exact HB.out | apply below_alloc | apply pw_below_drewN | apply below_drew1) | exact HB.out))) : w.heap.size ≤ gb107)); have n5_ := Aside0.mk ((by rw [hg]; exact (below_size (by repeat (first | (with_reducible first | exact HB.out | apply below_alloc | apply pw_below_drewN | apply below_drew1) | exact HB.out))) : w.heap.size ≤ gb107)); clear HO103; clear HO106; clear HB; have HO103 := n0_; have HO106 := n1_; have HB := n2_; have BK107 := n3_; have GW107 := n4_; have GE107 := n5_; clear n0_ n1_ n2_ n3_ n4_ n5_; clear hb hbox hg; have hcz25_0 : w24.cell? ⟨gb107, 0, none⟩ = some (.int .i64 0) := (blk_cell BK107.out 0).trans rfl; have hcz25_1 : w24.cell? ⟨gb107, 1, none⟩ = some (.slice none 0 0) := (blk_cell BK107.out 1).trans rfl; have hcz25_2 : w24.cell? ⟨gb107, 2, none⟩ = some (.slice none 0 0) := (blk_cell BK107.out 2).trans rfl; have hcz25_3 : w24.cell? ⟨gb107, 3, none⟩ = some (.slice none 0 0) := (blk_cell BK107.out 3).trans rfl; have hfz25_0 := blk_frozen BK107.out 0; have hfz25_1 := blk_frozen BK107.out 1; have hfz25_2 := blk_frozen BK107.out 2; have hfz25_3 := blk_frozen BK107.out 3))
                      have n0_ : Aside0 (Kd.R (Kd.int .i64) 2 ((((w24.setCell ⟨gb107, 0, none⟩ (.int .i64 0)).setCell ⟨gb107, 1, none⟩ (.slice Ao23 y101.length co23)).setCell ⟨gb107, 2, none⟩ (.slice Ao22 y104.length co22)).setCell ⟨gb107, 3, none⟩ (.slice none 0 0)) w.heap.size (fun k_ => some k_ ≠ (.slice Ao22 y104.length co22 : Value).ownBlock) (.slice Ao23 y101.length co23) y101) := ⟨by (with_reducible repeat (first | apply Kd.R_alloc | apply Kd.R_drewN | apply Kd.R_drew)); exact Kd.R_mono (Kd.R_far (p := ⟨gb107, 3, none⟩) (Kd.R_far (p := ⟨gb107, 2, none⟩) (Kd.R_far (p := ⟨gb107, 1, none⟩) (Kd.R_far (p := ⟨gb107, 0, none⟩) (Kd.R_types HO103.out BK107.out (by decide)) (fun _ hk => hk.2) (.int .i64 0)) (fun _ hk => hk.2) (.slice Ao23 y101.length co23)) (fun _ hk => hk.2) (.slice Ao22 y104.length co22)) (fun _ hk => hk.2) (.slice none 0 0)) (fun _ hk => hk.1.2)⟩
                      have n1_ : Aside0 (Kd.R (Kd.int .i64) 2 ((((w24.setCell ⟨gb107, 0, none⟩ (.int .i64 0)).setCell ⟨gb107, 1, none⟩ (.slice Ao23 y101.length co23)).setCell ⟨gb107, 2, none⟩ (.slice Ao22 y104.length co22)).setCell ⟨gb107, 3, none⟩ (.slice none 0 0)) w.heap.size (fun k_ => some k_ ≠ (.slice Ao23 y101.length co23 : Value).ownBlock) (.slice Ao22 y104.length co22) y104) := ⟨by (with_reducible repeat (first | apply Kd.R_alloc | apply Kd.R_drewN | apply Kd.R_drew)); exact Kd.R_mono (Kd.R_far (p := ⟨gb107, 3, none⟩) (Kd.R_far (p := ⟨gb107, 2, none⟩) (Kd.R_far (p := ⟨gb107, 1, none⟩) (Kd.R_far (p := ⟨gb107, 0, none⟩) (Kd.R_types HO106.out BK107.out (by decide)) (fun _ hk => hk.2) (.int .i64 0)) (fun _ hk => hk.2) (.slice Ao23 y101.length co23)) (fun _ hk => hk.2) (.slice Ao22 y104.length co22)) (fun _ hk => hk.2) (.slice none 0 0)) (fun _ hk => hk.1.2)⟩
                      have n2_ : Aside0 (((((w24.setCell ⟨gb107, 0, none⟩ (.int .i64 0)).setCell ⟨gb107, 1, none⟩ (.slice Ao23 y101.length co23)).setCell ⟨gb107, 2, none⟩ (.slice Ao22 y104.length co22)).setCell ⟨gb107, 3, none⟩ (.slice none 0 0)).heap[gb107]? = some (.cells #[.int .i64 0, .slice Ao23 y101.length co23, .slice Ao22 y104.length co22, .slice none 0 0] 36 (0, 0))) := ⟨by (with_reducible repeat (first | refine blk_drewN ?_ _ | refine blk_drew ?_ | refine blk_alloc ?_ _)); refine blk_put (cs := #[.int .i64 0, .slice Ao23 y101.length co23, .slice Ao22 y104.length co22, .slice none 0 0]) ?_ 3 _ rfl; (with_reducible repeat (first | refine blk_drewN ?_ _ | refine blk_drew ?_ | refine blk_alloc ?_ _)); refine blk_put (cs := #[.int .i64 0, .slice Ao23 y101.length co23, .slice none 0 0, .slice none 0 0]) ?_ 2 _ rfl; (with_reducible repeat (first | refine blk_drewN ?_ _ | refine blk_drew ?_ | refine blk_alloc ?_ _)); refine blk_put (cs := #[.int .i64 0, .slice none 0 0, .slice none 0 0, .slice none 0 0]) ?_ 1 _ rfl; (with_reducible repeat (first | refine blk_drewN ?_ _ | refine blk_drew ?_ | refine blk_alloc ?_ _)); refine blk_put (cs := #[.int .i64 0, .slice none 0 0, .slice none 0 0, .slice none 0 0]) ?_ 0 _ rfl; (with_reducible repeat (first | refine blk_drewN ?_ _ | refine blk_drew ?_ | refine blk_alloc ?_ _)); exact BK107.out⟩
                      have n3_ : Aside0 (Below w.heap.size w ((((w24.setCell ⟨gb107, 0, none⟩ (.int .i64 0)).setCell ⟨gb107, 1, none⟩ (.slice Ao23 y101.length co23)).setCell ⟨gb107, 2, none⟩ (.slice Ao22 y104.length co22)).setCell ⟨gb107, 3, none⟩ (.slice none 0 0))) := ⟨by repeat (first | (with_reducible first | exact HB.out | apply below_alloc | apply pw_below_drewN | apply below_drew1 | refine below_set ?_ GE107.out) | exact HB.out)⟩
                      (try clear HO103)
                      (try clear HO106)
                      (try clear BK107)
                      (try clear HB)
                      generalize ((((w24.setCell ⟨gb107, 0, none⟩ (.int .i64 0)).setCell ⟨gb107, 1, none⟩ (.slice Ao23 y101.length co23)).setCell ⟨gb107, 2, none⟩ (.slice Ao22 y104.length co22)).setCell ⟨gb107, 3, none⟩ (.slice none 0 0)) = w26 at n0_ n1_ n2_ n3_ ⊢
                      have HO103 := n0_
                      have HO106 := n1_
                      have BK107 := n2_
                      have HB := n3_
                      clear n0_ n1_ n2_ n3_
                      have n0_ := Aside0.mk (Kd.R_drew HO103.out)
                      have n1_ := Aside0.mk (Kd.R_drew HO106.out)
                      have n2_ := Aside0.mk (blk_drew BK107.out)
                      have n3_ := Aside0.mk (below_drew1 HB.out)
                      clear HO103
                      clear HO106
                      clear BK107
                      clear HB
                      have HO103 := n0_
                      have HO106 := n1_
                      have BK107 := n2_
                      have HB := n3_
                      clear n0_ n1_ n2_ n3_
                      refine start_ (n := 8) (S := fun w' => w'.cell? ⟨gb107, 0, none⟩ = some (.int .i64 0) ∧ w'.cell? ⟨gb107, 1, none⟩ = some (.slice Ao23 y101.length co23) ∧ w'.cell? ⟨gb107, 2, none⟩ = some (.slice Ao22 y104.length co22) ∧ w'.cell? ⟨gb107, 3, none⟩ = some (.slice none 0 0)) (ds := []) #[false, false, false, false, false, false, false, false] (by kernel_rfl) rfl rfl ⟨(blk_cell BK107.out 0).trans rfl, (blk_cell BK107.out 1).trans rfl, (blk_cell BK107.out 2).trans rfl, (blk_cell BK107.out 3).trans rfl⟩ (fun hHeld => ?_); refine with_tabW shuntlaw20_awake.tab2 shuntlaw20_awake.bits2 (fun HT_ HW_ => ?_)
                      generalize w26.drew = w27 at HO103 HO106 BK107 HB hHeld ⊢
                      refine take_ (i := 1) (N := some 18) (v := ?_) (a' := ?_) #[false, true, false, false, false, false, false, false] rfl rfl (take_ofW HT_.out HW_.out (by kernel_rfl)) (fun _ _ _ h => h) (Or.inl ⟨by rfl, ?_⟩) hHeld ?_ ?_
                      rotate_left
                      · rintro w' ⟨s0, s1, s2, s3⟩
                        go_simp
                        with_reducible rfl
                      rotate_left
                      · simp only [Act.put, List.setIfInBounds_toArray, List.set_cons_zero, List.set_cons_succ, i64_w, i32_w]
                        rfl
                      refine one_ (i := 0) (N := some 17) #[true, true, false, false, false, false, false, false] rfl rfl (one_of HT_.out (by kernel_rfl)) (by decide) (fun K hK => ?_)
                      refine goes_ Tryd.func11 (by kernel_rfl) rfl #[] (by rfl) rfl rfl (by (try simp only [List.map_toArray, List.map_cons, List.map_nil]); first | done | rfl | (simp only [List.length_drop, List.length_take]; rfl)) ?_
                      with_reducible refine (shuntlaw20_circuit.calls  t108 t111 t114 t115 t116 _ A1.out).mono ?_
                      rintro e w28 ⟨v109, v112, rfl, ho0, ho1, hb⟩
                      refine ⟨_, rfl, ?_⟩
                      have n0_ := Aside0.mk (Kd.R_below (by (with_reducible repeat (first | apply Kd.R_alloc | apply Kd.R_drewN | apply Kd.R_drew)); exact HO103.out) hb)
                      have n1_ := Aside0.mk (Kd.R_below (by (with_reducible repeat (first | apply Kd.R_alloc | apply Kd.R_drewN | apply Kd.R_drew)); exact HO106.out) hb)
                      have n2_ := Aside0.mk (Kd.R_lower (Kd.R_mono (ok' := fun k_ => True) ho0 (fun _ hk_ => trivial)) (below_size (by repeat (first | (with_reducible first | exact HB.out | apply below_alloc | apply pw_below_drewN | apply below_drew1 | refine below_set ?_ GE107.out) | exact HB.out))))
                      have n3_ := Aside0.mk (Kd.N_lower (Kd.N_mono (ok' := fun k_ => some k_ ≠ (v109 : Value).ownBlock ∧ some k_ ≠ (.slice Ao23 y101.length co23 : Value).ownBlock ∧ some k_ ≠ (.slice Ao22 y104.length co22 : Value).ownBlock ∧ k_ ≠ gb107) ho1 (fun k_ hk_ => ⟨hk_.2, (Kd.fresh' (Kd.R_lt (by (with_reducible repeat (first | apply Kd.R_alloc | apply Kd.R_drewN | apply Kd.R_drew)); exact HO103.out)) k_ hk_.1), (Kd.fresh' (Kd.R_lt (by (with_reducible repeat (first | apply Kd.R_alloc | apply Kd.R_drewN | apply Kd.R_drew)); exact HO106.out)) k_ hk_.1), (Kd.freshB (g := gb107) (o := .cells #[.int .i64 0, .slice Ao23 y101.length co23, .slice Ao22 y104.length co22, .slice none 0 0] 36 (0, 0)) (by (with_reducible repeat (first | refine blk_drewN ?_ _ | refine blk_drew ?_ | refine blk_alloc ?_ _)); exact BK107.out) k_ hk_.1)⟩)) (below_size (by repeat (first | (with_reducible first | exact HB.out | apply below_alloc | apply pw_below_drewN | apply below_drew1 | refine below_set ?_ GE107.out) | exact HB.out))))
                      have n4_ := Aside0.mk (blk_below (g := gb107) (o := .cells #[.int .i64 0, .slice Ao23 y101.length co23, .slice Ao22 y104.length co22, .slice none 0 0] 36 (0, 0)) (by (with_reducible repeat (first | refine blk_drewN ?_ _ | refine blk_drew ?_ | refine blk_alloc ?_ _)); exact BK107.out) hb)
                      have n5_ := Aside0.mk (below_step (by repeat (first | (with_reducible first | exact HB.out | apply below_alloc | apply pw_below_drewN | apply below_drew1 | refine below_set ?_ GE107.out) | exact HB.out)) hb)
                      clear HO103
                      clear HO106
                      clear BK107
                      clear HB
                      have HO103 := n0_
                      have HO106 := n1_
                      have HO110 := n2_
                      have HO113 := n3_
                      have BK107 := n4_
                      have HB := n5_
                      clear n0_ n1_ n2_ n3_ n4_ n5_
                      (try clear hb)
                      (try clear hb2)
                      (try clear hk)
                      (try clear hi)
                      (try clear ho0)
                      (try clear ho1)
                      obtain ⟨Ao29, co29, eo29⟩ := Kd.R_slice HO110.out
                      (first | subst eo29 | (injection eo29 with f1_ f2_ f3_; have f4_ := f1_.symm; have f5_ := f3_.symm; clear f1_ f2_ f3_; subst f4_; subst f5_))
                      obtain ⟨Ao30, co30, eo30⟩ := Kd.N_slice HO113.out
                      (first | subst eo30 | (injection eo30 with f1_ f2_ f3_; have f4_ := f1_.symm; have f5_ := f3_.symm; clear f1_ f2_ f3_; subst f4_; subst f5_))
                      refine hK.out _ _ ⟨(blk_cell BK107.out 0).trans rfl, (blk_cell BK107.out 1).trans rfl, (blk_cell BK107.out 2).trans rfl, (blk_cell BK107.out 3).trans rfl⟩ (fun hHeld => ?_)
                      clear hK K
                      refine norm_ (a' := ?_) ?_ ?_
                      rotate_left
                      · show Act.put _ (some 17) _ = _
                        simp only [Act.put, List.setIfInBounds_toArray, List.set_cons_zero, List.set_cons_succ, i64_w, i32_w]
                        rfl
                      refine one_ (i := 2) (N := some 19) #[true, true, true, false, false, false, false, false] rfl rfl (one_of HT_.out (by kernel_rfl)) (by decide) (fun K hK => ?_)
                      refine goes_ Tryd.func10 (by kernel_rfl) rfl #[.agg #[.slice Ao29 t108.length co29, .slice Ao30 t111.length co30, .int .i64 t114, .int .i64 t115, .int .i64 t116], .agg #[.int .i64 0, .slice Ao23 y101.length co23, .slice Ao22 y104.length co22, .slice none 0 0], .string (⟨#[118, 40, 97, 44, 120, 49, 46, 98, 41]⟩ : ByteArray)] (by rfl) rfl rfl (by (try simp only [List.map_toArray, List.map_cons, List.map_nil]); first | done | rfl | (simp only [List.length_drop, List.length_take]; rfl)) ?_
                      refine (probe_Read.calls k _ _ t108 _ _ t111 t114 t115 t116 0 _ _ y101 _ _ y104 _ _ ([] : List Int) (⟨#[118, 40, 97, 44, 120, 49, 46, 98, 41]⟩ : ByteArray) t117 t118 _ ?side1 ?side2 ?side3 ?side4 ?side5 ?side6 ?side7 ?side8 ?side9 ?side10 A2.out).mono ?_
                      (case side1 => repeat (first | exact (Kd.R_reads' HO110.out).2.2 | (with_reducible refine Kd.C_alloc ?_ _) | (with_reducible refine Kd.C_drewN ?_ _) | (with_reducible refine Kd.C_drew ?_)))
                      (case side2 => exact (Kd.R_reads' HO110.out).2.1)
                      (case side3 => repeat (first | exact (Kd.N_reads' HO113.out).2.2 | (with_reducible refine Kd.C_alloc ?_ _) | (with_reducible refine Kd.C_drewN ?_ _) | (with_reducible refine Kd.C_drew ?_)))
                      (case side4 => exact (Kd.N_reads' HO113.out).2.1)
                      (case side5 => repeat (first | exact (Kd.R_reads' HO103.out).2.2 | (with_reducible refine Kd.C_alloc ?_ _) | (with_reducible refine Kd.C_drewN ?_ _) | (with_reducible refine Kd.C_drew ?_)))
                      (case side6 => exact (Kd.R_reads' HO103.out).2.1)
                      (case side7 => repeat (first | exact (Kd.R_reads' HO106.out).2.2 | (with_reducible refine Kd.C_alloc ?_ _) | (with_reducible refine Kd.C_drewN ?_ _) | (with_reducible refine Kd.C_drew ?_)))
                      (case side8 => exact (Kd.R_reads' HO106.out).2.1)
                      (case side9 => exact Kd.C_nil _ _)
                      (case side10 => exact Nat.le_refl _)
                      rintro e w31 ⟨rfl, hb⟩
                      refine ⟨_, rfl, ?_⟩
                      have n0_ := Aside0.mk (Kd.R_below (by (with_reducible repeat (first | apply Kd.R_alloc | apply Kd.R_drewN | apply Kd.R_drew)); exact HO103.out) hb)
                      have n1_ := Aside0.mk (Kd.R_below (by (with_reducible repeat (first | apply Kd.R_alloc | apply Kd.R_drewN | apply Kd.R_drew)); exact HO106.out) hb)
                      have n2_ := Aside0.mk (Kd.R_below (by (with_reducible repeat (first | apply Kd.R_alloc | apply Kd.R_drewN | apply Kd.R_drew)); exact HO110.out) hb)
                      have n3_ := Aside0.mk (Kd.N_below (by (with_reducible repeat (first | apply Kd.N_alloc | apply Kd.N_drewN | apply Kd.N_drew)); exact HO113.out) hb)
                      have n4_ := Aside0.mk (blk_below (g := gb107) (o := .cells #[.int .i64 0, .slice Ao23 y101.length co23, .slice Ao22 y104.length co22, .slice none 0 0] 36 (0, 0)) (by (with_reducible repeat (first | refine blk_drewN ?_ _ | refine blk_drew ?_ | refine blk_alloc ?_ _)); exact BK107.out) hb)
                      have n5_ := Aside0.mk (below_step (by repeat (first | (with_reducible first | exact HB.out | apply below_alloc | apply pw_below_drewN | apply below_drew1 | refine below_set ?_ GE107.out) | exact HB.out)) hb)
                      clear HO103
                      clear HO106
                      clear HO110
                      clear HO113
                      clear BK107
                      clear HB
                      have HO103 := n0_
                      have HO106 := n1_
                      have HO110 := n2_
                      have HO113 := n3_
                      have BK107 := n4_
                      have HB := n5_
                      clear n0_ n1_ n2_ n3_ n4_ n5_
                      (try clear hb)
                      (try clear hb2)
                      (try clear hk)
                      (try clear hi)
                      refine hK.out _ _ ⟨(blk_cell BK107.out 0).trans rfl, (blk_cell BK107.out 1).trans rfl, (blk_cell BK107.out 2).trans rfl, (blk_cell BK107.out 3).trans rfl⟩ (fun hHeld => ?_)
                      clear hK K
                      refine norm_ (a' := ?_) ?_ ?_
                      rotate_left
                      · show Act.put _ (some 19) _ = _
                        simp only [Act.put, List.setIfInBounds_toArray, List.set_cons_zero, List.set_cons_succ, i64_w, i32_w]
                        rfl
                      refine pure_ (i := 3) (N := some 16) (v := ?_) (a' := ?_) #[true, true, true, true, false, false, false, false] rfl rfl (any_of HT_.out (by kernel_rfl)) (fun _ _ _ h => h) (Or.inl ⟨by rfl, ?_⟩) ?_ ?_
                      rotate_left
                      · intro w'
                        go_simp
                        with_reducible rfl
                      rotate_left
                      · simp only [Act.put, List.setIfInBounds_toArray, List.set_cons_zero, List.set_cons_succ, i64_w, i32_w]
                        rfl
                      refine pure_ (i := 4) (N := some 20) (v := ?_) (a' := ?_) #[true, true, true, true, true, false, false, false] rfl rfl (any_of HT_.out (by kernel_rfl)) (fun _ _ _ h => h) (Or.inl ⟨by rfl, ?_⟩) ?_ ?_
                      rotate_left
                      · intro w'
                        go_simp
                        with_reducible rfl
                      rotate_left
                      · simp only [Act.put, List.setIfInBounds_toArray, List.set_cons_zero, List.set_cons_succ, i64_w, i32_w]
                        rfl
                      refine pure_ (i := 5) (N := some 21) (v := ?_) (a' := ?_) #[true, true, true, true, true, true, false, false] rfl rfl (any_of HT_.out (by kernel_rfl)) (fun _ _ _ h => h) (Or.inl ⟨by rfl, ?_⟩) ?_ ?_
                      rotate_left
                      · intro w'
                        go_simp
                        with_reducible rfl
                      rotate_left
                      · simp only [Act.put, List.setIfInBounds_toArray, List.set_cons_zero, List.set_cons_succ, i64_w, i32_w]
                        rfl
                      refine pure_ (i := 6) (N := some 2) (v := ?_) (a' := ?_) #[true, true, true, true, true, true, true, false] rfl rfl (any_of HT_.out (by kernel_rfl)) (fun _ _ _ h => h) (Or.inl ⟨by rfl, ?_⟩) ?_ ?_
                      rotate_left
                      · intro w'
                        go_simp
                        with_reducible rfl
                      rotate_left
                      · simp only [Act.put, List.setIfInBounds_toArray, List.set_cons_zero, List.set_cons_succ, i64_w, i32_w]
                        rfl
                      refine pure_ (i := 7) (N := some 3) (v := ?_) (a' := ?_) #[true, true, true, true, true, true, true, true] rfl rfl (any_of HT_.out (by kernel_rfl)) (fun _ _ _ h => h) (Or.inl ⟨by rfl, ?_⟩) ?_ ?_
                      rotate_left
                      · intro w'
                        go_simp
                        with_reducible rfl
                      rotate_left
                      · simp only [Act.put, List.setIfInBounds_toArray, List.set_cons_zero, List.set_cons_succ, i64_w, i32_w]
                        rfl
                      refine done_ (done_of HT_.out (by kernel_rfl)) ?_
                      try go_wp2
                      have n0_ := Aside0.mk (Kd.R_drew HO103.out)
                      have n1_ := Aside0.mk (Kd.R_drew HO106.out)
                      have n2_ := Aside0.mk (Kd.R_drew HO110.out)
                      have n3_ := Aside0.mk (Kd.N_drew HO113.out)
                      have n4_ := Aside0.mk (blk_drew BK107.out)
                      have n5_ := Aside0.mk (below_drew1 HB.out)
                      clear HO103
                      clear HO106
                      clear HO110
                      clear HO113
                      clear BK107
                      clear HB
                      have HO103 := n0_
                      have HO106 := n1_
                      have HO110 := n2_
                      have HO113 := n3_
                      have BK107 := n4_
                      have HB := n5_
                      clear n0_ n1_ n2_ n3_ n4_ n5_
                      refine start_ (n := 8) (S := fun w' => w'.cell? ⟨gb107, 0, none⟩ = some (.int .i64 0) ∧ w'.cell? ⟨gb107, 1, none⟩ = some (.slice Ao23 y101.length co23) ∧ w'.cell? ⟨gb107, 2, none⟩ = some (.slice Ao22 y104.length co22) ∧ w'.cell? ⟨gb107, 3, none⟩ = some (.slice none 0 0)) (ds := []) #[false, false, false, false, false, false, false, false] (by kernel_rfl) rfl rfl ⟨(blk_cell BK107.out 0).trans rfl, (blk_cell BK107.out 1).trans rfl, (blk_cell BK107.out 2).trans rfl, (blk_cell BK107.out 3).trans rfl⟩ (fun hHeld => ?_); refine with_tabW shuntlaw20_awake.tab3 shuntlaw20_awake.bits3 (fun HT_ HW_ => ?_)
                      generalize w31.drew = w32 at HO103 HO106 HO110 HO113 BK107 HB hHeld ⊢
                      refine take_ (i := 1) (N := some 24) (v := ?_) (a' := ?_) #[false, true, false, false, false, false, false, false] rfl rfl (take_ofW HT_.out HW_.out (by kernel_rfl)) (fun _ _ _ h => h) (Or.inl ⟨by rfl, ?_⟩) hHeld ?_ ?_
                      rotate_left
                      · rintro w' ⟨s0, s1, s2, s3⟩
                        go_simp
                        with_reducible rfl
                      rotate_left
                      · simp only [Act.put, List.setIfInBounds_toArray, List.set_cons_zero, List.set_cons_succ, i64_w, i32_w]
                        rfl
                      refine one_ (i := 0) (N := some 23) #[true, true, false, false, false, false, false, false] rfl rfl (one_of HT_.out (by kernel_rfl)) (by decide) (fun K hK => ?_)
                      refine goes_ Tryd.func11 (by kernel_rfl) rfl #[] (by rfl) rfl rfl (by (try simp only [List.map_toArray, List.map_cons, List.map_nil]); first | done | rfl | (simp only [List.length_drop, List.length_take]; rfl)) ?_
                      with_reducible refine (shuntlaw20_circuit.calls  t119 t122 t125 t126 t127 _ A3.out).mono ?_
                      rintro e w33 ⟨v120, v123, rfl, ho0, ho1, hb⟩
                      refine ⟨_, rfl, ?_⟩
                      have n0_ := Aside0.mk (Kd.R_below (by (with_reducible repeat (first | apply Kd.R_alloc | apply Kd.R_drewN | apply Kd.R_drew)); exact HO103.out) hb)
                      have n1_ := Aside0.mk (Kd.R_below (by (with_reducible repeat (first | apply Kd.R_alloc | apply Kd.R_drewN | apply Kd.R_drew)); exact HO106.out) hb)
                      have n2_ := Aside0.mk (Kd.R_elder' (by (with_reducible repeat (first | apply Kd.R_alloc | apply Kd.R_drewN | apply Kd.R_drew)); exact HO110.out) (Kd.R_base ho0) hb)
                      have n3_ := Aside0.mk (Kd.N_mono (Kd.N_told (Kd.N_told (Kd.N_old (by (with_reducible repeat (first | apply Kd.N_alloc | apply Kd.N_drewN | apply Kd.N_drew)); exact HO113.out) hb) (Kd.R_base ho0)) (Kd.N_base ho1)) (fun _ h_ => h_.1))
                      have n4_ := Aside0.mk (Kd.R_lower (Kd.R_new' (Kd.R_mono (ok' := fun k_ => True) ho0 (fun _ hk_ => trivial)) (Kd.R_lt (by (with_reducible repeat (first | apply Kd.R_alloc | apply Kd.R_drewN | apply Kd.R_drew)); exact HO110.out))) (below_size (by repeat (first | (with_reducible first | exact HB.out | apply below_alloc | apply pw_below_drewN | apply below_drew1 | refine below_set ?_ GE107.out) | exact HB.out))))
                      have n5_ := Aside0.mk (Kd.N_lower (Kd.N_mono (ok' := fun k_ => some k_ ≠ (v120 : Value).ownBlock ∧ some k_ ≠ (.slice Ao23 y101.length co23 : Value).ownBlock ∧ some k_ ≠ (.slice Ao22 y104.length co22 : Value).ownBlock ∧ some k_ ≠ (.slice Ao29 t108.length co29 : Value).ownBlock ∧ some k_ ≠ (.slice Ao30 t111.length co30 : Value).ownBlock ∧ k_ ≠ gb107) ho1 (fun k_ hk_ => ⟨hk_.2, (Kd.fresh' (Kd.R_lt (by (with_reducible repeat (first | apply Kd.R_alloc | apply Kd.R_drewN | apply Kd.R_drew)); exact HO103.out)) k_ hk_.1), (Kd.fresh' (Kd.R_lt (by (with_reducible repeat (first | apply Kd.R_alloc | apply Kd.R_drewN | apply Kd.R_drew)); exact HO106.out)) k_ hk_.1), (Kd.fresh' (Kd.R_lt (by (with_reducible repeat (first | apply Kd.R_alloc | apply Kd.R_drewN | apply Kd.R_drew)); exact HO110.out)) k_ hk_.1), (Kd.fresh' (Kd.N_lt (by (with_reducible repeat (first | apply Kd.N_alloc | apply Kd.N_drewN | apply Kd.N_drew)); exact HO113.out)) k_ hk_.1), (Kd.freshB (g := gb107) (o := .cells #[.int .i64 0, .slice Ao23 y101.length co23, .slice Ao22 y104.length co22, .slice none 0 0] 36 (0, 0)) (by (with_reducible repeat (first | refine blk_drewN ?_ _ | refine blk_drew ?_ | refine blk_alloc ?_ _)); exact BK107.out) k_ hk_.1)⟩)) (below_size (by repeat (first | (with_reducible first | exact HB.out | apply below_alloc | apply pw_below_drewN | apply below_drew1 | refine below_set ?_ GE107.out) | exact HB.out))))
                      have n6_ := Aside0.mk (blk_below (g := gb107) (o := .cells #[.int .i64 0, .slice Ao23 y101.length co23, .slice Ao22 y104.length co22, .slice none 0 0] 36 (0, 0)) (by (with_reducible repeat (first | refine blk_drewN ?_ _ | refine blk_drew ?_ | refine blk_alloc ?_ _)); exact BK107.out) hb)
                      have n7_ := Aside0.mk (below_step (by repeat (first | (with_reducible first | exact HB.out | apply below_alloc | apply pw_below_drewN | apply below_drew1 | refine below_set ?_ GE107.out) | exact HB.out)) hb)
                      clear HO103
                      clear HO106
                      clear HO110
                      clear HO113
                      clear BK107
                      clear HB
                      have HO103 := n0_
                      have HO106 := n1_
                      have HO110 := n2_
                      have HO113 := n3_
                      have HO121 := n4_
                      have HO124 := n5_
                      have BK107 := n6_
                      have HB := n7_
                      clear n0_ n1_ n2_ n3_ n4_ n5_ n6_ n7_
                      (try clear hb)
                      (try clear hb2)
                      (try clear hk)
                      (try clear hi)
                      (try clear ho0)
                      (try clear ho1)
                      obtain ⟨Ao34, co34, eo34⟩ := Kd.R_slice HO121.out
                      (first | subst eo34 | (injection eo34 with f1_ f2_ f3_; have f4_ := f1_.symm; have f5_ := f3_.symm; clear f1_ f2_ f3_; subst f4_; subst f5_))
                      obtain ⟨Ao35, co35, eo35⟩ := Kd.N_slice HO124.out
                      (first | subst eo35 | (injection eo35 with f1_ f2_ f3_; have f4_ := f1_.symm; have f5_ := f3_.symm; clear f1_ f2_ f3_; subst f4_; subst f5_))
                      refine hK.out _ _ ⟨(blk_cell BK107.out 0).trans rfl, (blk_cell BK107.out 1).trans rfl, (blk_cell BK107.out 2).trans rfl, (blk_cell BK107.out 3).trans rfl⟩ (fun hHeld => ?_)
                      clear hK K
                      refine norm_ (a' := ?_) ?_ ?_
                      rotate_left
                      · show Act.put _ (some 23) _ = _
                        simp only [Act.put, List.setIfInBounds_toArray, List.set_cons_zero, List.set_cons_succ, i64_w, i32_w]
                        rfl
                      refine one_ (i := 2) (N := some 25) #[true, true, true, false, false, false, false, false] rfl rfl (one_of HT_.out (by kernel_rfl)) (by decide) (fun K hK => ?_)
                      refine goes_ Tryd.func10 (by kernel_rfl) rfl #[.agg #[.slice Ao34 t119.length co34, .slice Ao35 t122.length co35, .int .i64 t125, .int .i64 t126, .int .i64 t127], .agg #[.int .i64 0, .slice Ao23 y101.length co23, .slice Ao22 y104.length co22, .slice none 0 0], .string (⟨#[105, 40, 120, 49, 46, 114, 49, 41]⟩ : ByteArray)] (by rfl) rfl rfl (by (try simp only [List.map_toArray, List.map_cons, List.map_nil]); first | done | rfl | (simp only [List.length_drop, List.length_take]; rfl)) ?_
                      refine (probe_Read.calls k _ _ t119 _ _ t122 t125 t126 t127 0 _ _ y101 _ _ y104 _ _ ([] : List Int) (⟨#[105, 40, 120, 49, 46, 114, 49, 41]⟩ : ByteArray) t128 t129 _ ?side1 ?side2 ?side3 ?side4 ?side5 ?side6 ?side7 ?side8 ?side9 ?side10 A4.out).mono ?_
                      (case side1 => repeat (first | exact (Kd.R_reads' HO121.out).2.2 | (with_reducible refine Kd.C_alloc ?_ _) | (with_reducible refine Kd.C_drewN ?_ _) | (with_reducible refine Kd.C_drew ?_)))
                      (case side2 => exact (Kd.R_reads' HO121.out).2.1)
                      (case side3 => repeat (first | exact (Kd.N_reads' HO124.out).2.2 | (with_reducible refine Kd.C_alloc ?_ _) | (with_reducible refine Kd.C_drewN ?_ _) | (with_reducible refine Kd.C_drew ?_)))
                      (case side4 => exact (Kd.N_reads' HO124.out).2.1)
                      (case side5 => repeat (first | exact (Kd.R_reads' HO103.out).2.2 | (with_reducible refine Kd.C_alloc ?_ _) | (with_reducible refine Kd.C_drewN ?_ _) | (with_reducible refine Kd.C_drew ?_)))
                      (case side6 => exact (Kd.R_reads' HO103.out).2.1)
                      (case side7 => repeat (first | exact (Kd.R_reads' HO106.out).2.2 | (with_reducible refine Kd.C_alloc ?_ _) | (with_reducible refine Kd.C_drewN ?_ _) | (with_reducible refine Kd.C_drew ?_)))
                      (case side8 => exact (Kd.R_reads' HO106.out).2.1)
                      (case side9 => exact Kd.C_nil _ _)
                      (case side10 => exact Nat.le_refl _)
                      rintro e w36 ⟨rfl, hb⟩
                      refine ⟨_, rfl, ?_⟩
                      have n0_ := Aside0.mk (Kd.R_below (by (with_reducible repeat (first | apply Kd.R_alloc | apply Kd.R_drewN | apply Kd.R_drew)); exact HO103.out) hb)
                      have n1_ := Aside0.mk (Kd.R_below (by (with_reducible repeat (first | apply Kd.R_alloc | apply Kd.R_drewN | apply Kd.R_drew)); exact HO106.out) hb)
                      have n2_ := Aside0.mk (Kd.R_below (by (with_reducible repeat (first | apply Kd.R_alloc | apply Kd.R_drewN | apply Kd.R_drew)); exact HO110.out) hb)
                      have n3_ := Aside0.mk (Kd.N_below (by (with_reducible repeat (first | apply Kd.N_alloc | apply Kd.N_drewN | apply Kd.N_drew)); exact HO113.out) hb)
                      have n4_ := Aside0.mk (Kd.R_below (by (with_reducible repeat (first | apply Kd.R_alloc | apply Kd.R_drewN | apply Kd.R_drew)); exact HO121.out) hb)
                      have n5_ := Aside0.mk (Kd.N_below (by (with_reducible repeat (first | apply Kd.N_alloc | apply Kd.N_drewN | apply Kd.N_drew)); exact HO124.out) hb)
                      have n6_ := Aside0.mk (blk_below (g := gb107) (o := .cells #[.int .i64 0, .slice Ao23 y101.length co23, .slice Ao22 y104.length co22, .slice none 0 0] 36 (0, 0)) (by (with_reducible repeat (first | refine blk_drewN ?_ _ | refine blk_drew ?_ | refine blk_alloc ?_ _)); exact BK107.out) hb)
                      have n7_ := Aside0.mk (below_step (by repeat (first | (with_reducible first | exact HB.out | apply below_alloc | apply pw_below_drewN | apply below_drew1 | refine below_set ?_ GE107.out) | exact HB.out)) hb)
                      clear HO103
                      clear HO106
                      clear HO110
                      clear HO113
                      clear HO121
                      clear HO124
                      clear BK107
                      clear HB
                      have HO103 := n0_
                      have HO106 := n1_
                      have HO110 := n2_
                      have HO113 := n3_
                      have HO121 := n4_
                      have HO124 := n5_
                      have BK107 := n6_
                      have HB := n7_
                      clear n0_ n1_ n2_ n3_ n4_ n5_ n6_ n7_
                      (try clear hb)
                      (try clear hb2)
                      (try clear hk)
                      (try clear hi)
                      refine hK.out _ _ ⟨(blk_cell BK107.out 0).trans rfl, (blk_cell BK107.out 1).trans rfl, (blk_cell BK107.out 2).trans rfl, (blk_cell BK107.out 3).trans rfl⟩ (fun hHeld => ?_)
                      clear hK K
                      refine norm_ (a' := ?_) ?_ ?_
                      rotate_left
                      · show Act.put _ (some 25) _ = _
                        simp only [Act.put, List.setIfInBounds_toArray, List.set_cons_zero, List.set_cons_succ, i64_w, i32_w]
                        rfl
                      refine pure_ (i := 3) (N := some 22) (v := ?_) (a' := ?_) #[true, true, true, true, false, false, false, false] rfl rfl (any_of HT_.out (by kernel_rfl)) (fun _ _ _ h => h) (Or.inl ⟨by rfl, ?_⟩) ?_ ?_
                      rotate_left
                      · intro w'
                        go_simp
                        with_reducible rfl
                      rotate_left
                      · simp only [Act.put, List.setIfInBounds_toArray, List.set_cons_zero, List.set_cons_succ, i64_w, i32_w]
                        rfl
                      refine pure_ (i := 4) (N := some 26) (v := ?_) (a' := ?_) #[true, true, true, true, true, false, false, false] rfl rfl (any_of HT_.out (by kernel_rfl)) (fun _ _ _ h => h) (Or.inl ⟨by rfl, ?_⟩) ?_ ?_
                      rotate_left
                      · intro w'
                        go_simp
                        with_reducible rfl
                      rotate_left
                      · simp only [Act.put, List.setIfInBounds_toArray, List.set_cons_zero, List.set_cons_succ, i64_w, i32_w]
                        rfl
                      refine pure_ (i := 5) (N := some 27) (v := ?_) (a' := ?_) #[true, true, true, true, true, true, false, false] rfl rfl (any_of HT_.out (by kernel_rfl)) (fun _ _ _ h => h) (Or.inl ⟨by rfl, ?_⟩) ?_ ?_
                      rotate_left
                      · intro w'
                        go_simp
                        with_reducible rfl
                      rotate_left
                      · simp only [Act.put, List.setIfInBounds_toArray, List.set_cons_zero, List.set_cons_succ, i64_w, i32_w]
                        rfl
                      refine pure_ (i := 6) (N := some 4) (v := ?_) (a' := ?_) #[true, true, true, true, true, true, true, false] rfl rfl (any_of HT_.out (by kernel_rfl)) (fun _ _ _ h => h) (Or.inl ⟨by rfl, ?_⟩) ?_ ?_
                      rotate_left
                      · intro w'
                        go_simp
                        with_reducible rfl
                      rotate_left
                      · simp only [Act.put, List.setIfInBounds_toArray, List.set_cons_zero, List.set_cons_succ, i64_w, i32_w]
                        rfl
                      refine pure_ (i := 7) (N := some 5) (v := ?_) (a' := ?_) #[true, true, true, true, true, true, true, true] rfl rfl (any_of HT_.out (by kernel_rfl)) (fun _ _ _ h => h) (Or.inl ⟨by rfl, ?_⟩) ?_ ?_
                      rotate_left
                      · intro w'
                        go_simp
                        with_reducible rfl
                      rotate_left
                      · simp only [Act.put, List.setIfInBounds_toArray, List.set_cons_zero, List.set_cons_succ, i64_w, i32_w]
                        rfl
                      refine done_ (done_of HT_.out (by kernel_rfl)) ?_
                      try go_wp2_with (first | ((with_reducible refine gate_dst (N := 29) rfl ?_); refine Kd.R_lit (Kd.int .i64) _ 2 ?hg (N := 29) ?hd (xs := ([0, 5, 2, 5] : List Int)) (inner := [.int .i64 0, .int .i64 5, .int .i64 2, .int .i64 5]) (ok := fun _ => True) (okp := fun _ => True) ?hr ?hp (fun _ hk => hk) trivial (Below.refl _ _) (Nat.le_refl _) (by simp) ?_; (case hd => rfl); (case hg => rfl); (case hr => first | (go_simp; done) | (go_simp; rfl)); (case hp => exact (Reps.one (show Kd.M (Kd.int .i64) _ _ _ 0 [.int .i64 0] from rfl) (Reps.one (show Kd.M (Kd.int .i64) _ _ _ 5 [.int .i64 5] from rfl) (Reps.one (show Kd.M (Kd.int .i64) _ _ _ 2 [.int .i64 2] from rfl) (Reps.one (show Kd.M (Kd.int .i64) _ _ _ 5 [.int .i64 5] from rfl) (Reps.none _ _)))))); intro v131 w37 ho38 hb hg_ hnew_; clear hg_ hnew_; (first | rw [← Ny130.out] at ho38 | (simp only [Int.reduceToNat] at ho38; rw [← Ny130.out] at ho38)); have n0_ := Aside0.mk (Kd.R_elder' (by (with_reducible repeat (first | apply Kd.R_alloc | apply Kd.R_drewN | apply Kd.R_drew)); exact HO103.out) (Kd.R_base ho38) hb); have n1_ := Aside0.mk (Kd.R_elder' (by (with_reducible repeat (first | apply Kd.R_alloc | apply Kd.R_drewN | apply Kd.R_drew)); exact HO106.out) (Kd.R_base ho38) hb); have n2_ := Aside0.mk (Kd.R_below (by (with_reducible repeat (first | apply Kd.R_alloc | apply Kd.R_drewN | apply Kd.R_drew)); exact HO110.out) hb); have n3_ := Aside0.mk (Kd.N_elder' (by (with_reducible repeat (first | apply Kd.N_alloc | apply Kd.N_drewN | apply Kd.N_drew)); exact HO113.out) (Kd.R_base ho38) hb); have n4_ := Aside0.mk (Kd.R_below (by (with_reducible repeat (first | apply Kd.R_alloc | apply Kd.R_drewN | apply Kd.R_drew)); exact HO121.out) hb); have n5_ := Aside0.mk (Kd.N_elder' (by (with_reducible repeat (first | apply Kd.N_alloc | apply Kd.N_drewN | apply Kd.N_drew)); exact HO124.out) (Kd.R_base ho38) hb); have n6_ := Aside0.mk (Kd.R_lower (Kd.R_new' (Kd.R_new' ho38 (Kd.R_lt (by (with_reducible repeat (first | apply Kd.R_alloc | apply Kd.R_drewN | apply Kd.R_drew)); exact HO103.out))) (Kd.R_lt (by (with_reducible repeat (first | apply Kd.R_alloc | apply Kd.R_drewN | apply Kd.R_drew)); exact HO106.out))) (below_size (by repeat (first | (with_reducible first | exact HB.out | apply below_alloc | apply pw_below_drewN | apply below_drew1 | refine below_set ?_ GE107.out) | exact HB.out)))); have n7_ := Aside0.mk (blk_below (g := gb107) (o := .cells #[.int .i64 0, .slice Ao23 y101.length co23, .slice Ao22 y104.length co22, .slice none 0 0] 36 (0, 0)) (by (with_reducible repeat (first | refine blk_drewN ?_ _ | refine blk_drew ?_ | refine blk_alloc ?_ _)); exact BK107.out) hb); have n8_ := Aside0.mk (below_step (by repeat (first | (with_reducible first | exact HB.out | apply below_alloc | apply pw_below_drewN | apply below_drew1 | refine below_set ?_ GE107.out) | exact HB.out)) hb); clear HO103; clear HO106; clear HO110; clear HO113; clear HO121; clear HO124; clear BK107; clear HB; have HO103 := n0_; have HO106 := n1_; have HO110 := n2_; have HO113 := n3_; have HO121 := n4_; have HO124 := n5_; have HO132 := n6_; have BK107 := n7_; have HB := n8_; clear n0_ n1_ n2_ n3_ n4_ n5_ n6_ n7_ n8_; clear hb ho38; obtain ⟨Ao39, co39, eo39⟩ := Kd.R_slice HO132.out; subst eo39) | ((with_reducible refine gate_callee (f := 9) rfl ?_); refine goesL_ (some 30) rfl rfl Tryd.func9 (by kernel_rfl) rfl #[.slice Ao39 y130.length co39, .int .i64 5, .int .i64 2] rfl (by (try simp only [List.map_toArray, List.map_cons, List.map_nil]); first | done | rfl | (simp only [List.length_drop, List.length_take]; rfl)) ?_; (with_reducible refine (probe_Rise.calls k _ _ y130 5 2 t133 t134 _ ?side1 ?side2 A5.out).mono ?_); (case side1 => repeat (first | exact (Kd.R_reads' HO132.out).2.2 | (with_reducible refine Kd.C_alloc ?_ _) | (with_reducible refine Kd.C_drewN ?_ _) | (with_reducible refine Kd.C_drew ?_))); (case side2 => exact (Kd.R_reads' HO132.out).2.1); rintro e w40 ⟨rfl, hb⟩; refine ⟨_, rfl, ?_⟩; have n0_ := Aside0.mk (Kd.R_below (by (with_reducible repeat (first | apply Kd.R_alloc | apply Kd.R_drewN | apply Kd.R_drew)); exact HO103.out) hb); have n1_ := Aside0.mk (Kd.R_below (by (with_reducible repeat (first | apply Kd.R_alloc | apply Kd.R_drewN | apply Kd.R_drew)); exact HO106.out) hb); have n2_ := Aside0.mk (Kd.R_below (by (with_reducible repeat (first | apply Kd.R_alloc | apply Kd.R_drewN | apply Kd.R_drew)); exact HO110.out) hb); have n3_ := Aside0.mk (Kd.N_below (by (with_reducible repeat (first | apply Kd.N_alloc | apply Kd.N_drewN | apply Kd.N_drew)); exact HO113.out) hb); have n4_ := Aside0.mk (Kd.R_below (by (with_reducible repeat (first | apply Kd.R_alloc | apply Kd.R_drewN | apply Kd.R_drew)); exact HO121.out) hb); have n5_ := Aside0.mk (Kd.N_below (by (with_reducible repeat (first | apply Kd.N_alloc | apply Kd.N_drewN | apply Kd.N_drew)); exact HO124.out) hb); have n6_ := Aside0.mk (Kd.R_below (by (with_reducible repeat (first | apply Kd.R_alloc | apply Kd.R_drewN | apply Kd.R_drew)); exact HO132.out) hb); have n7_ := Aside0.mk (blk_below (g := gb107) (o := .cells #[.int .i64 0, .slice Ao23 y101.length co23, .slice Ao22 y104.length co22, .slice none 0 0] 36 (0, 0)) (by (with_reducible repeat (first | refine blk_drewN ?_ _ | refine blk_drew ?_ | refine blk_alloc ?_ _)); exact BK107.out) hb); have n8_ := Aside0.mk (below_step (by repeat (first | (with_reducible first | exact HB.out | apply below_alloc | apply pw_below_drewN | apply below_drew1 | refine below_set ?_ GE107.out) | exact HB.out)) hb); clear HO103; clear HO106; clear HO110; clear HO113; clear HO121; clear HO124; clear HO132; clear BK107; clear HB; have HO103 := n0_; have HO106 := n1_; have HO110 := n2_; have HO113 := n3_; have HO121 := n4_; have HO124 := n5_; have HO132 := n6_; have BK107 := n7_; have HB := n8_; clear n0_ n1_ n2_ n3_ n4_ n5_ n6_ n7_ n8_; (try clear hb); (try clear hb2); (try clear hk); (try clear hi)) | ((with_reducible refine gate_dst (N := 34) rfl ?_); refine Kd.R_lit (Kd.int .i64) _ 2 ?hg (N := 34) ?hd (xs := ([0, 9, 10, 11] : List Int)) (inner := [.int .i64 0, .int .i64 9, .int .i64 10, .int .i64 11]) (ok := fun _ => True) (okp := fun _ => True) ?hr ?hp (fun _ hk => hk) trivial (Below.refl _ _) (Nat.le_refl _) (by simp) ?_; (case hd => rfl); (case hg => rfl); (case hr => first | (go_simp; done) | (go_simp; rfl)); (case hp => exact (Reps.one (show Kd.M (Kd.int .i64) _ _ _ 0 [.int .i64 0] from rfl) (Reps.one (show Kd.M (Kd.int .i64) _ _ _ 9 [.int .i64 9] from rfl) (Reps.one (show Kd.M (Kd.int .i64) _ _ _ 10 [.int .i64 10] from rfl) (Reps.one (show Kd.M (Kd.int .i64) _ _ _ 11 [.int .i64 11] from rfl) (Reps.none _ _)))))); intro v136 w41 ho42 hb hg_ hnew_; clear hg_ hnew_; (first | rw [← Ny135.out] at ho42 | (simp only [Int.reduceToNat] at ho42; rw [← Ny135.out] at ho42)); have n0_ := Aside0.mk (Kd.R_elder' (by (with_reducible repeat (first | apply Kd.R_alloc | apply Kd.R_drewN | apply Kd.R_drew)); exact HO103.out) (Kd.R_base ho42) hb); have n1_ := Aside0.mk (Kd.R_elder' (by (with_reducible repeat (first | apply Kd.R_alloc | apply Kd.R_drewN | apply Kd.R_drew)); exact HO106.out) (Kd.R_base ho42) hb); have n2_ := Aside0.mk (Kd.R_below (by (with_reducible repeat (first | apply Kd.R_alloc | apply Kd.R_drewN | apply Kd.R_drew)); exact HO110.out) hb); have n3_ := Aside0.mk (Kd.N_elder' (by (with_reducible repeat (first | apply Kd.N_alloc | apply Kd.N_drewN | apply Kd.N_drew)); exact HO113.out) (Kd.R_base ho42) hb); have n4_ := Aside0.mk (Kd.R_below (by (with_reducible repeat (first | apply Kd.R_alloc | apply Kd.R_drewN | apply Kd.R_drew)); exact HO121.out) hb); have n5_ := Aside0.mk (Kd.N_elder' (by (with_reducible repeat (first | apply Kd.N_alloc | apply Kd.N_drewN | apply Kd.N_drew)); exact HO124.out) (Kd.R_base ho42) hb); have n6_ := Aside0.mk (Kd.R_elder' (by (with_reducible repeat (first | apply Kd.R_alloc | apply Kd.R_drewN | apply Kd.R_drew)); exact HO132.out) (Kd.R_base ho42) hb); have n7_ := Aside0.mk (Kd.R_lower (Kd.R_new' (Kd.R_new' (Kd.R_new' ho42 (Kd.R_lt (by (with_reducible repeat (first | apply Kd.R_alloc | apply Kd.R_drewN | apply Kd.R_drew)); exact HO103.out))) (Kd.R_lt (by (with_reducible repeat (first | apply Kd.R_alloc | apply Kd.R_drewN | apply Kd.R_drew)); exact HO106.out))) (Kd.R_lt (by (with_reducible repeat (first | apply Kd.R_alloc | apply Kd.R_drewN | apply Kd.R_drew)); exact HO132.out))) (below_size (by repeat (first | (with_reducible first | exact HB.out | apply below_alloc | apply pw_below_drewN | apply below_drew1 | refine below_set ?_ GE107.out) | exact HB.out)))); have n8_ := Aside0.mk (blk_below (g := gb107) (o := .cells #[.int .i64 0, .slice Ao23 y101.length co23, .slice Ao22 y104.length co22, .slice none 0 0] 36 (0, 0)) (by (with_reducible repeat (first | refine blk_drewN ?_ _ | refine blk_drew ?_ | refine blk_alloc ?_ _)); exact BK107.out) hb); have n9_ := Aside0.mk (below_step (by repeat (first | (with_reducible first | exact HB.out | apply below_alloc | apply pw_below_drewN | apply below_drew1 | refine below_set ?_ GE107.out) | exact HB.out)) hb); clear HO103; clear HO106; clear HO110; clear HO113; clear HO121; clear HO124; clear HO132; clear BK107; clear HB; have HO103 := n0_; have HO106 := n1_; have HO110 := n2_; have HO113 := n3_; have HO121 := n4_; have HO124 := n5_; have HO132 := n6_; have HO137 := n7_; have BK107 := n8_; have HB := n9_; clear n0_ n1_ n2_ n3_ n4_ n5_ n6_ n7_ n8_ n9_; clear hb ho42; obtain ⟨Ao43, co43, eo43⟩ := Kd.R_slice HO137.out; subst eo43) | ((with_reducible refine gate_callee (f := 7) rfl ?_); refine goesL_ (some 35) rfl rfl Tryd.func7 (by kernel_rfl) rfl #[.slice Ao43 y135.length co43, .int .i64 10, .int .i64 1] rfl (by (try simp only [List.map_toArray, List.map_cons, List.map_nil]); first | done | rfl | (simp only [List.length_drop, List.length_take]; rfl)) ?_; (with_reducible refine (probe_Settle.calls k _ _ y135 10 1 t138 t139 _ ?side1 ?side2 A6.out).mono ?_); (case side1 => repeat (first | exact (Kd.R_reads' HO137.out).2.2 | (with_reducible refine Kd.C_alloc ?_ _) | (with_reducible refine Kd.C_drewN ?_ _) | (with_reducible refine Kd.C_drew ?_))); (case side2 => exact (Kd.R_reads' HO137.out).2.1); rintro e w44 ⟨rfl, hb⟩; refine ⟨_, rfl, ?_⟩; have n0_ := Aside0.mk (Kd.R_below (by (with_reducible repeat (first | apply Kd.R_alloc | apply Kd.R_drewN | apply Kd.R_drew)); exact HO103.out) hb); have n1_ := Aside0.mk (Kd.R_below (by (with_reducible repeat (first | apply Kd.R_alloc | apply Kd.R_drewN | apply Kd.R_drew)); exact HO106.out) hb); have n2_ := Aside0.mk (Kd.R_below (by (with_reducible repeat (first | apply Kd.R_alloc | apply Kd.R_drewN | apply Kd.R_drew)); exact HO110.out) hb); have n3_ := Aside0.mk (Kd.N_below (by (with_reducible repeat (first | apply Kd.N_alloc | apply Kd.N_drewN | apply Kd.N_drew)); exact HO113.out) hb); have n4_ := Aside0.mk (Kd.R_below (by (with_reducible repeat (first | apply Kd.R_alloc | apply Kd.R_drewN | apply Kd.R_drew)); exact HO121.out) hb); have n5_ := Aside0.mk (Kd.N_below (by (with_reducible repeat (first | apply Kd.N_alloc | apply Kd.N_drewN | apply Kd.N_drew)); exact HO124.out) hb); have n6_ := Aside0.mk (Kd.R_below (by (with_reducible repeat (first | apply Kd.R_alloc | apply Kd.R_drewN | apply Kd.R_drew)); exact HO132.out) hb); have n7_ := Aside0.mk (Kd.R_below (by (with_reducible repeat (first | apply Kd.R_alloc | apply Kd.R_drewN | apply Kd.R_drew)); exact HO137.out) hb); have n8_ := Aside0.mk (blk_below (g := gb107) (o := .cells #[.int .i64 0, .slice Ao23 y101.length co23, .slice Ao22 y104.length co22, .slice none 0 0] 36 (0, 0)) (by (with_reducible repeat (first | refine blk_drewN ?_ _ | refine blk_drew ?_ | refine blk_alloc ?_ _)); exact BK107.out) hb); have n9_ := Aside0.mk (below_step (by repeat (first | (with_reducible first | exact HB.out | apply below_alloc | apply pw_below_drewN | apply below_drew1 | refine below_set ?_ GE107.out) | exact HB.out)) hb); clear HO103; clear HO106; clear HO110; clear HO113; clear HO121; clear HO124; clear HO132; clear HO137; clear BK107; clear HB; have HO103 := n0_; have HO106 := n1_; have HO110 := n2_; have HO113 := n3_; have HO121 := n4_; have HO124 := n5_; have HO132 := n6_; have HO137 := n7_; have BK107 := n8_; have HB := n9_; clear n0_ n1_ n2_ n3_ n4_ n5_ n6_ n7_ n8_ n9_; (try clear hb); (try clear hb2); (try clear hk); (try clear hi)) | ((with_reducible refine gate_dst (N := 39) rfl ?_); refine Kd.R_lit (Kd.int .i64) _ 2 ?hg (N := 39) ?hd (xs := ([3, 1, 2] : List Int)) (inner := [.int .i64 3, .int .i64 1, .int .i64 2]) (ok := fun _ => True) (okp := fun _ => True) ?hr ?hp (fun _ hk => hk) trivial (Below.refl _ _) (Nat.le_refl _) (by simp) ?_; (case hd => rfl); (case hg => rfl); (case hr => first | (go_simp; done) | (go_simp; rfl)); (case hp => exact (Reps.one (show Kd.M (Kd.int .i64) _ _ _ 3 [.int .i64 3] from rfl) (Reps.one (show Kd.M (Kd.int .i64) _ _ _ 1 [.int .i64 1] from rfl) (Reps.one (show Kd.M (Kd.int .i64) _ _ _ 2 [.int .i64 2] from rfl) (Reps.none _ _))))); intro v141 w45 ho46 hb hg_ hnew_; clear hg_ hnew_; (first | rw [← Ny140.out] at ho46 | (simp only [Int.reduceToNat] at ho46; rw [← Ny140.out] at ho46)); have n0_ := Aside0.mk (Kd.R_elder' (by (with_reducible repeat (first | apply Kd.R_alloc | apply Kd.R_drewN | apply Kd.R_drew)); exact HO103.out) (Kd.R_base ho46) hb); have n1_ := Aside0.mk (Kd.R_elder' (by (with_reducible repeat (first | apply Kd.R_alloc | apply Kd.R_drewN | apply Kd.R_drew)); exact HO106.out) (Kd.R_base ho46) hb); have n2_ := Aside0.mk (Kd.R_below (by (with_reducible repeat (first | apply Kd.R_alloc | apply Kd.R_drewN | apply Kd.R_drew)); exact HO110.out) hb); have n3_ := Aside0.mk (Kd.N_elder' (by (with_reducible repeat (first | apply Kd.N_alloc | apply Kd.N_drewN | apply Kd.N_drew)); exact HO113.out) (Kd.R_base ho46) hb); have n4_ := Aside0.mk (Kd.R_below (by (with_reducible repeat (first | apply Kd.R_alloc | apply Kd.R_drewN | apply Kd.R_drew)); exact HO121.out) hb); have n5_ := Aside0.mk (Kd.N_elder' (by (with_reducible repeat (first | apply Kd.N_alloc | apply Kd.N_drewN | apply Kd.N_drew)); exact HO124.out) (Kd.R_base ho46) hb); have n6_ := Aside0.mk (Kd.R_elder' (by (with_reducible repeat (first | apply Kd.R_alloc | apply Kd.R_drewN | apply Kd.R_drew)); exact HO132.out) (Kd.R_base ho46) hb); have n7_ := Aside0.mk (Kd.R_elder' (by (with_reducible repeat (first | apply Kd.R_alloc | apply Kd.R_drewN | apply Kd.R_drew)); exact HO137.out) (Kd.R_base ho46) hb); have n8_ := Aside0.mk (Kd.R_lower (Kd.R_new' (Kd.R_new' (Kd.R_new' (Kd.R_new' ho46 (Kd.R_lt (by (with_reducible repeat (first | apply Kd.R_alloc | apply Kd.R_drewN | apply Kd.R_drew)); exact HO103.out))) (Kd.R_lt (by (with_reducible repeat (first | apply Kd.R_alloc | apply Kd.R_drewN | apply Kd.R_drew)); exact HO106.out))) (Kd.R_lt (by (with_reducible repeat (first | apply Kd.R_alloc | apply Kd.R_drewN | apply Kd.R_drew)); exact HO132.out))) (Kd.R_lt (by (with_reducible repeat (first | apply Kd.R_alloc | apply Kd.R_drewN | apply Kd.R_drew)); exact HO137.out))) (below_size (by repeat (first | (with_reducible first | exact HB.out | apply below_alloc | apply pw_below_drewN | apply below_drew1 | refine below_set ?_ GE107.out) | exact HB.out)))); have n9_ := Aside0.mk (blk_below (g := gb107) (o := .cells #[.int .i64 0, .slice Ao23 y101.length co23, .slice Ao22 y104.length co22, .slice none 0 0] 36 (0, 0)) (by (with_reducible repeat (first | refine blk_drewN ?_ _ | refine blk_drew ?_ | refine blk_alloc ?_ _)); exact BK107.out) hb); have n10_ := Aside0.mk (below_step (by repeat (first | (with_reducible first | exact HB.out | apply below_alloc | apply pw_below_drewN | apply below_drew1 | refine below_set ?_ GE107.out) | exact HB.out)) hb); clear HO103; clear HO106; clear HO110; clear HO113; clear HO121; clear HO124; clear HO132; clear HO137; clear BK107; clear HB; have HO103 := n0_; have HO106 := n1_; have HO110 := n2_; have HO113 := n3_; have HO121 := n4_; have HO124 := n5_; have HO132 := n6_; have HO137 := n7_; have HO142 := n8_; have BK107 := n9_; have HB := n10_; clear n0_ n1_ n2_ n3_ n4_ n5_ n6_ n7_ n8_ n9_ n10_; clear hb ho46; obtain ⟨Ao47, co47, eo47⟩ := Kd.R_slice HO142.out; subst eo47) | ((with_reducible refine gate_callee (f := 12) rfl ?_); refine goesL_ (some 40) rfl rfl Tryd.func12 (by kernel_rfl) rfl #[.slice Ao47 y140.length co47] rfl (by (try simp only [List.map_toArray, List.map_cons, List.map_nil]); first | done | rfl | (simp only [List.length_drop, List.length_take]; rfl)) ?_; (with_reducible refine (probe_Span.calls _ _ y140 t143 t144 t145 _ ?side1 ?side2 A7.out).mono ?_); (case side1 => repeat (first | exact (Kd.R_reads' HO142.out).2.2 | (with_reducible refine Kd.C_alloc ?_ _) | (with_reducible refine Kd.C_drewN ?_ _) | (with_reducible refine Kd.C_drew ?_))); (case side2 => exact (Kd.R_reads' HO142.out).2.1); rintro e w48 ⟨rfl, hb⟩; refine ⟨_, rfl, ?_⟩; have n0_ := Aside0.mk (Kd.R_below (by (with_reducible repeat (first | apply Kd.R_alloc | apply Kd.R_drewN | apply Kd.R_drew)); exact HO103.out) hb); have n1_ := Aside0.mk (Kd.R_below (by (with_reducible repeat (first | apply Kd.R_alloc | apply Kd.R_drewN | apply Kd.R_drew)); exact HO106.out) hb); have n2_ := Aside0.mk (Kd.R_below (by (with_reducible repeat (first | apply Kd.R_alloc | apply Kd.R_drewN | apply Kd.R_drew)); exact HO110.out) hb); have n3_ := Aside0.mk (Kd.N_below (by (with_reducible repeat (first | apply Kd.N_alloc | apply Kd.N_drewN | apply Kd.N_drew)); exact HO113.out) hb); have n4_ := Aside0.mk (Kd.R_below (by (with_reducible repeat (first | apply Kd.R_alloc | apply Kd.R_drewN | apply Kd.R_drew)); exact HO121.out) hb); have n5_ := Aside0.mk (Kd.N_below (by (with_reducible repeat (first | apply Kd.N_alloc | apply Kd.N_drewN | apply Kd.N_drew)); exact HO124.out) hb); have n6_ := Aside0.mk (Kd.R_below (by (with_reducible repeat (first | apply Kd.R_alloc | apply Kd.R_drewN | apply Kd.R_drew)); exact HO132.out) hb); have n7_ := Aside0.mk (Kd.R_below (by (with_reducible repeat (first | apply Kd.R_alloc | apply Kd.R_drewN | apply Kd.R_drew)); exact HO137.out) hb); have n8_ := Aside0.mk (Kd.R_below (by (with_reducible repeat (first | apply Kd.R_alloc | apply Kd.R_drewN | apply Kd.R_drew)); exact HO142.out) hb); have n9_ := Aside0.mk (blk_below (g := gb107) (o := .cells #[.int .i64 0, .slice Ao23 y101.length co23, .slice Ao22 y104.length co22, .slice none 0 0] 36 (0, 0)) (by (with_reducible repeat (first | refine blk_drewN ?_ _ | refine blk_drew ?_ | refine blk_alloc ?_ _)); exact BK107.out) hb); have n10_ := Aside0.mk (below_step (by repeat (first | (with_reducible first | exact HB.out | apply below_alloc | apply pw_below_drewN | apply below_drew1 | refine below_set ?_ GE107.out) | exact HB.out)) hb); clear HO103; clear HO106; clear HO110; clear HO113; clear HO121; clear HO124; clear HO132; clear HO137; clear HO142; clear BK107; clear HB; have HO103 := n0_; have HO106 := n1_; have HO110 := n2_; have HO113 := n3_; have HO121 := n4_; have HO124 := n5_; have HO132 := n6_; have HO137 := n7_; have HO142 := n8_; have BK107 := n9_; have HB := n10_; clear n0_ n1_ n2_ n3_ n4_ n5_ n6_ n7_ n8_ n9_ n10_; (try clear hb); (try clear hb2); (try clear hk); (try clear hi)))
                      go_ret
                      exact ⟨by first | rfl | (simp [errW_none, errW_some] <;> rfl) | (simp [*, errW_none, errW_some] <;> rfl), by repeat (first | (with_reducible first | exact HB.out | apply below_alloc | apply pw_below_drewN | apply below_drew1 | refine below_set ?_ GE107.out) | exact HB.out)⟩
                    · rw [if_neg c17] at H
                      exact absurd H (by simp)
                  · rw [if_neg c16] at H
                    exact absurd H (by simp)
                · rw [if_neg c15] at H
                  exact absurd H (by simp)
              · rw [if_neg c14] at H
                exact absurd H (by simp)
            · rw [if_neg c13] at H
              exact absurd H (by simp)
          · rw [if_neg c12] at H
            exact absurd H (by simp)
        · rw [if_neg c11] at H
          exact absurd H (by simp)
      · rw [if_neg c10] at H
        exact absurd H (by simp)
    · rw [if_neg c9] at H
      exact absurd H (by simp)
  · rw [if_neg c8] at H
    exact absurd H (by simp)
end Go.Proofs.YtbckpbiimknnnaaDoor.X
namespace Go.Proofs.YtbckpbiimknnnaaDoor.X
open Go.RowKit Go.Proofs.YtbckpbiimknnnaaDoorW.PrintWords Go.Proofs.YtbckpbiimknnnaaDoorW.PrintLast Go.Proofs.YtbckpbiimknnnaaDoorW.PrintMore
attribute [local go_sem] max2_int min2_int max_two min_two max_three min_three max_four min_four
set_option linter.unusedVariables false
set_option linter.unusedSimpArgs false
def shuntref20_Outside.l0 : Nat → List Int → Int → Option (Bool)
  | 0, _, _ => none
  | k + 1, x0, x3 => if x3 < (x0.length : Int) then (if 0 ≤ x3 then (if (rd x0 x3) > 2000000000000000000 then (some true) else (if (rd x0 x3) < (-2000000000000000000) then (some true) else (shuntref20_Outside.l0 k x0 (wrap64 (x3 + 1))))) else (none)) else (some false)
def shuntref20_Outside.f (k : Nat) (l0 : List Int) : Option (Bool) := shuntref20_Outside.l0 k l0 0
theorem shuntref20_Outside.mono_l : ∀ k, (∀ y0 y1, LeO (shuntref20_Outside.l0 k y0 y1) (shuntref20_Outside.l0 (k + 1) y0 y1))
  | 0 => fun _ _ r h => by simp [shuntref20_Outside.l0] at h
  | k + 1 => by
    have ih0 := shuntref20_Outside.mono_l k
    · intro y0 y1
      unfold shuntref20_Outside.l0
      repeat' first
      | (with_reducible exact ih0 _ _)
      | (with_reducible exact LeO.refl _)
      | (with_reducible exact LeO.none _)
      | (with_reducible refine LeO.ite ?_ ?_)
      | (with_reducible refine LeO.bind ?_ (fun _ => ?_))
      | exact ih0 _ _
      | exact LeO.none _
      | refine LeO.ite ?_ ?_
      | refine LeO.bind ?_ (fun _ => ?_)
theorem shuntref20_Outside.mono : ∀ a0 k, LeO (shuntref20_Outside.f k a0) (shuntref20_Outside.f (k + 1) a0) := by
  intro a0 k
  have ih0 := shuntref20_Outside.mono_l k
  unfold shuntref20_Outside.f
  repeat' first
      | (with_reducible exact ih0 _ _)
      | (with_reducible exact LeO.refl _)
      | (with_reducible exact LeO.none _)
      | (with_reducible refine LeO.ite ?_ ?_)
      | (with_reducible refine LeO.bind ?_ (fun _ => ?_))
      | exact ih0 _ _
      | exact LeO.none _
      | refine LeO.ite ?_ ?_
      | refine LeO.bind ?_ (fun _ => ?_)
set_option maxHeartbeats 8000000 in
set_option maxRecDepth 100000 in
theorem shuntref20_Outside.calls (k : Nat) (A0 : Option Addr) (c0 : Nat) (l0 : List Int) (r : Bool) (w : World) (hr0 : Kd.C (Kd.int .i64) w A0 l0.length l0) (hc0 : l0.length ≤ c0) (h : shuntref20_Outside.f k l0 = some r) :
    Calls Tryd.prog 6 #[.slice A0 l0.length c0] w fun e w' => e = .returned (.bool r) ∧ Drawn0 w w' := by
  have HR0 := Aside0.mk hr0
  have HC0 := Aside0.mk hc0
  clear hr0 hc0
  have H : (shuntref20_Outside.l0 k l0 0) = some r := h
  clear h
  have H' := Aside0.mk H
  clear H
  go_enter Tryd.func6, Tryd.ntmps6
  go_wp2
  go_loopg [3] k (fun kq v3 w' => ∃ (x3_1 : Int), v3 = .int .i64 x3_1 ∧ Aside0 (shuntref20_Outside.l0 kq l0 x3_1 = some r) ∧ Aside0 (kq ≤ k) ∧ Drawn0 w w')
  case atStart => exact ⟨(0), (by first | rfl | (simp; done) | (simp [*]; done)), H', ⟨Nat.le_refl _⟩, by repeat (first | exact Drawn0.refl _ | apply Drawn0.step)⟩
  case round =>
    clear H'
    obtain ⟨x3_1, rfl, HA, HK1, ⟨m1, rfl⟩⟩ := hrel
    cases gk with
    | zero => exact absurd HA.out (by simp [shuntref20_Outside.l0])
    | succ k1 =>
      have H := HA.out
      clear HA
      simp only [shuntref20_Outside.l0] at H
      by_cases c2 : x3_1 < (l0.length : Int)
      · rw [if_pos c2] at H
        have c2b0 : decide (x3_1 < (l0.length : Int)) = true := decide_eq_true c2
        clear c2
        by_cases c3 : 0 ≤ x3_1
        · rw [if_pos c3] at H
          have c3b0 : decide (0 ≤ x3_1) = true := decide_eq_true c3
          clear c3
          by_cases c4 : (rd l0 x3_1) > 2000000000000000000
          · rw [if_pos c4] at H
            have c4b0 : decide (2000000000000000000 < (rd l0 x3_1)) = true := decide_eq_true c4
            clear c4
            obtain rfl := Option.some.inj H
            have p101 : 0 ≤ (x3_1 : Int) := of_decide_eq_true (by first | (with_reducible assumption) | assumption)
            have q101 : x3_1 < (l0.length : Int) := of_decide_eq_true (by first | (with_reducible assumption) | assumption)
            obtain ⟨ad101, e101, hx101_0⟩ := Kd.at_int HR0.out x3_1 p101 q101
            cases e101
            replace p101 := eq_true p101
            replace q101 := eq_true q101
            go_wp2
            go_ret
            exact ⟨by first | rfl | (simp; done) | (simp [*]; done), by repeat (first | exact Drawn0.refl _ | apply Drawn0.step)⟩
          · rw [if_neg c4] at H
            have c4b0 : decide (2000000000000000000 < (rd l0 x3_1)) = false := decide_eq_false c4
            clear c4
            by_cases c5 : (rd l0 x3_1) < (-2000000000000000000)
            · rw [if_pos c5] at H
              have c5b0 : decide ((rd l0 x3_1) < (-2000000000000000000)) = true := decide_eq_true c5
              clear c5
              obtain rfl := Option.some.inj H
              have p101 : 0 ≤ (x3_1 : Int) := of_decide_eq_true (by first | (with_reducible assumption) | assumption)
              have q101 : x3_1 < (l0.length : Int) := of_decide_eq_true (by first | (with_reducible assumption) | assumption)
              obtain ⟨ad101, e101, hx101_0⟩ := Kd.at_int HR0.out x3_1 p101 q101
              cases e101
              replace p101 := eq_true p101
              replace q101 := eq_true q101
              have p102 : 0 ≤ (x3_1 : Int) := of_decide_eq_true (by first | (with_reducible assumption) | assumption)
              have q102 : x3_1 < (l0.length : Int) := of_decide_eq_true (by first | (with_reducible assumption) | assumption)
              obtain ⟨ad102, e102, hx102_0⟩ := Kd.at_int HR0.out x3_1 p102 q102
              obtain rfl : ad101 = ad102 := (by injection e102)
              replace p102 := eq_true p102
              replace q102 := eq_true q102
              go_wp2
              go_ret
              exact ⟨by first | rfl | (simp; done) | (simp [*]; done), by repeat (first | exact Drawn0.refl _ | apply Drawn0.step)⟩
            · rw [if_neg c5] at H
              have c5b0 : decide ((rd l0 x3_1) < (-2000000000000000000)) = false := decide_eq_false c5
              clear c5
              have H' := Aside0.mk H
              clear H
              have p101 : 0 ≤ (x3_1 : Int) := of_decide_eq_true (by first | (with_reducible assumption) | assumption)
              have q101 : x3_1 < (l0.length : Int) := of_decide_eq_true (by first | (with_reducible assumption) | assumption)
              obtain ⟨ad101, e101, hx101_0⟩ := Kd.at_int HR0.out x3_1 p101 q101
              cases e101
              replace p101 := eq_true p101
              replace q101 := eq_true q101
              have p102 : 0 ≤ (x3_1 : Int) := of_decide_eq_true (by first | (with_reducible assumption) | assumption)
              have q102 : x3_1 < (l0.length : Int) := of_decide_eq_true (by first | (with_reducible assumption) | assumption)
              obtain ⟨ad102, e102, hx102_0⟩ := Kd.at_int HR0.out x3_1 p102 q102
              obtain rfl : ad101 = ad102 := (by injection e102)
              replace p102 := eq_true p102
              replace q102 := eq_true q102
              go_wp2
              go_roundg k1
              case measure => have := HK1.out; omega
              case rel => exact ⟨(wrap64 (x3_1 + 1)), (by first | rfl | (simp; done) | (simp [*]; done)), H', ⟨by have := HK1.out; omega⟩, by repeat (first | exact Drawn0.refl _ | apply Drawn0.step)⟩
        · rw [if_neg c3] at H
          exact absurd H (by simp)
      · rw [if_neg c2] at H
        have c2b0 : decide (x3_1 < (l0.length : Int)) = false := decide_eq_false c2
        clear c2
        obtain rfl := Option.some.inj H
        go_wp2
        go_ret
        exact ⟨by first | rfl | (simp; done) | (simp [*]; done), by repeat (first | exact Drawn0.refl _ | apply Drawn0.step)⟩
end Go.Proofs.YtbckpbiimknnnaaDoor.X
namespace Go.Proofs.YtbckpbiimknnnaaDoor.X
open Go.RowKit Go.Proofs.YtbckpbiimknnnaaDoorW.PrintWords Go.Proofs.YtbckpbiimknnnaaDoorW.PrintLast Go.Proofs.YtbckpbiimknnnaaDoorW.PrintMore
attribute [local go_sem] max2_int min2_int max_two min_two max_three min_three max_four min_four
set_option linter.unusedVariables false
set_option linter.unusedSimpArgs false
mutual
def shuntlaw20_ProbeRises.j0 : Nat → List Int → Int → Bool → Option (Bool)
  | 0, _, _, _ => none
  | k + 1, x0, x1, x24 => if x24 = true then (some true) else (shuntlaw20_ProbeRises.l0 k x0 x1 0 1)
def shuntlaw20_ProbeRises.l0 : Nat → List Int → Int → Int → Int → Option (Bool)
  | 0, _, _, _, _ => none
  | k + 1, x0, x1, x5, x6 => if x6 ≤ (wrap64 ((x0.length : Int) + 1)) then ((probe_Rise.f k x0 x1 x6).bind fun bt107 => (if bt107.2 = 0 then (if bt107.1 ≤ x5 then (shuntlaw20_ProbeRises.j3 k x0 x1 x5 x6 bt107.1 true) else (if bt107.1 ≥ (x0.length : Int) then (shuntlaw20_ProbeRises.j3 k x0 x1 x5 x6 bt107.1 true) else (if 0 ≤ bt107.1 then (if bt107.1 < (x0.length : Int) then (if (rd x0 bt107.1) < x1 then (shuntlaw20_ProbeRises.j3 k x0 x1 x5 x6 bt107.1 true) else (if 0 ≤ (wrap64 (bt107.1 - 1)) then (if (wrap64 (bt107.1 - 1)) < (x0.length : Int) then (shuntlaw20_ProbeRises.j3 k x0 x1 x5 x6 bt107.1 (decide ((rd x0 (wrap64 (bt107.1 - 1))) ≥ x1))) else (none)) else (none))) else (none)) else (none)))) else (shuntlaw20_ProbeRises.l1 k x0 x1 bt107.1 bt107.2 (wrap64 (x5 + 1))))) else (some false)
def shuntlaw20_ProbeRises.j3 : Nat → List Int → Int → Int → Int → Int → Bool → Option (Bool)
  | 0, _, _, _, _, _, _ => none
  | k + 1, x0, x1, x5, x6, x7, x95 => if x95 = true then (some false) else (shuntlaw20_ProbeRises.l2 k x0 x1 x6 x7 (wrap64 (x5 + 1)))
def shuntlaw20_ProbeRises.l2 : Nat → List Int → Int → Int → Int → Int → Option (Bool)
  | 0, _, _, _, _, _ => none
  | k + 1, x0, x1, x6, x7, x10 => if x10 < x7 then (if 0 ≤ (wrap64 (x10 - 1)) then (if (wrap64 (x10 - 1)) < (x0.length : Int) then (if (rd x0 (wrap64 (x10 - 1))) < x1 then (if 0 ≤ x10 then (if x10 < (x0.length : Int) then (if (rd x0 x10) ≥ x1 then (some false) else (shuntlaw20_ProbeRises.l2 k x0 x1 x6 x7 (wrap64 (x10 + 1)))) else (none)) else (none)) else (shuntlaw20_ProbeRises.l2 k x0 x1 x6 x7 (wrap64 (x10 + 1)))) else (none)) else (none)) else (shuntlaw20_ProbeRises.l0 k x0 x1 x7 (wrap64 (x6 + 1)))
def shuntlaw20_ProbeRises.l1 : Nat → List Int → Int → Int → Int → Int → Option (Bool)
  | 0, _, _, _, _, _ => none
  | k + 1, x0, x1, x7, x8, x9 => if x9 < (x0.length : Int) then (if 0 ≤ (wrap64 (x9 - 1)) then (if (wrap64 (x9 - 1)) < (x0.length : Int) then (if (rd x0 (wrap64 (x9 - 1))) < x1 then (if 0 ≤ x9 then (if (rd x0 x9) ≥ x1 then (some false) else (shuntlaw20_ProbeRises.l1 k x0 x1 x7 x8 (wrap64 (x9 + 1)))) else (none)) else (shuntlaw20_ProbeRises.l1 k x0 x1 x7 x8 (wrap64 (x9 + 1)))) else (none)) else (none)) else (if x8 = 6 then (some (x7 == 0)) else (some false))
end
def shuntlaw20_ProbeRises.f (k : Nat) (l0 : List Int) (a1 : Int) : Option (Bool) := (shuntlaw20_awake.f k).bind fun t101 => (if t101 = true then (if (l0.length : Int) > 60 then (shuntlaw20_ProbeRises.j0 k l0 a1 true) else ((shuntref20_Outside.f k l0).bind fun t102 => (if t102 = true then (shuntlaw20_ProbeRises.j0 k l0 a1 true) else ((shuntref20_Outside.f k (([a1] : List Int))).bind fun t106 => (shuntlaw20_ProbeRises.j0 k l0 a1 t106))))) else (none))
theorem shuntlaw20_ProbeRises.mono_l : ∀ k, (∀ y0 y1 y2, LeO (shuntlaw20_ProbeRises.j0 k y0 y1 y2) (shuntlaw20_ProbeRises.j0 (k + 1) y0 y1 y2)) ∧ (∀ y0 y1 y2 y3, LeO (shuntlaw20_ProbeRises.l0 k y0 y1 y2 y3) (shuntlaw20_ProbeRises.l0 (k + 1) y0 y1 y2 y3)) ∧ (∀ y0 y1 y2 y3 y4 y5, LeO (shuntlaw20_ProbeRises.j3 k y0 y1 y2 y3 y4 y5) (shuntlaw20_ProbeRises.j3 (k + 1) y0 y1 y2 y3 y4 y5)) ∧ (∀ y0 y1 y2 y3 y4, LeO (shuntlaw20_ProbeRises.l2 k y0 y1 y2 y3 y4) (shuntlaw20_ProbeRises.l2 (k + 1) y0 y1 y2 y3 y4)) ∧ (∀ y0 y1 y2 y3 y4, LeO (shuntlaw20_ProbeRises.l1 k y0 y1 y2 y3 y4) (shuntlaw20_ProbeRises.l1 (k + 1) y0 y1 y2 y3 y4))
  | 0 => ⟨fun _ _ _ r h => by simp [shuntlaw20_ProbeRises.j0] at h, fun _ _ _ _ r h => by simp [shuntlaw20_ProbeRises.l0] at h, fun _ _ _ _ _ _ r h => by simp [shuntlaw20_ProbeRises.j3] at h, fun _ _ _ _ _ r h => by simp [shuntlaw20_ProbeRises.l2] at h, fun _ _ _ _ _ r h => by simp [shuntlaw20_ProbeRises.l1] at h⟩
  | k + 1 => by
    obtain ⟨ih0, ih1, ih2, ih3, ih4⟩ := shuntlaw20_ProbeRises.mono_l k
    refine ⟨?_, ?_, ?_, ?_, ?_⟩
    · intro y0 y1 y2
      unfold shuntlaw20_ProbeRises.j0
      repeat' first
      | (with_reducible exact ih0 _ _ _)
      | (with_reducible exact ih1 _ _ _ _)
      | (with_reducible exact ih2 _ _ _ _ _ _)
      | (with_reducible exact ih3 _ _ _ _ _)
      | (with_reducible exact ih4 _ _ _ _ _)
      | (with_reducible exact probe_Rise.mono _ _ _ _)
      | (with_reducible exact shuntlaw20_awake.mono _)
      | (with_reducible exact shuntref20_Outside.mono _ _)
      | (with_reducible exact LeO.refl _)
      | (with_reducible exact LeO.none _)
      | (with_reducible refine LeO.ite ?_ ?_)
      | (with_reducible refine LeO.bind ?_ (fun _ => ?_))
      | exact ih0 _ _ _
      | exact ih1 _ _ _ _
      | exact ih2 _ _ _ _ _ _
      | exact ih3 _ _ _ _ _
      | exact ih4 _ _ _ _ _
      | exact probe_Rise.mono _ _ _ _
      | exact shuntlaw20_awake.mono _
      | exact shuntref20_Outside.mono _ _
      | exact LeO.none _
      | refine LeO.ite ?_ ?_
      | refine LeO.bind ?_ (fun _ => ?_)
    · intro y0 y1 y2 y3
      unfold shuntlaw20_ProbeRises.l0
      repeat' first
      | (with_reducible exact ih0 _ _ _)
      | (with_reducible exact ih1 _ _ _ _)
      | (with_reducible exact ih2 _ _ _ _ _ _)
      | (with_reducible exact ih3 _ _ _ _ _)
      | (with_reducible exact ih4 _ _ _ _ _)
      | (with_reducible exact probe_Rise.mono _ _ _ _)
      | (with_reducible exact shuntlaw20_awake.mono _)
      | (with_reducible exact shuntref20_Outside.mono _ _)
      | (with_reducible exact LeO.refl _)
      | (with_reducible exact LeO.none _)
      | (with_reducible refine LeO.ite ?_ ?_)
      | (with_reducible refine LeO.bind ?_ (fun _ => ?_))
      | exact ih0 _ _ _
      | exact ih1 _ _ _ _
      | exact ih2 _ _ _ _ _ _
      | exact ih3 _ _ _ _ _
      | exact ih4 _ _ _ _ _
      | exact probe_Rise.mono _ _ _ _
      | exact shuntlaw20_awake.mono _
      | exact shuntref20_Outside.mono _ _
      | exact LeO.none _
      | refine LeO.ite ?_ ?_
      | refine LeO.bind ?_ (fun _ => ?_)
    · intro y0 y1 y2 y3 y4 y5
      unfold shuntlaw20_ProbeRises.j3
      repeat' first
      | (with_reducible exact ih0 _ _ _)
      | (with_reducible exact ih1 _ _ _ _)
      | (with_reducible exact ih2 _ _ _ _ _ _)
      | (with_reducible exact ih3 _ _ _ _ _)
      | (with_reducible exact ih4 _ _ _ _ _)
      | (with_reducible exact probe_Rise.mono _ _ _ _)
      | (with_reducible exact shuntlaw20_awake.mono _)
      | (with_reducible exact shuntref20_Outside.mono _ _)
      | (with_reducible exact LeO.refl _)
      | (with_reducible exact LeO.none _)
      | (with_reducible refine LeO.ite ?_ ?_)
      | (with_reducible refine LeO.bind ?_ (fun _ => ?_))
      | exact ih0 _ _ _
      | exact ih1 _ _ _ _
      | exact ih2 _ _ _ _ _ _
      | exact ih3 _ _ _ _ _
      | exact ih4 _ _ _ _ _
      | exact probe_Rise.mono _ _ _ _
      | exact shuntlaw20_awake.mono _
      | exact shuntref20_Outside.mono _ _
      | exact LeO.none _
      | refine LeO.ite ?_ ?_
      | refine LeO.bind ?_ (fun _ => ?_)
    · intro y0 y1 y2 y3 y4
      unfold shuntlaw20_ProbeRises.l2
      repeat' first
      | (with_reducible exact ih0 _ _ _)
      | (with_reducible exact ih1 _ _ _ _)
      | (with_reducible exact ih2 _ _ _ _ _ _)
      | (with_reducible exact ih3 _ _ _ _ _)
      | (with_reducible exact ih4 _ _ _ _ _)
      | (with_reducible exact probe_Rise.mono _ _ _ _)
      | (with_reducible exact shuntlaw20_awake.mono _)
      | (with_reducible exact shuntref20_Outside.mono _ _)
      | (with_reducible exact LeO.refl _)
      | (with_reducible exact LeO.none _)
      | (with_reducible refine LeO.ite ?_ ?_)
      | (with_reducible refine LeO.bind ?_ (fun _ => ?_))
      | exact ih0 _ _ _
      | exact ih1 _ _ _ _
      | exact ih2 _ _ _ _ _ _
      | exact ih3 _ _ _ _ _
      | exact ih4 _ _ _ _ _
      | exact probe_Rise.mono _ _ _ _
      | exact shuntlaw20_awake.mono _
      | exact shuntref20_Outside.mono _ _
      | exact LeO.none _
      | refine LeO.ite ?_ ?_
      | refine LeO.bind ?_ (fun _ => ?_)
    · intro y0 y1 y2 y3 y4
      unfold shuntlaw20_ProbeRises.l1
      repeat' first
      | (with_reducible exact ih0 _ _ _)
      | (with_reducible exact ih1 _ _ _ _)
      | (with_reducible exact ih2 _ _ _ _ _ _)
      | (with_reducible exact ih3 _ _ _ _ _)
      | (with_reducible exact ih4 _ _ _ _ _)
      | (with_reducible exact probe_Rise.mono _ _ _ _)
      | (with_reducible exact shuntlaw20_awake.mono _)
      | (with_reducible exact shuntref20_Outside.mono _ _)
      | (with_reducible exact LeO.refl _)
      | (with_reducible exact LeO.none _)
      | (with_reducible refine LeO.ite ?_ ?_)
      | (with_reducible refine LeO.bind ?_ (fun _ => ?_))
      | exact ih0 _ _ _
      | exact ih1 _ _ _ _
      | exact ih2 _ _ _ _ _ _
      | exact ih3 _ _ _ _ _
      | exact ih4 _ _ _ _ _
      | exact probe_Rise.mono _ _ _ _
      | exact shuntlaw20_awake.mono _
      | exact shuntref20_Outside.mono _ _
      | exact LeO.none _
      | refine LeO.ite ?_ ?_
      | refine LeO.bind ?_ (fun _ => ?_)
theorem shuntlaw20_ProbeRises.mono : ∀ a0 a1 k, LeO (shuntlaw20_ProbeRises.f k a0 a1) (shuntlaw20_ProbeRises.f (k + 1) a0 a1) := by
  intro a0 a1 k
  obtain ⟨ih0, ih1, ih2, ih3, ih4⟩ := shuntlaw20_ProbeRises.mono_l k
  unfold shuntlaw20_ProbeRises.f
  repeat' first
      | (with_reducible exact ih0 _ _ _)
      | (with_reducible exact ih1 _ _ _ _)
      | (with_reducible exact ih2 _ _ _ _ _ _)
      | (with_reducible exact ih3 _ _ _ _ _)
      | (with_reducible exact ih4 _ _ _ _ _)
      | (with_reducible exact probe_Rise.mono _ _ _ _)
      | (with_reducible exact shuntlaw20_awake.mono _)
      | (with_reducible exact shuntref20_Outside.mono _ _)
      | (with_reducible exact LeO.refl _)
      | (with_reducible exact LeO.none _)
      | (with_reducible refine LeO.ite ?_ ?_)
      | (with_reducible refine LeO.bind ?_ (fun _ => ?_))
      | exact ih0 _ _ _
      | exact ih1 _ _ _ _
      | exact ih2 _ _ _ _ _ _
      | exact ih3 _ _ _ _ _
      | exact ih4 _ _ _ _ _
      | exact probe_Rise.mono _ _ _ _
      | exact shuntlaw20_awake.mono _
      | exact shuntref20_Outside.mono _ _
      | exact LeO.none _
      | refine LeO.ite ?_ ?_
      | refine LeO.bind ?_ (fun _ => ?_)
set_option maxHeartbeats 8000000 in
set_option maxRecDepth 100000 in
theorem shuntlaw20_ProbeRises.calls (k : Nat) (A0 : Option Addr) (c0 : Nat) (l0 : List Int) (a1 : Int) (r : Bool) (w : World) (hr0 : Kd.C (Kd.int .i64) w A0 l0.length l0) (hc0 : l0.length ≤ c0) (h : shuntlaw20_ProbeRises.f k l0 a1 = some r) :
    Calls Tryd.prog 4 #[.slice A0 l0.length c0, .int .i64 a1] w fun e w' => e = .returned (.bool r) ∧ Below w.heap.size w w' := by
  have HR0 := Aside0.mk hr0
  have HC0 := Aside0.mk hc0
  clear hr0 hc0
  have HB := Aside0.mk (Below.refl w.heap.size w)
  have H : ((shuntlaw20_awake.f k).bind fun t101 => (if t101 = true then (if (l0.length : Int) > 60 then (shuntlaw20_ProbeRises.j0 k l0 a1 true) else ((shuntref20_Outside.f k l0).bind fun t102 => (if t102 = true then (shuntlaw20_ProbeRises.j0 k l0 a1 true) else ((shuntref20_Outside.f k (([a1] : List Int))).bind fun t106 => (shuntlaw20_ProbeRises.j0 k l0 a1 t106))))) else (none))) = some r := h
  clear h
  replace H := Option.bind_eq_some_iff.mp H
  obtain ⟨t101, A30, H⟩ := H
  replace H : (if t101 = true then (if (l0.length : Int) > 60 then (shuntlaw20_ProbeRises.j0 k l0 a1 true) else ((shuntref20_Outside.f k l0).bind fun t102 => (if t102 = true then (shuntlaw20_ProbeRises.j0 k l0 a1 true) else ((shuntref20_Outside.f k (([a1] : List Int))).bind fun t106 => (shuntlaw20_ProbeRises.j0 k l0 a1 t106))))) else (none)) = some r := H
  have A3 := Aside0.mk A30
  clear A30
  by_cases c4 : t101 = true
  · subst c4
    have H1 : (if (l0.length : Int) > 60 then (shuntlaw20_ProbeRises.j0 k l0 a1 true) else ((shuntref20_Outside.f k l0).bind fun t102 => (if t102 = true then (shuntlaw20_ProbeRises.j0 k l0 a1 true) else ((shuntref20_Outside.f k (([a1] : List Int))).bind fun t106 => (shuntlaw20_ProbeRises.j0 k l0 a1 t106))))) = some r := by rw [if_pos rfl] at H; exact H
    clear H
    have H := H1
    clear H1
    have HC5 := Aside0.mk H
    clear H
    go_enter Tryd.func4, Tryd.ntmps4
    go_upto_region 3 with (first | ((with_reducible refine gate_callee (f := 5) rfl ?_); refine goesL_ (some 11) rfl rfl Tryd.func5 (by kernel_rfl) rfl #[] rfl (by (try simp only [List.map_toArray, List.map_cons, List.map_nil]); first | done | rfl | (simp only [List.length_drop, List.length_take]; rfl)) ?_; (with_reducible refine (shuntlaw20_awake.calls k  true _ A3.out).mono ?_); rintro e w6 ⟨rfl, hb⟩; refine ⟨_, rfl, ?_⟩; have n0_ := Aside0.mk (below_step (by repeat (first | (with_reducible first | exact HB.out | apply below_alloc | apply pw_below_drewN | apply below_drew1) | exact HB.out)) hb); clear HB; have HB := n0_; clear n0_; (try clear hb); (try clear hb2); (try clear hk); (try clear hi)))
    (try simp only [Act.put, List.setIfInBounds_toArray, List.set_cons_zero, List.set_cons_succ])
    go_cut [24] (fun v24 wc => ∃ (kq : Nat) (x24_4 : Bool), v24 = .bool x24_4 ∧ Aside0 (shuntlaw20_ProbeRises.j0 kq l0 a1 x24_4 = some r) ∧ Aside0 (kq ≤ k) ∧ Aside0 (Below w.heap.size w wc))
    case first =>
      have H := HC5.out
      clear HC5
      by_cases c7 : (l0.length : Int) > 60
      · rw [if_pos c7] at H
        have c7b0 : decide (60 < (l0.length : Int)) = true := decide_eq_true c7
        have c7b1 : decide (60 < l0.length) = true := decide_eq_true (by omega)
        clear c7
        (first | rw [c7b0] | (simp only [i64_w, i32_w]; rw [c7b0]) | skip)
        have H' := Aside0.mk H
        clear H
        go_wp2
        go_meet
        case rel => exact ⟨_, (true), (by first | rfl | (simp; done) | (simp [*]; done)), H', ⟨by first | omega | exact Nat.le_refl _⟩, ⟨by repeat (first | (with_reducible first | exact HB.out | apply below_alloc | apply pw_below_drewN | apply below_drew1) | exact HB.out)⟩⟩
      · rw [if_neg c7] at H
        have c7b0 : decide (60 < (l0.length : Int)) = false := decide_eq_false c7
        have c7b1 : decide (60 < l0.length) = false := decide_eq_false (by omega)
        clear c7
        (first | rw [c7b0] | (simp only [i64_w, i32_w]; rw [c7b0]) | skip)
        replace H := Option.bind_eq_some_iff.mp H
        obtain ⟨t102, A80, H⟩ := H
        replace H : (if t102 = true then (shuntlaw20_ProbeRises.j0 k l0 a1 true) else ((shuntref20_Outside.f k (([a1] : List Int))).bind fun t106 => (shuntlaw20_ProbeRises.j0 k l0 a1 t106))) = some r := H
        have A8 := Aside0.mk A80
        clear A80
        by_cases c9 : t102 = true
        · subst c9
          have H1 : (shuntlaw20_ProbeRises.j0 k l0 a1 true) = some r := by rw [if_pos rfl] at H; exact H
          clear H
          have H := H1
          clear H1
          have H' := Aside0.mk H
          clear H
          go_wp2_with (first | (go_at_call 6; (with_reducible refine (shuntref20_Outside.calls k _ _ l0 true _ ?side1 ?side2 A8.out).mono ?_); (case side1 => repeat (first | exact (Kd.C_below HR0.out HB.out) | (with_reducible refine Kd.C_alloc ?_ _) | (with_reducible refine Kd.C_drewN ?_ _) | (with_reducible refine Kd.C_drew ?_))); (case side2 => exact HC0.out); rintro e w' ⟨rfl, ⟨nd, rfl⟩⟩))
          go_meet
          case rel => exact ⟨_, (true), (by first | rfl | (simp; done) | (simp [*]; done)), H', ⟨by first | omega | exact Nat.le_refl _⟩, ⟨by repeat (first | (with_reducible first | exact HB.out | apply below_alloc | apply pw_below_drewN | apply below_drew1) | exact HB.out)⟩⟩
        · replace c9 := Bool.eq_false_iff.mpr c9
          subst c9
          have H1 : ((shuntref20_Outside.f k (([a1] : List Int))).bind fun t106 => (shuntlaw20_ProbeRises.j0 k l0 a1 t106)) = some r := by rw [if_neg (show ¬ (false = true) by decide)] at H; exact H
          clear H
          have H := H1
          clear H1
          obtain ⟨y103, hy103⟩ : ∃ y_ : List Int, y_ = (([a1] : List Int)) := ⟨_, rfl⟩
          replace H : ((shuntref20_Outside.f k y103).bind fun t106 => (shuntlaw20_ProbeRises.j0 k l0 a1 t106)) = some r := by first | (rw [hy103]; with_reducible exact H) | (have H2_ := (Option.bind_some _ _).symm.trans H; rw [hy103]; with_reducible exact H2_) | (have H2_ := (Option.bind_some _ _).symm.trans H; with_reducible exact H2_) | with_reducible exact H | (rw [hy103]; exact H) | exact H
          have Ny103 := Aside0.mk hy103
          clear hy103
          replace H := Option.bind_eq_some_iff.mp H
          obtain ⟨t106, A100, H⟩ := H
          replace H : (shuntlaw20_ProbeRises.j0 k l0 a1 t106) = some r := H
          have A10 := Aside0.mk A100
          clear A100
          have H' := Aside0.mk H
          clear H
          go_wp2_with (first | (go_at_call 6; (with_reducible refine (shuntref20_Outside.calls k _ _ l0 false _ ?side1 ?side2 A8.out).mono ?_); (case side1 => repeat (first | exact (Kd.C_below HR0.out HB.out) | (with_reducible refine Kd.C_alloc ?_ _) | (with_reducible refine Kd.C_drewN ?_ _) | (with_reducible refine Kd.C_drew ?_))); (case side2 => exact HC0.out); rintro e w' ⟨rfl, ⟨nd, rfl⟩⟩) | ((with_reducible refine gate_dst (N := 22) rfl ?_); (try (refine gate_guard (by rfl) ?_; dsimp only)); refine Kd.R_lit (Kd.int .i64) _ 2 ?hg (N := 22) ?hd (xs := ([a1] : List Int)) (inner := [.int .i64 a1]) (ok := fun _ => True) (okp := fun _ => True) ?hr ?hp (fun _ hk => hk) trivial (Below.refl _ _) (Nat.le_refl _) (by simp) ?_; (case hd => rfl); (case hg => rfl); (case hr => first | (go_simp; done) | (go_simp; rfl)); (case hp => exact (Reps.one (show Kd.M (Kd.int .i64) _ _ _ a1 [.int .i64 a1] from rfl) (Reps.none _ _))); intro v104 w11 ho12 hb hg_ hnew_; clear hg_ hnew_; (first | rw [← Ny103.out] at ho12 | (simp only [Int.reduceToNat] at ho12; rw [← Ny103.out] at ho12)); have n0_ := Aside0.mk (Kd.R_lower ho12 (below_size (by repeat (first | (with_reducible first | exact HB.out | apply below_alloc | apply pw_below_drewN | apply below_drew1) | exact HB.out)))); have n1_ := Aside0.mk (below_step (by repeat (first | (with_reducible first | exact HB.out | apply below_alloc | apply pw_below_drewN | apply below_drew1) | exact HB.out)) hb); clear HB; have HO105 := n0_; have HB := n1_; clear n0_ n1_; clear hb ho12; obtain ⟨Ao13, co13, eo13⟩ := Kd.R_slice HO105.out; subst eo13) | (go_at_call 6; (with_reducible refine (shuntref20_Outside.calls k _ _ y103 t106 _ ?side1 ?side2 A10.out).mono ?_); (case side1 => repeat (first | exact (Kd.R_reads' HO105.out).2.2 | (with_reducible refine Kd.C_alloc ?_ _) | (with_reducible refine Kd.C_drewN ?_ _) | (with_reducible refine Kd.C_drew ?_))); (case side2 => exact (Kd.R_reads' HO105.out).2.1); rintro e w' ⟨rfl, ⟨nd, rfl⟩⟩))
          go_meet
          case rel => exact ⟨_, (t106), (by first | rfl | (simp; done) | (simp [*]; done)), H', ⟨by first | omega | exact Nat.le_refl _⟩, ⟨by repeat (first | (with_reducible first | exact HB.out | apply below_alloc | apply pw_below_drewN | apply below_drew1) | exact HB.out)⟩⟩
    case rest =>
      clear HC5
      try clear p2; try clear c4; try clear c5; try clear c7; try clear c7b0; try clear c7b1; try clear c9
      obtain ⟨kq, x24_4, rfl, HA, HJ4, HB⟩ := hcut
      cases kq with
      | zero => exact absurd HA.out (by simp [shuntlaw20_ProbeRises.j0])
      | succ kj4 =>
        have H := HA.out
        clear HA
        simp only [shuntlaw20_ProbeRises.j0] at H
        by_cases c14 : x24_4 = true
        · subst c14
          have H1 : (some true) = some r := by rw [if_pos rfl] at H; exact H
          clear H
          have H := H1
          clear H1
          obtain rfl := Option.some.inj H
          go_wp2
          go_ret
          exact ⟨by first | rfl | (simp [errW_none, errW_some] <;> rfl) | (simp [*, errW_none, errW_some] <;> rfl), by repeat (first | (with_reducible first | exact HB.out | apply below_alloc | apply pw_below_drewN | apply below_drew1) | exact HB.out)⟩
        · replace c14 := Bool.eq_false_iff.mpr c14
          subst c14
          have H1 : (shuntlaw20_ProbeRises.l0 kj4 l0 a1 0 1) = some r := by rw [if_neg (show ¬ (false = true) by decide)] at H; exact H
          clear H
          have H := H1
          clear H1
          have H' := Aside0.mk H
          clear H
          go_wp2
          go_loopg [5, 6] kj4 (fun kq v5 v6 w' => ∃ (x5_2 : Int) (x6_2 : Int), v5 = .int .i64 x5_2 ∧ v6 = .int .i64 x6_2 ∧ Aside0 (shuntlaw20_ProbeRises.l0 kq l0 a1 x5_2 x6_2 = some r) ∧ Aside0 (kq ≤ kj4) ∧ Aside0 (Below w.heap.size w w'))
          case atStart => exact ⟨(0), (1), (by first | rfl | (simp; done) | (simp [*]; done)), (by first | rfl | (simp; done) | (simp [*]; done)), H', ⟨Nat.le_refl _⟩, ⟨by repeat (first | (with_reducible first | exact HB.out | apply below_alloc | apply pw_below_drewN | apply below_drew1) | exact HB.out)⟩⟩
          case round =>
            clear H'
            try clear c1; try clear p2; try clear c4; try clear c5; try clear c7; try clear c7b0; try clear c7b1; try clear c9; try clear c14; try clear p2
            obtain ⟨x5_2, x6_2, rfl, rfl, HA, HK2, HB⟩ := hrel
            cases gk with
            | zero => exact absurd HA.out (by simp [shuntlaw20_ProbeRises.l0])
            | succ k2 =>
              have H := HA.out
              clear HA
              simp only [shuntlaw20_ProbeRises.l0] at H
              by_cases c15 : x6_2 ≤ (wrap64 ((l0.length : Int) + 1))
              · rw [if_pos c15] at H
                have c15b0 : decide (x6_2 ≤ (wrap64 ((l0.length : Int) + 1))) = true := decide_eq_true c15
                clear c15
                replace H := Option.bind_eq_some_iff.mp H
                obtain ⟨⟨t107, t108⟩, A160, H⟩ := H
                replace H : (if t108 = 0 then (if t107 ≤ x5_2 then (shuntlaw20_ProbeRises.j3 k2 l0 a1 x5_2 x6_2 t107 true) else (if t107 ≥ (l0.length : Int) then (shuntlaw20_ProbeRises.j3 k2 l0 a1 x5_2 x6_2 t107 true) else (if 0 ≤ t107 then (if t107 < (l0.length : Int) then (if (rd l0 t107) < a1 then (shuntlaw20_ProbeRises.j3 k2 l0 a1 x5_2 x6_2 t107 true) else (if 0 ≤ (wrap64 (t107 - 1)) then (if (wrap64 (t107 - 1)) < (l0.length : Int) then (shuntlaw20_ProbeRises.j3 k2 l0 a1 x5_2 x6_2 t107 (decide ((rd l0 (wrap64 (t107 - 1))) ≥ a1))) else (none)) else (none))) else (none)) else (none)))) else (shuntlaw20_ProbeRises.l1 k2 l0 a1 t107 t108 (wrap64 (x5_2 + 1)))) = some r := H
                have A16 := Aside0.mk A160
                clear A160
                by_cases c17 : t108 = 0
                · rw [if_pos c17] at H
                  have c17b0 : (t108 == 0) = true := beq_iff_eq.mpr c17
                  have c17b1 : (t108 != 0) = false := bne_eq_false_iff_eq.mpr c17
                  clear c17
                  have HC18 := Aside0.mk H
                  clear H
                  go_upto_region 17 with (first | ((with_reducible refine gate_callee (f := 9) rfl ?_); refine goesL_ (some 36) rfl rfl Tryd.func9 (by kernel_rfl) rfl #[.slice A0 l0.length c0, .int .i64 a1, .int .i64 x6_2] rfl (by (try simp only [List.map_toArray, List.map_cons, List.map_nil]); first | done | rfl | (simp only [List.length_drop, List.length_take]; rfl)) ?_; (with_reducible refine (probe_Rise.calls k2 _ _ l0 a1 x6_2 t107 t108 _ ?side1 ?side2 A16.out).mono ?_); (case side1 => repeat (first | exact (Kd.C_below HR0.out HB.out) | (with_reducible refine Kd.C_alloc ?_ _) | (with_reducible refine Kd.C_drewN ?_ _) | (with_reducible refine Kd.C_drew ?_))); (case side2 => exact HC0.out); rintro e w19 ⟨rfl, hb⟩; refine ⟨_, rfl, ?_⟩; have n0_ := Aside0.mk (below_step (by repeat (first | (with_reducible first | exact HB.out | apply below_alloc | apply pw_below_drewN | apply below_drew1) | exact HB.out)) hb); clear HB; have HB := n0_; clear n0_; (try clear hb); (try clear hb2); (try clear hk); (try clear hi)))
                  (try simp only [Act.put, List.setIfInBounds_toArray, List.set_cons_zero, List.set_cons_succ])
                  go_cut [95] (fun v95 wc => ∃ (kq : Nat) (x95_17 : Bool), v95 = .bool x95_17 ∧ Aside0 (shuntlaw20_ProbeRises.j3 kq l0 a1 x5_2 x6_2 t107 x95_17 = some r) ∧ Aside0 (kq ≤ k2) ∧ Aside0 (Below w.heap.size w wc))
                  case first =>
                    have H := HC18.out
                    clear HC18
                    by_cases c20 : t107 ≤ x5_2
                    · rw [if_pos c20] at H
                      have c20b0 : decide (t107 ≤ x5_2) = true := decide_eq_true c20
                      clear c20
                      (first | rw [c20b0] | (simp only [i64_w, i32_w]; rw [c20b0]) | skip)
                      have H' := Aside0.mk H
                      clear H
                      go_wp2
                      go_meet
                      case rel => exact ⟨_, (true), (by first | rfl | (simp; done) | (simp [*]; done)), H', ⟨by have := HJ4.out; have := HK2.out; first | omega | exact Nat.le_refl _⟩, ⟨by repeat (first | (with_reducible first | exact HB.out | apply below_alloc | apply pw_below_drewN | apply below_drew1) | exact HB.out)⟩⟩
                    · rw [if_neg c20] at H
                      have c20b0 : decide (t107 ≤ x5_2) = false := decide_eq_false c20
                      clear c20
                      (first | rw [c20b0] | (simp only [i64_w, i32_w]; rw [c20b0]) | skip)
                      by_cases c21 : t107 ≥ (l0.length : Int)
                      · rw [if_pos c21] at H
                        have c21b0 : decide ((l0.length : Int) ≤ t107) = true := decide_eq_true c21
                        clear c21
                        have H' := Aside0.mk H
                        clear H
                        go_wp2
                        go_meet
                        case rel => exact ⟨_, (true), (by first | rfl | (simp; done) | (simp [*]; done)), H', ⟨by have := HJ4.out; have := HK2.out; first | omega | exact Nat.le_refl _⟩, ⟨by repeat (first | (with_reducible first | exact HB.out | apply below_alloc | apply pw_below_drewN | apply below_drew1) | exact HB.out)⟩⟩
                      · rw [if_neg c21] at H
                        have c21b0 : decide ((l0.length : Int) ≤ t107) = false := decide_eq_false c21
                        clear c21
                        by_cases c22 : 0 ≤ t107
                        · rw [if_pos c22] at H
                          have c22b0 : decide (0 ≤ t107) = true := decide_eq_true c22
                          clear c22
                          by_cases c23 : t107 < (l0.length : Int)
                          · rw [if_pos c23] at H
                            have c23b0 : decide (t107 < (l0.length : Int)) = true := decide_eq_true c23
                            clear c23
                            by_cases c24 : (rd l0 t107) < a1
                            · rw [if_pos c24] at H
                              have c24b0 : decide ((rd l0 t107) < a1) = true := decide_eq_true c24
                              clear c24
                              have H' := Aside0.mk H
                              clear H
                              have p111 : 0 ≤ (t107 : Int) := of_decide_eq_true (by first | (with_reducible assumption) | assumption)
                              have q111 : t107 < (l0.length : Int) := of_decide_eq_true (by first | (with_reducible assumption) | assumption)
                              obtain ⟨ad111, e111, hx111_0⟩ := Kd.at_int HR0.out t107 p111 q111
                              cases e111
                              replace hx111_0 := (HB.out.cell (World.block_lt_of_cell? w _ hx111_0)).trans hx111_0
                              replace p111 := eq_true p111
                              replace q111 := eq_true q111
                              go_wp2
                              go_meet
                              case rel => exact ⟨_, (true), (by first | rfl | (simp; done) | (simp [*]; done)), H', ⟨by have := HJ4.out; have := HK2.out; first | omega | exact Nat.le_refl _⟩, ⟨by repeat (first | (with_reducible first | exact HB.out | apply below_alloc | apply pw_below_drewN | apply below_drew1) | exact HB.out)⟩⟩
                            · rw [if_neg c24] at H
                              have c24b0 : decide ((rd l0 t107) < a1) = false := decide_eq_false c24
                              clear c24
                              obtain ⟨ji25, hji25⟩ : ∃ j_ : Int, (wrap64 (t107 - 1)) = j_ := ⟨_, rfl⟩
                              replace H : (if 0 ≤ (ji25) then (if (ji25) < (l0.length : Int) then (shuntlaw20_ProbeRises.j3 k2 l0 a1 x5_2 x6_2 t107 (decide ((rd l0 (ji25)) ≥ a1))) else (none)) else (none)) = some r := by first | (rw [hji25] at H; exact H) | (simp only [hji25] at H ⊢; exact H)
                              have hji25w : (IntKind.i64.wrap (t107 - 1)) = ji25 := (i64_w _).trans hji25
                              by_cases c26 : 0 ≤ (ji25)
                              · rw [if_pos c26] at H
                                have c26b0 : decide (0 ≤ (ji25)) = true := decide_eq_true c26
                                clear c26
                                by_cases c27 : (ji25) < (l0.length : Int)
                                · rw [if_pos c27] at H
                                  have c27b0 : decide ((ji25) < (l0.length : Int)) = true := decide_eq_true c27
                                  clear c27
                                  have H' := Aside0.mk H
                                  clear H
                                  have p111 : 0 ≤ (t107 : Int) := of_decide_eq_true (by first | (with_reducible assumption) | assumption)
                                  have q111 : t107 < (l0.length : Int) := of_decide_eq_true (by first | (with_reducible assumption) | assumption)
                                  obtain ⟨ad111, e111, hx111_0⟩ := Kd.at_int HR0.out t107 p111 q111
                                  cases e111
                                  replace hx111_0 := (HB.out.cell (World.block_lt_of_cell? w _ hx111_0)).trans hx111_0
                                  replace p111 := eq_true p111
                                  replace q111 := eq_true q111
                                  have p112 : 0 ≤ ((ji25) : Int) := of_decide_eq_true (by first | (with_reducible assumption) | assumption)
                                  have q112 : (ji25) < (l0.length : Int) := of_decide_eq_true (by first | (with_reducible assumption) | assumption)
                                  obtain ⟨ad112, e112, hx112_0⟩ := Kd.at_int HR0.out (ji25) p112 q112
                                  obtain rfl : ad111 = ad112 := (by injection e112)
                                  replace hx112_0 := (HB.out.cell (World.block_lt_of_cell? w _ hx112_0)).trans hx112_0
                                  replace p112 := eq_true p112
                                  replace q112 := eq_true q112
                                  go_wp2
                                  go_meet
                                  case rel => exact ⟨_, (decide ((rd l0 (ji25)) ≥ a1)), (by first | rfl | (simp; done) | (simp only [← hji25] <;> (first | rfl | simp)) | (simp [*]; done)), H', ⟨by have := HJ4.out; have := HK2.out; first | omega | exact Nat.le_refl _⟩, ⟨by repeat (first | (with_reducible first | exact HB.out | apply below_alloc | apply pw_below_drewN | apply below_drew1) | exact HB.out)⟩⟩
                                · rw [if_neg c27] at H
                                  exact absurd H (by simp)
                              · rw [if_neg c26] at H
                                exact absurd H (by simp)
                          · rw [if_neg c23] at H
                            exact absurd H (by simp)
                        · rw [if_neg c22] at H
                          exact absurd H (by simp)
                  case rest =>
                    clear HC18
                    try clear c1; try clear p1; try clear q1; try clear hx1; try clear c2; try clear p2; try clear c4; try clear c5; try clear p6; try clear c7; try clear c7b0; try clear c7b1; try clear c9; try clear p11; try clear q11; try clear hx11; try clear c14; try clear c15; try clear c15b0; try clear c17; try clear c17b0; try clear c17b1; try clear c20; try clear c20b0; try clear c21; try clear c21b0; try clear c22; try clear c22b0; try clear c23; try clear c23b0; try clear c24; try clear c24b0; try clear c26; try clear c26b0; try clear c27; try clear c27b0; try clear hx111_0; try clear hx112_0; try clear p111; try clear p112; try clear p2; try clear q111; try clear q112
                    obtain ⟨kq, x95_17, rfl, HA, HJ17, HB⟩ := hcut
                    cases kq with
                    | zero => exact absurd HA.out (by simp [shuntlaw20_ProbeRises.j3])
                    | succ kj17 =>
                      have H := HA.out
                      clear HA
                      simp only [shuntlaw20_ProbeRises.j3] at H
                      by_cases c28 : x95_17 = true
                      · subst c28
                        have H1 : (some false) = some r := by rw [if_pos rfl] at H; exact H
                        clear H
                        have H := H1
                        clear H1
                        obtain rfl := Option.some.inj H
                        go_wp2
                        go_ret
                        exact ⟨by first | rfl | (simp [errW_none, errW_some] <;> rfl) | (simp [*, errW_none, errW_some] <;> rfl), by repeat (first | (with_reducible first | exact HB.out | apply below_alloc | apply pw_below_drewN | apply below_drew1) | exact HB.out)⟩
                      · replace c28 := Bool.eq_false_iff.mpr c28
                        subst c28
                        have H1 : (shuntlaw20_ProbeRises.l2 kj17 l0 a1 x6_2 t107 (wrap64 (x5_2 + 1))) = some r := by rw [if_neg (show ¬ (false = true) by decide)] at H; exact H
                        clear H
                        have H := H1
                        clear H1
                        have H' := Aside0.mk H
                        clear H
                        go_wp2
                        go_loopg [10] kj17 (fun kq v10 w' => ∃ (x10_4 : Int), v10 = .int .i64 x10_4 ∧ Aside0 (shuntlaw20_ProbeRises.l2 kq l0 a1 x6_2 t107 x10_4 = some r) ∧ Aside0 (kq ≤ kj17) ∧ Aside0 (Below w.heap.size w w'))
                        case atStart => exact ⟨(wrap64 (x5_2 + 1)), (by first | rfl | (simp; done) | (simp [*]; done)), H', ⟨Nat.le_refl _⟩, ⟨by repeat (first | (with_reducible first | exact HB.out | apply below_alloc | apply pw_below_drewN | apply below_drew1) | exact HB.out)⟩⟩
                        case round =>
                          clear H'
                          try clear c1; try clear p1; try clear q1; try clear hx1; try clear c2; try clear p2; try clear c4; try clear c5; try clear p6; try clear c7; try clear c7b0; try clear c7b1; try clear c9; try clear p11; try clear q11; try clear hx11; try clear c14; try clear c15; try clear c15b0; try clear c17; try clear c17b0; try clear c17b1; try clear c20; try clear c20b0; try clear c21; try clear c21b0; try clear c22; try clear c22b0; try clear c23; try clear c23b0; try clear c24; try clear c24b0; try clear c26; try clear c26b0; try clear c27; try clear c27b0; try clear c28; try clear hx111_0; try clear hx112_0; try clear p1; try clear p11; try clear p111; try clear p112; try clear p2; try clear p6; try clear q1; try clear q11; try clear q111; try clear q112
                          obtain ⟨x10_4, rfl, HA, HK4, HB⟩ := hrel
                          cases gk with
                          | zero => exact absurd HA.out (by simp [shuntlaw20_ProbeRises.l2])
                          | succ k4 =>
                            have H := HA.out
                            clear HA
                            simp only [shuntlaw20_ProbeRises.l2] at H
                            by_cases c29 : x10_4 < t107
                            · rw [if_pos c29] at H
                              have c29b0 : decide (x10_4 < t107) = true := decide_eq_true c29
                              clear c29
                              obtain ⟨ji30, hji30⟩ : ∃ j_ : Int, (wrap64 (x10_4 - 1)) = j_ := ⟨_, rfl⟩
                              replace H : (if 0 ≤ (ji30) then (if (ji30) < (l0.length : Int) then (if (rd l0 (ji30)) < a1 then (if 0 ≤ x10_4 then (if x10_4 < (l0.length : Int) then (if (rd l0 x10_4) ≥ a1 then (some false) else (shuntlaw20_ProbeRises.l2 k4 l0 a1 x6_2 t107 (wrap64 (x10_4 + 1)))) else (none)) else (none)) else (shuntlaw20_ProbeRises.l2 k4 l0 a1 x6_2 t107 (wrap64 (x10_4 + 1)))) else (none)) else (none)) = some r := by first | (rw [hji30] at H; exact H) | (simp only [hji30] at H ⊢; exact H)
                              have hji30w : (IntKind.i64.wrap (x10_4 - 1)) = ji30 := (i64_w _).trans hji30
                              by_cases c31 : 0 ≤ (ji30)
                              · rw [if_pos c31] at H
                                have c31b0 : decide (0 ≤ (ji30)) = true := decide_eq_true c31
                                clear c31
                                by_cases c32 : (ji30) < (l0.length : Int)
                                · rw [if_pos c32] at H
                                  have c32b0 : decide ((ji30) < (l0.length : Int)) = true := decide_eq_true c32
                                  clear c32
                                  by_cases c33 : (rd l0 (ji30)) < a1
                                  · rw [if_pos c33] at H
                                    have c33b0 : decide ((rd l0 (ji30)) < a1) = true := decide_eq_true c33
                                    clear c33
                                    by_cases c34 : 0 ≤ x10_4
                                    · rw [if_pos c34] at H
                                      have c34b0 : decide (0 ≤ x10_4) = true := decide_eq_true c34
                                      clear c34
                                      by_cases c35 : x10_4 < (l0.length : Int)
                                      · rw [if_pos c35] at H
                                        have c35b0 : decide (x10_4 < (l0.length : Int)) = true := decide_eq_true c35
                                        clear c35
                                        by_cases c36 : (rd l0 x10_4) ≥ a1
                                        · rw [if_pos c36] at H
                                          have c36b0 : decide (a1 ≤ (rd l0 x10_4)) = true := decide_eq_true c36
                                          clear c36
                                          obtain rfl := Option.some.inj H
                                          have p113 : 0 ≤ ((ji30) : Int) := of_decide_eq_true (by first | (with_reducible assumption) | assumption)
                                          have q113 : (ji30) < (l0.length : Int) := of_decide_eq_true (by first | (with_reducible assumption) | assumption)
                                          obtain ⟨ad113, e113, hx113_0⟩ := Kd.at_int HR0.out (ji30) p113 q113
                                          cases e113
                                          replace hx113_0 := (HB.out.cell (World.block_lt_of_cell? w _ hx113_0)).trans hx113_0
                                          replace p113 := eq_true p113
                                          replace q113 := eq_true q113
                                          have p114 : 0 ≤ (x10_4 : Int) := of_decide_eq_true (by first | (with_reducible assumption) | assumption)
                                          have q114 : x10_4 < (l0.length : Int) := of_decide_eq_true (by first | (with_reducible assumption) | assumption)
                                          obtain ⟨ad114, e114, hx114_0⟩ := Kd.at_int HR0.out x10_4 p114 q114
                                          obtain rfl : ad113 = ad114 := (by injection e114)
                                          replace hx114_0 := (HB.out.cell (World.block_lt_of_cell? w _ hx114_0)).trans hx114_0
                                          replace p114 := eq_true p114
                                          replace q114 := eq_true q114
                                          go_wp2
                                          go_ret
                                          exact ⟨by first | rfl | (simp [errW_none, errW_some] <;> rfl) | (simp only [← hji30]; first | rfl | (simp [errW_none, errW_some] <;> rfl)) | (simp [*, errW_none, errW_some] <;> rfl), by repeat (first | (with_reducible first | exact HB.out | apply below_alloc | apply pw_below_drewN | apply below_drew1) | exact HB.out)⟩
                                        · rw [if_neg c36] at H
                                          have c36b0 : decide (a1 ≤ (rd l0 x10_4)) = false := decide_eq_false c36
                                          clear c36
                                          have H' := Aside0.mk H
                                          clear H
                                          have p113 : 0 ≤ ((ji30) : Int) := of_decide_eq_true (by first | (with_reducible assumption) | assumption)
                                          have q113 : (ji30) < (l0.length : Int) := of_decide_eq_true (by first | (with_reducible assumption) | assumption)
                                          obtain ⟨ad113, e113, hx113_0⟩ := Kd.at_int HR0.out (ji30) p113 q113
                                          cases e113
                                          replace hx113_0 := (HB.out.cell (World.block_lt_of_cell? w _ hx113_0)).trans hx113_0
                                          replace p113 := eq_true p113
                                          replace q113 := eq_true q113
                                          have p114 : 0 ≤ (x10_4 : Int) := of_decide_eq_true (by first | (with_reducible assumption) | assumption)
                                          have q114 : x10_4 < (l0.length : Int) := of_decide_eq_true (by first | (with_reducible assumption) | assumption)
                                          obtain ⟨ad114, e114, hx114_0⟩ := Kd.at_int HR0.out x10_4 p114 q114
                                          obtain rfl : ad113 = ad114 := (by injection e114)
                                          replace hx114_0 := (HB.out.cell (World.block_lt_of_cell? w _ hx114_0)).trans hx114_0
                                          replace p114 := eq_true p114
                                          replace q114 := eq_true q114
                                          go_wp2
                                          go_roundg k4
                                          case measure => have := HJ4.out; have := HK2.out; have := HJ17.out; have := HK4.out; omega
                                          case rel => exact ⟨(wrap64 (x10_4 + 1)), (by first | rfl | (simp; done) | (simp [*]; done)), H', ⟨by have := HJ4.out; have := HK2.out; have := HJ17.out; have := HK4.out; omega⟩, ⟨by repeat (first | (with_reducible first | exact HB.out | apply below_alloc | apply pw_below_drewN | apply below_drew1) | exact HB.out)⟩⟩
                                      · rw [if_neg c35] at H
                                        exact absurd H (by simp)
                                    · rw [if_neg c34] at H
                                      exact absurd H (by simp)
                                  · rw [if_neg c33] at H
                                    have c33b0 : decide ((rd l0 (ji30)) < a1) = false := decide_eq_false c33
                                    clear c33
                                    have H' := Aside0.mk H
                                    clear H
                                    have p113 : 0 ≤ ((ji30) : Int) := of_decide_eq_true (by first | (with_reducible assumption) | assumption)
                                    have q113 : (ji30) < (l0.length : Int) := of_decide_eq_true (by first | (with_reducible assumption) | assumption)
                                    obtain ⟨ad113, e113, hx113_0⟩ := Kd.at_int HR0.out (ji30) p113 q113
                                    cases e113
                                    replace hx113_0 := (HB.out.cell (World.block_lt_of_cell? w _ hx113_0)).trans hx113_0
                                    replace p113 := eq_true p113
                                    replace q113 := eq_true q113
                                    go_wp2
                                    go_roundg k4
                                    case measure => have := HJ4.out; have := HK2.out; have := HJ17.out; have := HK4.out; omega
                                    case rel => exact ⟨(wrap64 (x10_4 + 1)), (by first | rfl | (simp; done) | (simp [*]; done)), H', ⟨by have := HJ4.out; have := HK2.out; have := HJ17.out; have := HK4.out; omega⟩, ⟨by repeat (first | (with_reducible first | exact HB.out | apply below_alloc | apply pw_below_drewN | apply below_drew1) | exact HB.out)⟩⟩
                                · rw [if_neg c32] at H
                                  exact absurd H (by simp)
                              · rw [if_neg c31] at H
                                exact absurd H (by simp)
                            · rw [if_neg c29] at H
                              have c29b0 : decide (x10_4 < t107) = false := decide_eq_false c29
                              clear c29
                              have H' := Aside0.mk H
                              clear H
                              go_wp2
                              go_roundg k4
                              case measure => have := HJ4.out; have := HK2.out; have := HJ17.out; have := HK4.out; omega
                              case rel => exact ⟨(t107), (wrap64 (x6_2 + 1)), (by first | rfl | (simp; done) | (simp [*]; done)), (by first | rfl | (simp; done) | (simp [*]; done)), H', ⟨by have := HJ4.out; have := HK2.out; have := HJ17.out; have := HK4.out; omega⟩, ⟨by repeat (first | (with_reducible first | exact HB.out | apply below_alloc | apply pw_below_drewN | apply below_drew1) | exact HB.out)⟩⟩
                · rw [if_neg c17] at H
                  have c17b0 : (t108 == 0) = false := beq_eq_false_iff_ne.mpr c17
                  have c17b1 : (t108 != 0) = true := bne_iff_ne.mpr c17
                  have H' := Aside0.mk H
                  clear H
                  go_wp2_with (first | ((with_reducible refine gate_callee (f := 9) rfl ?_); refine goesL_ (some 36) rfl rfl Tryd.func9 (by kernel_rfl) rfl #[.slice A0 l0.length c0, .int .i64 a1, .int .i64 x6_2] rfl (by (try simp only [List.map_toArray, List.map_cons, List.map_nil]); first | done | rfl | (simp only [List.length_drop, List.length_take]; rfl)) ?_; (with_reducible refine (probe_Rise.calls k2 _ _ l0 a1 x6_2 t107 t108 _ ?side1 ?side2 A16.out).mono ?_); (case side1 => repeat (first | exact (Kd.C_below HR0.out HB.out) | (with_reducible refine Kd.C_alloc ?_ _) | (with_reducible refine Kd.C_drewN ?_ _) | (with_reducible refine Kd.C_drew ?_))); (case side2 => exact HC0.out); rintro e w37 ⟨rfl, hb⟩; refine ⟨_, rfl, ?_⟩; have n0_ := Aside0.mk (below_step (by repeat (first | (with_reducible first | exact HB.out | apply below_alloc | apply pw_below_drewN | apply below_drew1) | exact HB.out)) hb); clear HB; have HB := n0_; clear n0_; (try clear hb); (try clear hb2); (try clear hk); (try clear hi)))
                  go_loopg [9] k2 (fun kq v9 w' => ∃ (x9_3 : Int), v9 = .int .i64 x9_3 ∧ Aside0 (shuntlaw20_ProbeRises.l1 kq l0 a1 t107 t108 x9_3 = some r) ∧ Aside0 (kq ≤ k2) ∧ Aside0 (Below w.heap.size w w'))
                  case atStart => exact ⟨(wrap64 (x5_2 + 1)), (by first | rfl | (simp; done) | (simp [*]; done)), H', ⟨Nat.le_refl _⟩, ⟨by repeat (first | (with_reducible first | exact HB.out | apply below_alloc | apply pw_below_drewN | apply below_drew1) | exact HB.out)⟩⟩
                  case round =>
                    clear H'
                    try clear c1; try clear p1; try clear q1; try clear hx1; try clear c2; try clear p2; try clear c3; try clear c4; try clear c5; try clear p6; try clear c7; try clear c7b0; try clear c7b1; try clear c9; try clear p11; try clear q11; try clear hx11; try clear c14; try clear c15; try clear c15b0; try clear c17; try clear c17b0; try clear c17b1; try clear c20; try clear c20b0; try clear c21; try clear c21b0; try clear c22; try clear c22b0; try clear c23; try clear c23b0; try clear c24; try clear c24b0; try clear c26; try clear c26b0; try clear c27; try clear c27b0; try clear c28; try clear c29; try clear c29b0; try clear c31; try clear c31b0; try clear c32; try clear c32b0; try clear c33; try clear c33b0; try clear c34; try clear c34b0; try clear c35; try clear c35b0; try clear c36; try clear c36b0; try clear hx111_0; try clear hx112_0; try clear hx113_0; try clear hx114_0; try clear p1; try clear p11; try clear p111; try clear p112; try clear p113; try clear p114; try clear p2; try clear p6; try clear q1; try clear q11; try clear q111; try clear q112; try clear q113; try clear q114
                    obtain ⟨x9_3, rfl, HA, HK3, HB⟩ := hrel
                    cases gk with
                    | zero => exact absurd HA.out (by simp [shuntlaw20_ProbeRises.l1])
                    | succ k3 =>
                      have H := HA.out
                      clear HA
                      simp only [shuntlaw20_ProbeRises.l1] at H
                      by_cases c38 : x9_3 < (l0.length : Int)
                      · rw [if_pos c38] at H
                        have c38b0 : decide (x9_3 < (l0.length : Int)) = true := decide_eq_true c38
                        clear c38
                        obtain ⟨ji39, hji39⟩ : ∃ j_ : Int, (wrap64 (x9_3 - 1)) = j_ := ⟨_, rfl⟩
                        replace H : (if 0 ≤ (ji39) then (if (ji39) < (l0.length : Int) then (if (rd l0 (ji39)) < a1 then (if 0 ≤ x9_3 then (if (rd l0 x9_3) ≥ a1 then (some false) else (shuntlaw20_ProbeRises.l1 k3 l0 a1 t107 t108 (wrap64 (x9_3 + 1)))) else (none)) else (shuntlaw20_ProbeRises.l1 k3 l0 a1 t107 t108 (wrap64 (x9_3 + 1)))) else (none)) else (none)) = some r := by first | (rw [hji39] at H; exact H) | (simp only [hji39] at H ⊢; exact H)
                        have hji39w : (IntKind.i64.wrap (x9_3 - 1)) = ji39 := (i64_w _).trans hji39
                        by_cases c40 : 0 ≤ (ji39)
                        · rw [if_pos c40] at H
                          have c40b0 : decide (0 ≤ (ji39)) = true := decide_eq_true c40
                          clear c40
                          by_cases c41 : (ji39) < (l0.length : Int)
                          · rw [if_pos c41] at H
                            have c41b0 : decide ((ji39) < (l0.length : Int)) = true := decide_eq_true c41
                            clear c41
                            by_cases c42 : (rd l0 (ji39)) < a1
                            · rw [if_pos c42] at H
                              have c42b0 : decide ((rd l0 (ji39)) < a1) = true := decide_eq_true c42
                              clear c42
                              by_cases c43 : 0 ≤ x9_3
                              · rw [if_pos c43] at H
                                have c43b0 : decide (0 ≤ x9_3) = true := decide_eq_true c43
                                clear c43
                                by_cases c44 : (rd l0 x9_3) ≥ a1
                                · rw [if_pos c44] at H
                                  have c44b0 : decide (a1 ≤ (rd l0 x9_3)) = true := decide_eq_true c44
                                  clear c44
                                  obtain rfl := Option.some.inj H
                                  have p109 : 0 ≤ ((ji39) : Int) := of_decide_eq_true (by first | (with_reducible assumption) | assumption)
                                  have q109 : (ji39) < (l0.length : Int) := of_decide_eq_true (by first | (with_reducible assumption) | assumption)
                                  obtain ⟨ad109, e109, hx109_0⟩ := Kd.at_int HR0.out (ji39) p109 q109
                                  cases e109
                                  replace hx109_0 := (HB.out.cell (World.block_lt_of_cell? w _ hx109_0)).trans hx109_0
                                  replace p109 := eq_true p109
                                  replace q109 := eq_true q109
                                  have p110 : 0 ≤ (x9_3 : Int) := of_decide_eq_true (by first | (with_reducible assumption) | assumption)
                                  have q110 : x9_3 < (l0.length : Int) := of_decide_eq_true (by first | (with_reducible assumption) | assumption)
                                  obtain ⟨ad110, e110, hx110_0⟩ := Kd.at_int HR0.out x9_3 p110 q110
                                  obtain rfl : ad109 = ad110 := (by injection e110)
                                  replace hx110_0 := (HB.out.cell (World.block_lt_of_cell? w _ hx110_0)).trans hx110_0
                                  replace p110 := eq_true p110
                                  replace q110 := eq_true q110
                                  go_wp2
                                  go_ret
                                  exact ⟨by first | rfl | (simp [errW_none, errW_some] <;> rfl) | (simp only [← hji39]; first | rfl | (simp [errW_none, errW_some] <;> rfl)) | (simp [*, errW_none, errW_some] <;> rfl), by repeat (first | (with_reducible first | exact HB.out | apply below_alloc | apply pw_below_drewN | apply below_drew1) | exact HB.out)⟩
                                · rw [if_neg c44] at H
                                  have c44b0 : decide (a1 ≤ (rd l0 x9_3)) = false := decide_eq_false c44
                                  clear c44
                                  have H' := Aside0.mk H
                                  clear H
                                  have p109 : 0 ≤ ((ji39) : Int) := of_decide_eq_true (by first | (with_reducible assumption) | assumption)
                                  have q109 : (ji39) < (l0.length : Int) := of_decide_eq_true (by first | (with_reducible assumption) | assumption)
                                  obtain ⟨ad109, e109, hx109_0⟩ := Kd.at_int HR0.out (ji39) p109 q109
                                  cases e109
                                  replace hx109_0 := (HB.out.cell (World.block_lt_of_cell? w _ hx109_0)).trans hx109_0
                                  replace p109 := eq_true p109
                                  replace q109 := eq_true q109
                                  have p110 : 0 ≤ (x9_3 : Int) := of_decide_eq_true (by first | (with_reducible assumption) | assumption)
                                  have q110 : x9_3 < (l0.length : Int) := of_decide_eq_true (by first | (with_reducible assumption) | assumption)
                                  obtain ⟨ad110, e110, hx110_0⟩ := Kd.at_int HR0.out x9_3 p110 q110
                                  obtain rfl : ad109 = ad110 := (by injection e110)
                                  replace hx110_0 := (HB.out.cell (World.block_lt_of_cell? w _ hx110_0)).trans hx110_0
                                  replace p110 := eq_true p110
                                  replace q110 := eq_true q110
                                  go_wp2
                                  go_roundg k3
                                  case measure => have := HJ4.out; have := HK2.out; have := HK3.out; omega
                                  case rel => exact ⟨(wrap64 (x9_3 + 1)), (by first | rfl | (simp; done) | (simp [*]; done)), H', ⟨by have := HJ4.out; have := HK2.out; have := HK3.out; omega⟩, ⟨by repeat (first | (with_reducible first | exact HB.out | apply below_alloc | apply pw_below_drewN | apply below_drew1) | exact HB.out)⟩⟩
                              · rw [if_neg c43] at H
                                exact absurd H (by simp)
                            · rw [if_neg c42] at H
                              have c42b0 : decide ((rd l0 (ji39)) < a1) = false := decide_eq_false c42
                              clear c42
                              have H' := Aside0.mk H
                              clear H
                              have p109 : 0 ≤ ((ji39) : Int) := of_decide_eq_true (by first | (with_reducible assumption) | assumption)
                              have q109 : (ji39) < (l0.length : Int) := of_decide_eq_true (by first | (with_reducible assumption) | assumption)
                              obtain ⟨ad109, e109, hx109_0⟩ := Kd.at_int HR0.out (ji39) p109 q109
                              cases e109
                              replace hx109_0 := (HB.out.cell (World.block_lt_of_cell? w _ hx109_0)).trans hx109_0
                              replace p109 := eq_true p109
                              replace q109 := eq_true q109
                              go_wp2
                              go_roundg k3
                              case measure => have := HJ4.out; have := HK2.out; have := HK3.out; omega
                              case rel => exact ⟨(wrap64 (x9_3 + 1)), (by first | rfl | (simp; done) | (simp [*]; done)), H', ⟨by have := HJ4.out; have := HK2.out; have := HK3.out; omega⟩, ⟨by repeat (first | (with_reducible first | exact HB.out | apply below_alloc | apply pw_below_drewN | apply below_drew1) | exact HB.out)⟩⟩
                          · rw [if_neg c41] at H
                            exact absurd H (by simp)
                        · rw [if_neg c40] at H
                          exact absurd H (by simp)
                      · rw [if_neg c38] at H
                        have c38b0 : decide (x9_3 < (l0.length : Int)) = false := decide_eq_false c38
                        clear c38
                        by_cases c45 : t108 = 6
                        · rw [if_pos c45] at H
                          have c45b0 : (t108 == 6) = true := beq_iff_eq.mpr c45
                          have c45b1 : (t108 != 6) = false := bne_eq_false_iff_eq.mpr c45
                          clear c45
                          obtain rfl := Option.some.inj H
                          go_wp2
                          go_ret
                          exact ⟨by first | rfl | (simp [errW_none, errW_some] <;> rfl) | (simp [*, errW_none, errW_some] <;> rfl), by repeat (first | (with_reducible first | exact HB.out | apply below_alloc | apply pw_below_drewN | apply below_drew1) | exact HB.out)⟩
                        · rw [if_neg c45] at H
                          have c45b0 : (t108 == 6) = false := beq_eq_false_iff_ne.mpr c45
                          have c45b1 : (t108 != 6) = true := bne_iff_ne.mpr c45
                          obtain rfl := Option.some.inj H
                          go_wp2
                          go_ret
                          exact ⟨by first | rfl | (simp [errW_none, errW_some] <;> rfl) | (simp [*, errW_none, errW_some] <;> rfl), by repeat (first | (with_reducible first | exact HB.out | apply below_alloc | apply pw_below_drewN | apply below_drew1) | exact HB.out)⟩
              · rw [if_neg c15] at H
                have c15b0 : decide (x6_2 ≤ (wrap64 ((l0.length : Int) + 1))) = false := decide_eq_false c15
                clear c15
                obtain rfl := Option.some.inj H
                go_wp2
                go_ret
                exact ⟨by first | rfl | (simp [errW_none, errW_some] <;> rfl) | (simp [*, errW_none, errW_some] <;> rfl), by repeat (first | (with_reducible first | exact HB.out | apply below_alloc | apply pw_below_drewN | apply below_drew1) | exact HB.out)⟩
  · replace c4 := Bool.eq_false_iff.mpr c4
    subst c4
    have H1 : (none) = some r := by rw [if_neg (show ¬ (false = true) by decide)] at H; exact H
    clear H
    have H := H1
    clear H1
    exact absurd H (by simp)
def shuntlaw20_ProbeRises.Pure : Prop := ∀ (l0 : List Int) (a1 : Int), l0.length ≤ maxLen → l0.length * 8 ≤ 140737488351232 → (∀ x ∈ l0, (Lit.int .i64 x).wf = true) → (Lit.int .i64 a1).wf = true → ∃ k, shuntlaw20_ProbeRises.f k l0 a1 = some true
theorem shuntlaw20_ProbeRises.walk (P : shuntlaw20_ProbeRises.Pure) (a0 : Option Addr) (len0 cap0 : Nat) (z0 : List Int) (a1 : Int) (w : World) (w0 : (a0 = none ∧ len0 = 0 ∧ cap0 = 0 ∧ z0 = []) ∨ ∃ x, a0 = some x ∧ len0 ≤ cap0 ∧ cap0 ≤ maxLen ∧ z0.length = cap0 ∧ (∀ i, i < z0.length → w.cell? (x.add i) = some (.int .i64 (z0.getD i 0))) ∧ ∀ n ∈ z0, (Lit.int .i64 n).wf = true) (y0 : len0 * 8 ≤ 140737488351232) (w1 : (Lit.int .i64 a1).wf = true) :
    Calls Tryd.prog 4 #[.slice a0 len0 cap0, .int .i64 a1] w fun e w' => e = .returned (.bool true) ∧ Below w.heap.size w w' := by
  obtain ⟨l0, rfl, hr0, hm0, hw0, hc0⟩ := ReadsInt.ofRowC w0
  obtain ⟨k, h⟩ := P l0 a1 hm0 y0 hw0 w1
  refine (shuntlaw20_ProbeRises.calls k _ _ l0 a1 true w (Kd.C_of_reads (d := (0 : Int)) (h1 := fun _ => rfl) hr0) hc0 h).mono ?_
  rintro e w' ⟨rfl, hd⟩
  exact ⟨rfl, hd⟩
end Go.Proofs.YtbckpbiimknnnaaDoor.X
namespace Go.Proofs.YtbckpbiimknnnaaDoor.X
open Go.RowKit Go.Proofs.YtbckpbiimknnnaaDoorW.PrintWords Go.Proofs.YtbckpbiimknnnaaDoorW.PrintLast Go.Proofs.YtbckpbiimknnnaaDoorW.PrintMore
theorem w64 (n : Int) (h : -9223372036854775808 ≤ n ∧ n ≤ 9223372036854775807) : wrap64 n = n := IntWalk.wrap64_in n h
theorem rd_nat (l : List Int) (i : Nat) : rd l (i : Int) = l.getD i 0 := by rw [rd, Int.toNat_natCast]
set_option maxRecDepth 100000 in
theorem awake_30 : shuntlaw20_awake.f 40 = some true := by decide +kernel
theorem awake_at (k : Nat) (h : 40 ≤ k) : shuntlaw20_awake.f k = some true := at_rounds shuntlaw20_awake.mono h awake_30
theorem outsideB_false (v : Int) : outsideB v = false ↔ -2000000000000000000 ≤ v ∧ v ≤ 2000000000000000000 := by
  unfold outsideB
  simp only [Bool.or_eq_false_iff, decide_eq_false_iff_not]
  omega
theorem out_l0 (l : List Int) (hl : l.length ≤ 4611686018427387904) : ∀ (d i k : Nat), i + d = l.length → d < k → shuntref20_Outside.l0 k l (i : Int) = some ((l.drop i).any outsideB)
  | 0, i, k, hi, hk => by
    obtain ⟨k, rfl⟩ : ∃ m, k = m + 1 := ⟨k - 1, by omega⟩
    unfold shuntref20_Outside.l0
    rw [if_neg (by omega), List.drop_of_length_le (by omega)]
    rfl
  | d + 1, i, k, hi, hk => by
    obtain ⟨k, rfl⟩ : ∃ m, k = m + 1 := ⟨k - 1, by omega⟩
    have ih := out_l0 l hl d (i + 1) k (by omega) (by omega)
    have hlt : i < l.length := by omega
    have hc : l.drop i = l.getD i 0 :: l.drop (i + 1) := by
      rw [List.drop_eq_getElem_cons hlt, List.getD_eq_getElem?_getD, List.getElem?_eq_getElem hlt]
      rfl
    unfold shuntref20_Outside.l0
    rw [if_pos (by omega), if_pos (by omega), rd_nat, hc, List.any_cons, w64 _ (by omega)]
    generalize l.getD i 0 = v
    unfold outsideB
    by_cases h1 : v > 2000000000000000000
    · rw [if_pos h1]; simp [h1]
    · rw [if_neg h1]
      by_cases h2 : v < -2000000000000000000
      · rw [if_pos h2]; simp [h2]
      · rw [if_neg h2]
        have h1' : ¬ 2000000000000000000 < v := h1
        rw [show ((i : Int) + 1) = ((i + 1 : Nat) : Int) by omega, ih]
        unfold outsideB
        simp [h1', h2]
theorem out_f (l : List Int) (hl : l.length ≤ 4611686018427387904) (k : Nat) (hk : l.length < k) : shuntref20_Outside.f k l = some (l.any outsideB) := by
  have := out_l0 l hl l.length 0 k (by omega) hk
  rw [List.drop_zero] at this
  exact this
theorem look_in (l : List Int) (h : l.any outsideB = false) : probe_look.f l = some (if l = [] then 6 else 0) := by
  unfold probe_look.f
  rw [slices_ContainsFunc_int64_int64__probe_outside.f, Option.bind_some, h, if_neg (by decide)]
  cases l <;> simp <;> omega
theorem any_false (l : List Int) (h : l.any outsideB = false) (i : Nat) : -2000000000000000000 ≤ l.getD i 0 ∧ l.getD i 0 ≤ 2000000000000000000 := by
  by_cases hi : i < l.length
  · rw [List.getD_eq_getElem?_getD, List.getElem?_eq_getElem hi]
    have := (List.any_eq_false.1 h) l[i] (List.getElem_mem hi)
    exact (outsideB_false _).1 (by simpa using this)
  · rw [List.getD_eq_getElem?_getD, List.getElem?_eq_none (by omega)]
    simp
end Go.Proofs.YtbckpbiimknnnaaDoor.X
namespace Go.Proofs.YtbckpbiimknnnaaDoor.X
open Go.RowKit Go.Proofs.YtbckpbiimknnnaaDoorW.PrintWords Go.Proofs.YtbckpbiimknnnaaDoorW.PrintLast Go.Proofs.YtbckpbiimknnnaaDoorW.PrintMore
def upAt (l : List Int) (lv : Int) (i : Nat) : Bool := decide (l.getD (i - 1) 0 < lv) && decide (l.getD i 0 ≥ lv)
def nxt (l : List Int) (lv : Int) : Nat → Nat → Option Nat
  | 0, _ => none
  | d + 1, i => if upAt l lv i then some i else nxt l lv d (i + 1)
def riseN (l : List Int) (lv : Int) : Nat → Nat → Option Nat
  | 0, i => nxt l lv (l.length - i) i
  | n + 1, i => (nxt l lv (l.length - i) i).bind fun j => riseN l lv n (j + 1)
def told : Option Nat → Int × Int
  | some j => ((j : Int), 0)
  | none => (0, 6)
theorem nxt_some (l : List Int) (lv : Int) : ∀ (d i j : Nat), nxt l lv d i = some j → i ≤ j ∧ j < i + d ∧ upAt l lv j = true ∧ ∀ m, i ≤ m → m < j → upAt l lv m = false
  | 0, i, j, h => by cases h
  | d + 1, i, j, h => by
    rw [nxt] at h
    cases hu : upAt l lv i with
    | true =>
      rw [hu, if_pos rfl] at h
      cases h
      exact ⟨Nat.le_refl _, by omega, hu, fun m h1 h2 => by omega⟩
    | false =>
      rw [hu, if_neg (by decide)] at h
      obtain ⟨h1, h2, h3, h4⟩ := nxt_some l lv d (i + 1) j h
      refine ⟨by omega, by omega, h3, fun m h5 h6 => ?_⟩
      rcases Nat.lt_or_ge i m with h7 | h7
      · exact h4 m h7 h6
      · obtain rfl : m = i := by omega
        exact hu
theorem nxt_none (l : List Int) (lv : Int) : ∀ (d i : Nat), nxt l lv d i = none → ∀ m, i ≤ m → m < i + d → upAt l lv m = false
  | 0, i, h, m, h1, h2 => by omega
  | d + 1, i, h, m, h1, h2 => by
    rw [nxt] at h
    cases hu : upAt l lv i with
    | true => rw [hu, if_pos rfl] at h; cases h
    | false =>
      rw [hu, if_neg (by decide)] at h
      rcases Nat.lt_or_ge i m with h7 | h7
      · exact nxt_none l lv d (i + 1) h m h7 (by omega)
      · obtain rfl : m = i := by omega
        exact hu
theorem riseN_succ (l : List Int) (lv : Int) : ∀ (n i : Nat), riseN l lv (n + 1) i = (riseN l lv n i).bind fun j => nxt l lv (l.length - (j + 1)) (j + 1)
  | 0, i => rfl
  | n + 1, i => by
    rw [riseN, riseN]
    cases nxt l lv (l.length - i) i with
    | none => rfl
    | some j => exact riseN_succ l lv n (j + 1)
theorem riseN_step (l : List Int) (lv : Int) (n i : Nat) (hi : i < l.length) (hu : upAt l lv i = false) : riseN l lv n i = riseN l lv n (i + 1) := by
  have : nxt l lv (l.length - i) i = nxt l lv (l.length - (i + 1)) (i + 1) := by
    rw [show l.length - i = (l.length - (i + 1)) + 1 by omega, nxt, hu, if_neg (by decide)]
  cases n <;> rw [riseN, riseN, this]
theorem riseN_here (l : List Int) (lv : Int) (n i : Nat) (hi : i < l.length) (hu : upAt l lv i = true) : riseN l lv (n + 1) i = riseN l lv n (i + 1) ∧ riseN l lv 0 i = some i := by
  have : nxt l lv (l.length - i) i = some i := by
    rw [show l.length - i = (l.length - (i + 1)) + 1 by omega, nxt, hu, if_pos rfl]
  constructor
  · rw [riseN, this]; rfl
  · rw [riseN, this]
theorem riseN_end (l : List Int) (lv : Int) (n : Nat) : riseN l lv n l.length = none := by
  have : nxt l lv (l.length - l.length) l.length = none := by rw [Nat.sub_self]; rfl
  cases n <;> rw [riseN, this]
  rfl
theorem upAt_dec (l : List Int) (lv : Int) (i : Nat) (h : l.getD (i - 1) 0 < lv) : decide (l.getD i 0 ≥ lv) = upAt l lv i := by
  unfold upAt
  rw [decide_eq_true h]
  rfl
theorem rise_l0 (l : List Int) (lv : Int) (hlen : l.length ≤ 1000000) : ∀ (d i n k : Nat), 1 ≤ i → i + d = l.length → 2 * d < k → n ≤ 1000000 →
    probe_Rise.l0 k l lv ((n + 1 : Nat) : Int) (i : Int) = some (told (riseN l lv n i))
  | 0, i, n, k, h1, hi, hk, hn => by
    obtain ⟨k, rfl⟩ : ∃ m, k = m + 1 := ⟨k - 1, by omega⟩
    rw [probe_Rise.l0, if_neg (by omega), show i = l.length by omega, riseN_end]
    rfl
  | d + 1, i, n, k, h1, hi, hk, hn => by
    obtain ⟨k, rfl⟩ : ∃ m, k = m + 2 := ⟨k - 2, by omega⟩
    have e1 : wrap64 ((i : Int) - 1) = ((i - 1 : Nat) : Int) := by rw [w64 _ (by omega)]; omega
    have e2 : wrap64 ((i : Int) + 1) = ((i + 1 : Nat) : Int) := by rw [w64 _ (by omega)]; omega
    have e3 : wrap64 (((n + 1 : Nat) : Int) - 1) = (n : Int) := by rw [w64 _ (by omega)]; omega
    have hj : ∀ b, b = upAt l lv i → probe_Rise.j2 (k + 1) l lv ((n + 1 : Nat) : Int) (i : Int) b = some (told (riseN l lv n i)) := by
      intro b hb
      rw [probe_Rise.j2]
      cases hu : upAt l lv i with
      | true =>
        rw [hb, hu, if_pos rfl, e3]
        obtain ⟨hA, hB⟩ := riseN_here l lv (n - 1) i (by omega) hu
        by_cases hn0 : (n : Int) = 0
        · rw [if_pos hn0, show n = 0 by omega, hB]
          rfl
        · rw [if_neg hn0, e2, show (n : Int) = ((n - 1 + 1 : Nat) : Int) by omega, rise_l0 l lv hlen d (i + 1) (n - 1) k (by omega) (by omega) (by omega) (by omega)]
          rw [← hA, show n - 1 + 1 = n by omega]
      | false =>
        rw [hb, hu, if_neg (by decide), e2, rise_l0 l lv hlen d (i + 1) n k (by omega) (by omega) (by omega) hn, riseN_step l lv n i (by omega) hu]
    rw [show k + 2 = (k + 1) + 1 from rfl, probe_Rise.l0, if_pos (by omega), e1, if_pos (by omega), if_pos (by omega), rd_nat]
    by_cases hc : l.getD (i - 1) 0 < lv
    · rw [if_pos hc, if_pos (by omega), rd_nat]
      exact hj _ (upAt_dec l lv i hc)
    · rw [if_neg hc]
      exact hj _ (by unfold upAt; rw [decide_eq_false hc]; rfl)
theorem rise_f (l : List Int) (lv : Int) (hlen : l.length ≤ 1000000) (hin : l.any outsideB = false) (hlv : outsideB lv = false) (n k : Nat) (hn : n ≤ 1000000) (hk : 2 * l.length + 4 < k) :
    probe_Rise.f k l lv ((n + 1 : Nat) : Int) = some (told (riseN l lv n 1)) := by
  obtain ⟨k, rfl⟩ : ∃ m, k = m + 1 := ⟨k - 1, by omega⟩
  unfold probe_Rise.f
  rw [if_neg (by omega), outside_some, hlv, Option.bind_some, if_neg (by decide), look_in l hin, Option.bind_some]
  rw [probe_Rise.j0, if_neg (by split <;> decide)]
  rcases Nat.lt_or_ge 0 l.length with h | h
  · exact rise_l0 l lv hlen (l.length - 1) 1 n k (Nat.le_refl _) (by omega) (by omega) hn
  · obtain ⟨k, rfl⟩ : ∃ m, k = m + 1 := ⟨k - 1, by omega⟩
    have h0 : l.length = 0 := by omega
    rw [probe_Rise.l0, if_neg (by omega)]
    have : nxt l lv (l.length - 1) 1 = none := by rw [h0]; rfl
    cases n <;> rw [riseN, this] <;> rfl
theorem rises_l2 (l : List Int) (lv : Int) (n1 : Int) (hlen : l.length ≤ 1000000) (j : Nat) (hj : j < l.length) (Z : Option Bool) (K : Nat) (hZ : ∀ k, K ≤ k → shuntlaw20_ProbeRises.l0 k l lv (j : Int) (wrap64 (n1 + 1)) = Z) :
    ∀ (d i k : Nat), 1 ≤ i → i + d = j → (∀ m, i ≤ m → m < j → upAt l lv m = false) → K + d < k → shuntlaw20_ProbeRises.l2 k l lv n1 (j : Int) (i : Int) = Z
  | 0, i, k, h1, hi, hu, hk => by
    obtain ⟨k, rfl⟩ : ∃ m, k = m + 1 := ⟨k - 1, by omega⟩
    rw [shuntlaw20_ProbeRises.l2, if_neg (by omega)]
    exact hZ k (by omega)
  | d + 1, i, k, h1, hi, hu, hk => by
    obtain ⟨k, rfl⟩ : ∃ m, k = m + 1 := ⟨k - 1, by omega⟩
    have e1 : wrap64 ((i : Int) - 1) = ((i - 1 : Nat) : Int) := by rw [w64 _ (by omega)]; omega
    have e2 : wrap64 ((i : Int) + 1) = ((i + 1 : Nat) : Int) := by rw [w64 _ (by omega)]; omega
    have ih := rises_l2 l lv n1 hlen j hj Z K hZ d (i + 1) k (by omega) (by omega) (fun m a b => hu m (by omega) b) (by omega)
    have hf := hu i (Nat.le_refl _) (by omega)
    rw [shuntlaw20_ProbeRises.l2, if_pos (by omega), e1, if_pos (by omega), if_pos (by omega), rd_nat]
    by_cases hc : l.getD (i - 1) 0 < lv
    · rw [if_pos hc, if_pos (by omega), if_pos (by omega), rd_nat, e2]
      rw [← upAt_dec l lv i hc] at hf
      rw [if_neg (of_decide_eq_false hf)]
      exact ih
    · rw [if_neg hc, e2]
      exact ih
theorem rises_l1 (l : List Int) (lv : Int) (hlen : l.length ≤ 1000000) :
    ∀ (d i k : Nat), 1 ≤ i → l.length ≤ i + d → (∀ m, i ≤ m → m < l.length → upAt l lv m = false) → d < k → shuntlaw20_ProbeRises.l1 k l lv 0 6 (i : Int) = some true
  | 0, i, k, h1, hi, hu, hk => by
    obtain ⟨k, rfl⟩ : ∃ m, k = m + 1 := ⟨k - 1, by omega⟩
    rw [shuntlaw20_ProbeRises.l1, if_neg (by omega), if_pos rfl]
    rfl
  | d + 1, i, k, h1, hi, hu, hk => by
    obtain ⟨k, rfl⟩ : ∃ m, k = m + 1 := ⟨k - 1, by omega⟩
    by_cases hlt : (i : Int) < (l.length : Int)
    · have e1 : wrap64 ((i : Int) - 1) = ((i - 1 : Nat) : Int) := by rw [w64 _ (by omega)]; omega
      have e2 : wrap64 ((i : Int) + 1) = ((i + 1 : Nat) : Int) := by rw [w64 _ (by omega)]; omega
      have ih := rises_l1 l lv hlen d (i + 1) k (by omega) (by omega) (fun m a b => hu m (by omega) b) (by omega)
      have hf := hu i (Nat.le_refl _) (by omega)
      rw [shuntlaw20_ProbeRises.l1, if_pos hlt, e1, if_pos (by omega), if_pos (by omega), rd_nat]
      by_cases hc : l.getD (i - 1) 0 < lv
      · rw [if_pos hc, if_pos (by omega), rd_nat, e2]
        rw [← upAt_dec l lv i hc] at hf
        rw [if_neg (of_decide_eq_false hf)]
        exact ih
      · rw [if_neg hc, e2]
        exact ih
    · rw [shuntlaw20_ProbeRises.l1, if_neg hlt, if_pos rfl]
      rfl
theorem l0_step (k : Nat) (l : List Int) (lv last n1 a e : Int) (hn : n1 ≤ wrap64 ((l.length : Int) + 1)) (h : probe_Rise.f k l lv n1 = some (a, e)) :
    shuntlaw20_ProbeRises.l0 (k + 1) l lv last n1 = (if e = 0 then (if a ≤ last then (shuntlaw20_ProbeRises.j3 k l lv last n1 a true) else (if a ≥ (l.length : Int) then (shuntlaw20_ProbeRises.j3 k l lv last n1 a true) else (if 0 ≤ a then (if a < (l.length : Int) then (if (rd l a) < lv then (shuntlaw20_ProbeRises.j3 k l lv last n1 a true) else (if 0 ≤ (wrap64 (a - 1)) then (if (wrap64 (a - 1)) < (l.length : Int) then (shuntlaw20_ProbeRises.j3 k l lv last n1 a (decide ((rd l (wrap64 (a - 1))) ≥ lv))) else (none)) else (none))) else (none)) else (none)))) else (shuntlaw20_ProbeRises.l1 k l lv a e (wrap64 (last + 1)))) := by
  rw [shuntlaw20_ProbeRises.l0, if_pos hn, h, Option.bind_some]
theorem l0_none (k : Nat) (l : List Int) (lv : Int) (last : Nat) (n1 : Int) (hl : last ≤ 1000) (hn : n1 ≤ wrap64 ((l.length : Int) + 1)) (h : probe_Rise.f k l lv n1 = some (0, 6)) :
    shuntlaw20_ProbeRises.l0 (k + 1) l lv (last : Int) n1 = shuntlaw20_ProbeRises.l1 k l lv 0 6 ((last + 1 : Nat) : Int) := by
  have e2 : wrap64 ((last : Int) + 1) = ((last + 1 : Nat) : Int) := by rw [w64 _ (by omega)]; omega
  rw [l0_step k l lv last n1 0 6 hn h, if_neg (by decide), e2]
theorem l0_some (k : Nat) (l : List Int) (lv : Int) (last j : Nat) (n1 : Int) (hl : last ≤ 1000) (hj : last + 1 ≤ j) (hjl : j < l.length) (hlen : l.length ≤ 1000) (hn : n1 ≤ wrap64 ((l.length : Int) + 1)) (hu : upAt l lv j = true) (h : probe_Rise.f (k + 1) l lv n1 = some ((j : Int), 0)) :
    shuntlaw20_ProbeRises.l0 (k + 2) l lv (last : Int) n1 = shuntlaw20_ProbeRises.l2 k l lv n1 (j : Int) ((last + 1 : Nat) : Int) := by
  have e2 : wrap64 ((last : Int) + 1) = ((last + 1 : Nat) : Int) := by rw [w64 _ (by omega)]; omega
  have e3 : wrap64 ((j : Int) - 1) = ((j - 1 : Nat) : Int) := by rw [w64 _ (by omega)]; omega
  unfold upAt at hu
  rw [Bool.and_eq_true, decide_eq_true_eq, decide_eq_true_eq] at hu
  rw [show k + 2 = (k + 1) + 1 from rfl, l0_step (k + 1) l lv last n1 j 0 hn h, if_pos rfl, if_neg (by omega), if_neg (by omega), if_pos (by omega), if_pos (by omega), rd_nat, if_neg (by omega), e3, if_pos (by omega), if_pos (by omega), rd_nat, decide_eq_false (by omega)]
  rw [shuntlaw20_ProbeRises.j3, if_neg (by decide), e2]
theorem rises_l0 (l : List Int) (lv : Int) (hlen : l.length ≤ 60) (hin : l.any outsideB = false) (hlv : outsideB lv = false) :
    ∀ (d n last : Nat), l.length ≤ last + d → n ≤ last → last ≤ l.length → riseN l lv n 1 = nxt l lv (l.length - (last + 1)) (last + 1) →
      ∀ k, d * 70 + 300 ≤ k → shuntlaw20_ProbeRises.l0 k l lv (last : Int) ((n + 1 : Nat) : Int) = some true := by
  intro d
  induction d with
  | zero =>
    intro n last hd hnl hll hr k hk
    obtain ⟨k, rfl⟩ : ∃ m, k = m + 1 := ⟨k - 1, by omega⟩
    have hnone : nxt l lv (l.length - (last + 1)) (last + 1) = none := by rw [show l.length - (last + 1) = 0 by omega]; rfl
    have e1 : ((n + 1 : Nat) : Int) ≤ wrap64 ((l.length : Int) + 1) := by rw [w64 _ (by omega)]; omega
    have hR : probe_Rise.f k l lv ((n + 1 : Nat) : Int) = some (0, 6) := by rw [rise_f l lv (by omega) hin hlv n k (by omega) (by omega), hr, hnone]; rfl
    rw [l0_none k l lv last _ (by omega) e1 hR]
    exact rises_l1 l lv (by omega) 0 (last + 1) k (by omega) (by omega) (fun m a b => by omega) (by omega)
  | succ d ih =>
    intro n last hd hnl hll hr k hk
    have e1 : ((n + 1 : Nat) : Int) ≤ wrap64 ((l.length : Int) + 1) := by rw [w64 _ (by omega)]; omega
    obtain ⟨k, rfl⟩ : ∃ m, k = m + 2 := ⟨k - 2, by omega⟩
    have hR := rise_f l lv (by omega) hin hlv n (k + 1) (by omega) (by omega)
    rw [hr] at hR
    cases hx : nxt l lv (l.length - (last + 1)) (last + 1) with
    | none =>
      rw [hx] at hR
      rw [show k + 2 = (k + 1) + 1 from rfl, l0_none (k + 1) l lv last _ (by omega) e1 hR]
      exact rises_l1 l lv (by omega) 60 (last + 1) (k + 1) (by omega) (by omega) (fun m a b => nxt_none l lv _ _ hx m a (by omega)) (by omega)
    | some j =>
      rw [hx] at hR
      obtain ⟨h1, h2, h3, h4⟩ := nxt_some l lv _ _ _ hx
      have a0 : j < l.length := by omega
      have a1 : l.length ≤ j + d := by omega
      have a2 : n + 1 ≤ j := Nat.le_trans (Nat.succ_le_succ hnl) h1
      have e4 : wrap64 (((n + 1 : Nat) : Int) + 1) = ((n + 1 + 1 : Nat) : Int) := by rw [w64 _ (by omega)]; omega
      have hr' : riseN l lv (n + 1) 1 = nxt l lv (l.length - (j + 1)) (j + 1) := by
        rw [riseN_succ, hr, hx, Option.bind_some]
      rw [l0_some k l lv last j _ (by omega) h1 a0 (by omega) e1 h3 hR]
      refine rises_l2 l lv ((n + 1 : Nat) : Int) (by omega) j a0 (some true) (d * 70 + 300) (fun k' hk' => ?_) (j - (last + 1)) (last + 1) k (by omega) (by omega) h4 (by omega)
      rw [e4]
      exact ih (n + 1) j a1 a2 (Nat.le_of_lt a0) hr' k' hk'
theorem rises_pure (l : List Int) (lv : Int) (hsz : l.length * 8 ≤ 140737488351232) : ∃ k, shuntlaw20_ProbeRises.f k l lv = some true := by
  have hlen' : l.length ≤ 4611686018427387904 := by omega
  obtain ⟨K, hK⟩ : ∃ K, K = l.length + 4999 := ⟨_, rfl⟩
  refine ⟨K + 1, ?_⟩
  unfold shuntlaw20_ProbeRises.f
  rw [awake_at _ (by omega), Option.bind_some, if_pos rfl]
  have hT : ∀ k, shuntlaw20_ProbeRises.j0 (k + 1) l lv true = some true := fun k => by rw [shuntlaw20_ProbeRises.j0, if_pos rfl]
  by_cases h1 : (l.length : Int) > 60
  · rw [if_pos h1]; exact hT _
  rw [if_neg h1, out_f l hlen' _ (by omega), Option.bind_some]
  cases hin : l.any outsideB with
  | true => rw [if_pos rfl]; exact hT _
  | false =>
    rw [if_neg (by decide), out_f _ (by simp) _ (by simp; omega), Option.bind_some]
    simp only [List.any_cons, List.any_nil, Bool.or_false]
    cases hlv : outsideB lv with
    | true => exact hT _
    | false =>
      show shuntlaw20_ProbeRises.j0 (K + 1) l lv false = some true
      rw [shuntlaw20_ProbeRises.j0, if_neg (by decide)]
      exact rises_l0 l lv (by omega) hin hlv l.length 0 0 (by omega) (Nat.le_refl _) (by omega) rfl _ (by omega)
end Go.Proofs.YtbckpbiimknnnaaDoor.X
namespace Go.Proofs.YtbckpbiimknnnaaDoorW.PrintWords
open Go.ChangeShapes Go.WideShapes
theorem sized_ints {H : Type} {enc : TypeId × Value → H} {P : Program} {W : World} {base : Nat} {spare : Nat → Bool} {held : Bool} {t e : TypeId} {k : IntKind} {a : Option Addr} {len cap : Nat} {d : DataW H} {ps : List MemPlace} {ts : List TypeId} {ds : List (DataW H)} {j : Nat}
    (hsz : (DataW.weightsEach P ts ds).all (· ≤ reachBytes) = true) (ht : ts[j]? = some t) (hd : ds[j]? = some d) (hu : P.underlying t = some (.slice e)) (he : P.underlying e = some (.int k)) (hc : P.cellsOf e = 1) {B : Nat} (hB : P.bytesOf e = B)
    (h : DataW.Trod enc P W base spare held t (.slice a len cap) d ps) : len * B ≤ 140737488351232 := by
  obtain ⟨fuel, hf⟩ := h
  rcases open_ints hu he hc hf with ⟨hcs, _⟩ | ⟨x, l, c, zs, hcs, _, hl, _, hz, hx, _, _⟩
  · simp [Value.cells] at hcs
    obtain ⟨rfl, rfl, rfl⟩ := hcs
    simp
  · simp [Value.cells] at hcs
    obtain ⟨rfl, rfl, rfl⟩ := hcs
    obtain ⟨hx, _⟩ := Prod.mk.inj hx
    subst hx
    have z := sized_slice hsz ht hd hu
    rw [hB] at z
    have hl2 : len ≤ zs.length := by
      rw [hz]
      split
      · exact hl
      · exact Nat.le_refl _
    have h1 : (lits (H := H) k (zs.take len)).length + (lits (H := H) k (zs.drop len)).length = zs.length := by
      simp [lits]
      omega
    rw [h1] at z
    exact Nat.le_trans (Nat.mul_le_mul_right _ hl2) z
end Go.Proofs.YtbckpbiimknnnaaDoorW.PrintWords
