import Derived.Test.YtbckpbiimknnnaaDoorJRowSettles0
import Derived.Maps.Own
import Derived.Maps.OwnOps
import Derived.Maps.OwnSet
import Derived.Maps.Views
import Derived.Maps.Keyed
import Derived.Deep.DeepMust
import Derived.StringKeys
namespace Go.Proofs.YtbckpbiimknnnaaDoor.X
open Go.RowKit Go.Proofs.YtbckpbiimknnnaaDoorW.PrintWords Go.Proofs.YtbckpbiimknnnaaDoorW.PrintLast Go.Proofs.YtbckpbiimknnnaaDoorW.PrintMore
attribute [local go_sem] max2_int min2_int max_two min_two max_three min_three max_four min_four
set_option linter.unusedVariables false
set_option linter.unusedSimpArgs false
def probe_spot.j0 : Nat → ByteArray → Bool → Option (Int × List ByteArray × Bool)
  | 0, _, _ => none
  | k + 1, x0, x31 => if x31 = true then (some (0, ([] : List ByteArray), false)) else (if 2 ≤ (wrap64 ((x0.size : Int) - 1)) then (if (wrap64 ((x0.size : Int) - 1)) ≤ (x0.size : Int) then ((strings_Split.f (x0.extract 2 ((wrap64 ((x0.size : Int) - 1)) : Int).toNat) (⟨#[44]⟩ : ByteArray)).bind fun t101 => (if (t101.length : Int) > 2 then (some (0, ([] : List ByteArray), false)) else (if 0 < (x0.size : Int) then (if (bt x0 0) = 105 then (if (t101.length : Int) = 1 then ((slices_ContainsFunc_string_string__probe_spot_1.f t101).bind fun t104 => (if t104 = true then (some (0, ([] : List ByteArray), false)) else (some (bt x0 0, t101, true)))) else (some (0, ([] : List ByteArray), false))) else ((slices_ContainsFunc_string_string__probe_spot_1.f t101).bind fun t105 => (if t105 = true then (some (0, ([] : List ByteArray), false)) else (some (bt x0 0, t101, true))))) else (none)))) else (none)) else (none))
def probe_spot.f (k : Nat) (a0 : ByteArray) : Option (Int × List ByteArray × Bool) := if (a0.size : Int) < 4 then (probe_spot.j0 k a0 true) else (if 0 < (a0.size : Int) then (if (bt a0 0) = 118 then (if 1 < (a0.size : Int) then (if (bt a0 1) = 40 then (if 0 ≤ (wrap64 ((a0.size : Int) - 1)) then (if (wrap64 ((a0.size : Int) - 1)) < (a0.size : Int) then (probe_spot.j0 k a0 ((bt a0 (wrap64 ((a0.size : Int) - 1))) != 41)) else (none)) else (none)) else (probe_spot.j0 k a0 true)) else (none)) else (if (bt a0 0) = 105 then (if 1 < (a0.size : Int) then (if (bt a0 1) = 40 then (if 0 ≤ (wrap64 ((a0.size : Int) - 1)) then (if (wrap64 ((a0.size : Int) - 1)) < (a0.size : Int) then (probe_spot.j0 k a0 ((bt a0 (wrap64 ((a0.size : Int) - 1))) != 41)) else (none)) else (none)) else (probe_spot.j0 k a0 true)) else (none)) else (probe_spot.j0 k a0 true))) else (none))
theorem probe_spot.mono_l : ∀ k, (∀ y0 y1, LeO (probe_spot.j0 k y0 y1) (probe_spot.j0 (k + 1) y0 y1))
  | 0 => fun _ _ r h => by simp [probe_spot.j0] at h
  | k + 1 => by
    have ih0 := probe_spot.mono_l k
    · intro y0 y1
      unfold probe_spot.j0
      repeat' first
      | (with_reducible exact ih0 _ _)
      | (with_reducible exact LeO.refl _)
      | (with_reducible exact LeO.none _)
      | (with_reducible refine LeO.ite ?_ ?_)
      | (with_reducible refine LeO.bind ?_ (fun _ => ?_))
      | exact ih0 _ _
      | exact LeO.none _
      | refine LeO.ite ?_ ?_
      | refine LeO.bind ?_ (fun _ => ?_)
theorem probe_spot.mono : ∀ a0 k, LeO (probe_spot.f k a0) (probe_spot.f (k + 1) a0) := by
  intro a0 k
  have ih0 := probe_spot.mono_l k
  unfold probe_spot.f
  repeat' first
      | (with_reducible exact ih0 _ _)
      | (with_reducible exact LeO.refl _)
      | (with_reducible exact LeO.none _)
      | (with_reducible refine LeO.ite ?_ ?_)
      | (with_reducible refine LeO.bind ?_ (fun _ => ?_))
      | exact ih0 _ _
      | exact LeO.none _
      | refine LeO.ite ?_ ?_
      | refine LeO.bind ?_ (fun _ => ?_)
set_option maxHeartbeats 8000000 in
set_option maxRecDepth 100000 in
theorem probe_spot.calls (k : Nat) (a0 : ByteArray) (r1 : Int) (r2 : List ByteArray) (r3 : Bool) (w : World) (h : probe_spot.f k a0 = some (r1, r2, r3)) :
    Calls Tryd.prog 16 #[.string a0] w fun e w' => ∃ v1_ : Value, e = .returned (.tuple #[.int .u8 r1, v1_, .bool r3]) ∧ Kd.R Kd.string 9 w' w.heap.size (fun _ => True) v1_ r2 ∧ Below w.heap.size w w' := by
  have HB := Aside0.mk (Below.refl w.heap.size w)
  have H : (if (a0.size : Int) < 4 then (probe_spot.j0 k a0 true) else (if 0 < (a0.size : Int) then (if (bt a0 0) = 118 then (if 1 < (a0.size : Int) then (if (bt a0 1) = 40 then (if 0 ≤ (wrap64 ((a0.size : Int) - 1)) then (if (wrap64 ((a0.size : Int) - 1)) < (a0.size : Int) then (probe_spot.j0 k a0 ((bt a0 (wrap64 ((a0.size : Int) - 1))) != 41)) else (none)) else (none)) else (probe_spot.j0 k a0 true)) else (none)) else (if (bt a0 0) = 105 then (if 1 < (a0.size : Int) then (if (bt a0 1) = 40 then (if 0 ≤ (wrap64 ((a0.size : Int) - 1)) then (if (wrap64 ((a0.size : Int) - 1)) < (a0.size : Int) then (probe_spot.j0 k a0 ((bt a0 (wrap64 ((a0.size : Int) - 1))) != 41)) else (none)) else (none)) else (probe_spot.j0 k a0 true)) else (none)) else (probe_spot.j0 k a0 true))) else (none))) = some (r1, r2, r3) := h
  clear h
  have HC2 := Aside0.mk H
  clear H
  go_enter Tryd.func16, Tryd.ntmps16
  go_upto_region 1 with (fail)
  go_cut [31] (fun v31 wc => ∃ (kq : Nat) (x31_1 : Bool), v31 = .bool x31_1 ∧ Aside0 (probe_spot.j0 kq a0 x31_1 = some (r1, r2, r3)) ∧ Aside0 (kq ≤ k) ∧ Aside0 (Below w.heap.size w wc))
  case first =>
    have H := HC2.out
    clear HC2
    by_cases c3 : (a0.size : Int) < 4
    · rw [if_pos c3] at H
      have c3b0 : decide ((a0.size : Int) < 4) = true := decide_eq_true c3
      have c3b1 : decide (a0.size < 4) = true := decide_eq_true (by omega)
      clear c3
      (first | rw [c3b0] | (simp only [i64_w, i32_w]; rw [c3b0]) | skip)
      have H' := Aside0.mk H
      clear H
      go_wp2
      go_meet
      case rel => exact ⟨_, (true), (by first | rfl | (simp; done) | (simp [*]; done)), H', ⟨by first | omega | exact Nat.le_refl _⟩, ⟨by repeat (first | (with_reducible first | exact HB.out | apply below_alloc | apply pw_below_drewN | apply below_drew1) | exact HB.out)⟩⟩
    · rw [if_neg c3] at H
      have c3b0 : decide ((a0.size : Int) < 4) = false := decide_eq_false c3
      have c3b1 : decide (a0.size < 4) = false := decide_eq_false (by omega)
      clear c3
      (first | rw [c3b0] | (simp only [i64_w, i32_w]; rw [c3b0]) | skip)
      by_cases c4 : 0 < (a0.size : Int)
      · rw [if_pos c4] at H
        have c4b0 : decide (0 < (a0.size : Int)) = true := decide_eq_true c4
        have c4b1 : decide (0 < a0.size) = true := decide_eq_true (by omega)
        clear c4
        by_cases c6 : (bt a0 0) = 118
        · rw [if_pos c6] at H
          have c6b0 : ((bt a0 0) == 118) = true := beq_iff_eq.mpr c6
          have c6b1 : ((bt a0 0) != 118) = false := bne_eq_false_iff_eq.mpr c6
          clear c6
          by_cases c7 : 1 < (a0.size : Int)
          · rw [if_pos c7] at H
            have c7b0 : decide (1 < (a0.size : Int)) = true := decide_eq_true c7
            have c7b1 : decide (1 < a0.size) = true := decide_eq_true (by omega)
            clear c7
            by_cases c9 : (bt a0 1) = 40
            · rw [if_pos c9] at H
              have c9b0 : ((bt a0 1) == 40) = true := beq_iff_eq.mpr c9
              have c9b1 : ((bt a0 1) != 40) = false := bne_eq_false_iff_eq.mpr c9
              clear c9
              obtain ⟨ji10, hji10⟩ : ∃ j_ : Int, (wrap64 ((a0.size : Int) - 1)) = j_ := ⟨_, rfl⟩
              replace H : (if 0 ≤ (ji10) then (if (ji10) < (a0.size : Int) then (probe_spot.j0 k a0 ((bt a0 (ji10)) != 41)) else (none)) else (none)) = some (r1, r2, r3) := by first | (rw [hji10] at H; exact H) | (simp only [hji10] at H ⊢; exact H)
              have hji10w : (IntKind.i64.wrap ((a0.size : Int) - 1)) = ji10 := (i64_w _).trans hji10
              by_cases c11 : 0 ≤ (ji10)
              · rw [if_pos c11] at H
                have c11b0 : decide (0 ≤ (ji10)) = true := decide_eq_true c11
                clear c11
                by_cases c12 : (ji10) < (a0.size : Int)
                · rw [if_pos c12] at H
                  have c12b0 : decide ((ji10) < (a0.size : Int)) = true := decide_eq_true c12
                  clear c12
                  have H' := Aside0.mk H
                  clear H
                  have p5 : 0 ≤ (0 : Int) := (by omega)
                  have q5 : 0 < a0.size := (by have : (0 : Int) < (a0.size : Int) := of_decide_eq_true (by first | (with_reducible assumption) | assumption); omega)
                  have hx5 : ∀ h : 0 < a0.size, ((a0[0]'h).toNat : Int) = bt a0 0 := bt_at a0 0
                  clear p5
                  have qi5 : (0 < (a0.size : Int)) = True := eq_true (of_decide_eq_true (by first | (with_reducible assumption) | assumption))
                  replace q5 := eq_true q5
                  have p8 : 0 ≤ (1 : Int) := (by omega)
                  have q8 : 1 < a0.size := (by have : (1 : Int) < (a0.size : Int) := of_decide_eq_true (by first | (with_reducible assumption) | assumption); omega)
                  have hx8 : ∀ h : 1 < a0.size, ((a0[1]'h).toNat : Int) = bt a0 1 := bt_at a0 1
                  clear p8
                  have qi8 : (1 < (a0.size : Int)) = True := eq_true (of_decide_eq_true (by first | (with_reducible assumption) | assumption))
                  replace q8 := eq_true q8
                  have p13 : 0 ≤ ((ji10) : Int) := of_decide_eq_true (by first | (with_reducible assumption) | assumption)
                  have q13 : (ji10) < (a0.size : Int) := of_decide_eq_true (by first | (with_reducible assumption) | assumption)
                  have hx13 := bt_at a0 (ji10)
                  replace p13 := eq_true p13
                  replace q13 := eq_true q13
                  go_wp2
                  go_meet
                  case rel => exact ⟨_, (((bt a0 (ji10)) != 41)), (by first | rfl | (simp; done) | (simp only [← hji10] <;> (first | rfl | simp)) | (simp [*]; done)), H', ⟨by first | omega | exact Nat.le_refl _⟩, ⟨by repeat (first | (with_reducible first | exact HB.out | apply below_alloc | apply pw_below_drewN | apply below_drew1) | exact HB.out)⟩⟩
                · rw [if_neg c12] at H
                  exact absurd H (by simp)
              · rw [if_neg c11] at H
                exact absurd H (by simp)
            · rw [if_neg c9] at H
              have c9b0 : ((bt a0 1) == 40) = false := beq_eq_false_iff_ne.mpr c9
              have c9b1 : ((bt a0 1) != 40) = true := bne_iff_ne.mpr c9
              have H' := Aside0.mk H
              clear H
              have p5 : 0 ≤ (0 : Int) := (by omega)
              have q5 : 0 < a0.size := (by have : (0 : Int) < (a0.size : Int) := of_decide_eq_true (by first | (with_reducible assumption) | assumption); omega)
              have hx5 : ∀ h : 0 < a0.size, ((a0[0]'h).toNat : Int) = bt a0 0 := bt_at a0 0
              clear p5
              have qi5 : (0 < (a0.size : Int)) = True := eq_true (of_decide_eq_true (by first | (with_reducible assumption) | assumption))
              replace q5 := eq_true q5
              have p8 : 0 ≤ (1 : Int) := (by omega)
              have q8 : 1 < a0.size := (by have : (1 : Int) < (a0.size : Int) := of_decide_eq_true (by first | (with_reducible assumption) | assumption); omega)
              have hx8 : ∀ h : 1 < a0.size, ((a0[1]'h).toNat : Int) = bt a0 1 := bt_at a0 1
              clear p8
              have qi8 : (1 < (a0.size : Int)) = True := eq_true (of_decide_eq_true (by first | (with_reducible assumption) | assumption))
              replace q8 := eq_true q8
              go_wp2
              go_meet
              case rel => exact ⟨_, (true), (by first | rfl | (simp; done) | (simp [*]; done)), H', ⟨by first | omega | exact Nat.le_refl _⟩, ⟨by repeat (first | (with_reducible first | exact HB.out | apply below_alloc | apply pw_below_drewN | apply below_drew1) | exact HB.out)⟩⟩
          · rw [if_neg c7] at H
            exact absurd H (by simp)
        · rw [if_neg c6] at H
          have c6b0 : ((bt a0 0) == 118) = false := beq_eq_false_iff_ne.mpr c6
          have c6b1 : ((bt a0 0) != 118) = true := bne_iff_ne.mpr c6
          by_cases c15 : (bt a0 0) = 105
          · rw [if_pos c15] at H
            have c15b0 : ((bt a0 0) == 105) = true := beq_iff_eq.mpr c15
            have c15b1 : ((bt a0 0) != 105) = false := bne_eq_false_iff_eq.mpr c15
            clear c15
            by_cases c16 : 1 < (a0.size : Int)
            · rw [if_pos c16] at H
              have c16b0 : decide (1 < (a0.size : Int)) = true := decide_eq_true c16
              have c16b1 : decide (1 < a0.size) = true := decide_eq_true (by omega)
              clear c16
              by_cases c18 : (bt a0 1) = 40
              · rw [if_pos c18] at H
                have c18b0 : ((bt a0 1) == 40) = true := beq_iff_eq.mpr c18
                have c18b1 : ((bt a0 1) != 40) = false := bne_eq_false_iff_eq.mpr c18
                clear c18
                obtain ⟨ji19, hji19⟩ : ∃ j_ : Int, (wrap64 ((a0.size : Int) - 1)) = j_ := ⟨_, rfl⟩
                replace H : (if 0 ≤ (ji19) then (if (ji19) < (a0.size : Int) then (probe_spot.j0 k a0 ((bt a0 (ji19)) != 41)) else (none)) else (none)) = some (r1, r2, r3) := by first | (rw [hji19] at H; exact H) | (simp only [hji19] at H ⊢; exact H)
                have hji19w : (IntKind.i64.wrap ((a0.size : Int) - 1)) = ji19 := (i64_w _).trans hji19
                by_cases c20 : 0 ≤ (ji19)
                · rw [if_pos c20] at H
                  have c20b0 : decide (0 ≤ (ji19)) = true := decide_eq_true c20
                  clear c20
                  by_cases c21 : (ji19) < (a0.size : Int)
                  · rw [if_pos c21] at H
                    have c21b0 : decide ((ji19) < (a0.size : Int)) = true := decide_eq_true c21
                    clear c21
                    have H' := Aside0.mk H
                    clear H
                    have p5 : 0 ≤ (0 : Int) := (by omega)
                    have q5 : 0 < a0.size := (by have : (0 : Int) < (a0.size : Int) := of_decide_eq_true (by first | (with_reducible assumption) | assumption); omega)
                    have hx5 : ∀ h : 0 < a0.size, ((a0[0]'h).toNat : Int) = bt a0 0 := bt_at a0 0
                    clear p5
                    have qi5 : (0 < (a0.size : Int)) = True := eq_true (of_decide_eq_true (by first | (with_reducible assumption) | assumption))
                    replace q5 := eq_true q5
                    have p14 : 0 ≤ (0 : Int) := (by omega)
                    have q14 : 0 < a0.size := (by have : (0 : Int) < (a0.size : Int) := of_decide_eq_true (by first | (with_reducible assumption) | assumption); omega)
                    have hx14 : ∀ h : 0 < a0.size, ((a0[0]'h).toNat : Int) = bt a0 0 := bt_at a0 0
                    clear p14
                    have qi14 : (0 < (a0.size : Int)) = True := eq_true (of_decide_eq_true (by first | (with_reducible assumption) | assumption))
                    replace q14 := eq_true q14
                    have p17 : 0 ≤ (1 : Int) := (by omega)
                    have q17 : 1 < a0.size := (by have : (1 : Int) < (a0.size : Int) := of_decide_eq_true (by first | (with_reducible assumption) | assumption); omega)
                    have hx17 : ∀ h : 1 < a0.size, ((a0[1]'h).toNat : Int) = bt a0 1 := bt_at a0 1
                    clear p17
                    have qi17 : (1 < (a0.size : Int)) = True := eq_true (of_decide_eq_true (by first | (with_reducible assumption) | assumption))
                    replace q17 := eq_true q17
                    have p22 : 0 ≤ ((ji19) : Int) := of_decide_eq_true (by first | (with_reducible assumption) | assumption)
                    have q22 : (ji19) < (a0.size : Int) := of_decide_eq_true (by first | (with_reducible assumption) | assumption)
                    have hx22 := bt_at a0 (ji19)
                    replace p22 := eq_true p22
                    replace q22 := eq_true q22
                    go_wp2
                    go_meet
                    case rel => exact ⟨_, (((bt a0 (ji19)) != 41)), (by first | rfl | (simp; done) | (simp only [← hji19] <;> (first | rfl | simp)) | (simp [*]; done)), H', ⟨by first | omega | exact Nat.le_refl _⟩, ⟨by repeat (first | (with_reducible first | exact HB.out | apply below_alloc | apply pw_below_drewN | apply below_drew1) | exact HB.out)⟩⟩
                  · rw [if_neg c21] at H
                    exact absurd H (by simp)
                · rw [if_neg c20] at H
                  exact absurd H (by simp)
              · rw [if_neg c18] at H
                have c18b0 : ((bt a0 1) == 40) = false := beq_eq_false_iff_ne.mpr c18
                have c18b1 : ((bt a0 1) != 40) = true := bne_iff_ne.mpr c18
                have H' := Aside0.mk H
                clear H
                have p5 : 0 ≤ (0 : Int) := (by omega)
                have q5 : 0 < a0.size := (by have : (0 : Int) < (a0.size : Int) := of_decide_eq_true (by first | (with_reducible assumption) | assumption); omega)
                have hx5 : ∀ h : 0 < a0.size, ((a0[0]'h).toNat : Int) = bt a0 0 := bt_at a0 0
                clear p5
                have qi5 : (0 < (a0.size : Int)) = True := eq_true (of_decide_eq_true (by first | (with_reducible assumption) | assumption))
                replace q5 := eq_true q5
                have p14 : 0 ≤ (0 : Int) := (by omega)
                have q14 : 0 < a0.size := (by have : (0 : Int) < (a0.size : Int) := of_decide_eq_true (by first | (with_reducible assumption) | assumption); omega)
                have hx14 : ∀ h : 0 < a0.size, ((a0[0]'h).toNat : Int) = bt a0 0 := bt_at a0 0
                clear p14
                have qi14 : (0 < (a0.size : Int)) = True := eq_true (of_decide_eq_true (by first | (with_reducible assumption) | assumption))
                replace q14 := eq_true q14
                have p17 : 0 ≤ (1 : Int) := (by omega)
                have q17 : 1 < a0.size := (by have : (1 : Int) < (a0.size : Int) := of_decide_eq_true (by first | (with_reducible assumption) | assumption); omega)
                have hx17 : ∀ h : 1 < a0.size, ((a0[1]'h).toNat : Int) = bt a0 1 := bt_at a0 1
                clear p17
                have qi17 : (1 < (a0.size : Int)) = True := eq_true (of_decide_eq_true (by first | (with_reducible assumption) | assumption))
                replace q17 := eq_true q17
                go_wp2
                go_meet
                case rel => exact ⟨_, (true), (by first | rfl | (simp; done) | (simp [*]; done)), H', ⟨by first | omega | exact Nat.le_refl _⟩, ⟨by repeat (first | (with_reducible first | exact HB.out | apply below_alloc | apply pw_below_drewN | apply below_drew1) | exact HB.out)⟩⟩
            · rw [if_neg c16] at H
              exact absurd H (by simp)
          · rw [if_neg c15] at H
            have c15b0 : ((bt a0 0) == 105) = false := beq_eq_false_iff_ne.mpr c15
            have c15b1 : ((bt a0 0) != 105) = true := bne_iff_ne.mpr c15
            have H' := Aside0.mk H
            clear H
            have p5 : 0 ≤ (0 : Int) := (by omega)
            have q5 : 0 < a0.size := (by have : (0 : Int) < (a0.size : Int) := of_decide_eq_true (by first | (with_reducible assumption) | assumption); omega)
            have hx5 : ∀ h : 0 < a0.size, ((a0[0]'h).toNat : Int) = bt a0 0 := bt_at a0 0
            clear p5
            have qi5 : (0 < (a0.size : Int)) = True := eq_true (of_decide_eq_true (by first | (with_reducible assumption) | assumption))
            replace q5 := eq_true q5
            have p14 : 0 ≤ (0 : Int) := (by omega)
            have q14 : 0 < a0.size := (by have : (0 : Int) < (a0.size : Int) := of_decide_eq_true (by first | (with_reducible assumption) | assumption); omega)
            have hx14 : ∀ h : 0 < a0.size, ((a0[0]'h).toNat : Int) = bt a0 0 := bt_at a0 0
            clear p14
            have qi14 : (0 < (a0.size : Int)) = True := eq_true (of_decide_eq_true (by first | (with_reducible assumption) | assumption))
            replace q14 := eq_true q14
            go_wp2
            go_meet
            case rel => exact ⟨_, (true), (by first | rfl | (simp; done) | (simp [*]; done)), H', ⟨by first | omega | exact Nat.le_refl _⟩, ⟨by repeat (first | (with_reducible first | exact HB.out | apply below_alloc | apply pw_below_drewN | apply below_drew1) | exact HB.out)⟩⟩
      · rw [if_neg c4] at H
        exact absurd H (by simp)
  case rest =>
    clear HC2
    try clear c1; try clear p1; try clear q1; try clear hx1; try clear qi1; try clear c2; try clear p2; try clear q2; try clear hx2; try clear c3; try clear c3b0; try clear c3b1; try clear c4; try clear c4b0; try clear c4b1; try clear p5; try clear q5; try clear hx5; try clear qi5; try clear c6; try clear c6b0; try clear c6b1; try clear p6; try clear c7; try clear c7b0; try clear c7b1; try clear p8; try clear q8; try clear hx8; try clear qi8; try clear c9; try clear c9b0; try clear c9b1; try clear c11; try clear c11b0; try clear c12; try clear c12b0; try clear p13; try clear q13; try clear hx13; try clear p14; try clear q14; try clear hx14; try clear qi14; try clear c15; try clear c15b0; try clear c15b1; try clear c16; try clear c16b0; try clear c16b1; try clear p17; try clear q17; try clear hx17; try clear qi17; try clear c18; try clear c18b0; try clear c18b1; try clear c20; try clear c20b0; try clear c21; try clear c21b0; try clear p22; try clear q22; try clear hx22; try clear p13; try clear p14; try clear p17; try clear p22; try clear p5; try clear p8; try clear q13; try clear q14; try clear q17; try clear q22; try clear q5; try clear q8
    obtain ⟨kq, x31_1, rfl, HA, HJ1, HB⟩ := hcut
    cases kq with
    | zero => exact absurd HA.out (by simp [probe_spot.j0])
    | succ kj1 =>
      have H := HA.out
      clear HA
      simp only [probe_spot.j0] at H
      by_cases c23 : x31_1 = true
      · subst c23
        have H1 : (some (0, ([] : List ByteArray), false)) = some (r1, r2, r3) := by rw [if_pos rfl] at H; exact H
        clear H
        have H := H1
        clear H1
        simp only [Option.some.injEq, Prod.mk.injEq] at H
        obtain ⟨rfl, rfl, rfl⟩ := H
        go_wp2
        go_ret3
        exact ⟨_, by first | rfl | (simp [errW_none, errW_some] <;> rfl) | (simp [*, errW_none, errW_some] <;> rfl), by first | exact Kd.R_nil _ _ _ _ _ | exact Kd.N_nil _ _ _ _ _ | exact Kd.V_nil _ _ _ _ _ | exact Kd.Q_nil _ _ _ _ _ | exact Kd.S_nil _ _ _ _ _, by repeat (first | (with_reducible first | exact HB.out | apply below_alloc | apply pw_below_drewN | apply below_drew1) | exact HB.out)⟩
      · replace c23 := Bool.eq_false_iff.mpr c23
        subst c23
        have H1 : (if 2 ≤ (wrap64 ((a0.size : Int) - 1)) then (if (wrap64 ((a0.size : Int) - 1)) ≤ (a0.size : Int) then ((strings_Split.f (a0.extract 2 ((wrap64 ((a0.size : Int) - 1)) : Int).toNat) (⟨#[44]⟩ : ByteArray)).bind fun t101 => (if (t101.length : Int) > 2 then (some (0, ([] : List ByteArray), false)) else (if 0 < (a0.size : Int) then (if (bt a0 0) = 105 then (if (t101.length : Int) = 1 then ((slices_ContainsFunc_string_string__probe_spot_1.f t101).bind fun t104 => (if t104 = true then (some (0, ([] : List ByteArray), false)) else (some (bt a0 0, t101, true)))) else (some (0, ([] : List ByteArray), false))) else ((slices_ContainsFunc_string_string__probe_spot_1.f t101).bind fun t105 => (if t105 = true then (some (0, ([] : List ByteArray), false)) else (some (bt a0 0, t101, true))))) else (none)))) else (none)) else (none)) = some (r1, r2, r3) := by rw [if_neg (show ¬ (false = true) by decide)] at H; exact H
        clear H
        have H := H1
        clear H1
        by_cases c24 : 2 ≤ (wrap64 ((a0.size : Int) - 1))
        · rw [if_pos c24] at H
          have c24b0 := eq_true c24
          have c24b1 : decide (2 ≤ (wrap64 ((a0.size : Int) - 1))) = true := decide_eq_true c24
          clear c24
          by_cases c25 : (wrap64 ((a0.size : Int) - 1)) ≤ (a0.size : Int)
          · rw [if_pos c25] at H
            have c25b0 := eq_true c25
            have c25b1 : decide ((wrap64 ((a0.size : Int) - 1)) ≤ (a0.size : Int)) = true := decide_eq_true c25
            clear c25
            replace H := Option.bind_eq_some_iff.mp H
            obtain ⟨t101, A260, H⟩ := H
            replace H : (if (t101.length : Int) > 2 then (some (0, ([] : List ByteArray), false)) else (if 0 < (a0.size : Int) then (if (bt a0 0) = 105 then (if (t101.length : Int) = 1 then ((slices_ContainsFunc_string_string__probe_spot_1.f t101).bind fun t104 => (if t104 = true then (some (0, ([] : List ByteArray), false)) else (some (bt a0 0, t101, true)))) else (some (0, ([] : List ByteArray), false))) else ((slices_ContainsFunc_string_string__probe_spot_1.f t101).bind fun t105 => (if t105 = true then (some (0, ([] : List ByteArray), false)) else (some (bt a0 0, t101, true))))) else (none))) = some (r1, r2, r3) := H
            have A26 := Aside0.mk A260
            clear A260
            by_cases c27 : (t101.length : Int) > 2
            · rw [if_pos c27] at H
              have c27b0 : decide (2 < (t101.length : Int)) = true := decide_eq_true c27
              have c27b1 : decide (2 < t101.length) = true := decide_eq_true (by omega)
              clear c27
              simp only [Option.some.injEq, Prod.mk.injEq] at H
              obtain ⟨rfl, rfl, rfl⟩ := H
              go_wp2_with (first | ((with_reducible refine gate_callee (f := 27) rfl ?_); refine goesL_ (some 37) rfl rfl Tryd.func27 (by kernel_rfl) rfl #[.string (a0.extract 2 ((wrap64 ((a0.size : Int) - 1)) : Int).toNat), .string (⟨#[44]⟩ : ByteArray)] rfl (by (try simp only [List.map_toArray, List.map_cons, List.map_nil]); first | done | rfl | (simp only [List.length_drop, List.length_take]; rfl)) ?_; (with_reducible refine (strings_Split.calls (a0.extract 2 ((wrap64 ((a0.size : Int) - 1)) : Int).toNat) (⟨#[44]⟩ : ByteArray) t101 _ A26.out).mono ?_); rintro e w28 ⟨v102, rfl, ho0, hb⟩; refine ⟨_, rfl, ?_⟩; have n0_ := Aside0.mk (Kd.R_lower ho0 (below_size (by repeat (first | (with_reducible first | exact HB.out | apply below_alloc | apply pw_below_drewN | apply below_drew1) | exact HB.out)))); have n1_ := Aside0.mk (below_step (by repeat (first | (with_reducible first | exact HB.out | apply below_alloc | apply pw_below_drewN | apply below_drew1) | exact HB.out)) hb); clear HB; have HO103 := n0_; have HB := n1_; clear n0_ n1_; (try clear hb); (try clear hb2); (try clear hk); (try clear hi); (try clear ho0); obtain ⟨Ao29, co29, eo29⟩ := Kd.R_slice HO103.out; subst eo29))
              go_ret3
              exact ⟨_, by first | rfl | (simp [errW_none, errW_some] <;> rfl) | (simp [*, errW_none, errW_some] <;> rfl), by first | exact Kd.R_nil _ _ _ _ _ | exact Kd.N_nil _ _ _ _ _ | exact Kd.V_nil _ _ _ _ _ | exact Kd.Q_nil _ _ _ _ _ | exact Kd.S_nil _ _ _ _ _, by repeat (first | (with_reducible first | exact HB.out | apply below_alloc | apply pw_below_drewN | apply below_drew1) | exact HB.out)⟩
            · rw [if_neg c27] at H
              have c27b0 : decide (2 < (t101.length : Int)) = false := decide_eq_false c27
              have c27b1 : decide (2 < t101.length) = false := decide_eq_false (by omega)
              clear c27
              by_cases c30 : 0 < (a0.size : Int)
              · rw [if_pos c30] at H
                have c30b0 : decide (0 < (a0.size : Int)) = true := decide_eq_true c30
                have c30b1 : decide (0 < a0.size) = true := decide_eq_true (by omega)
                clear c30
                by_cases c32 : (bt a0 0) = 105
                · rw [if_pos c32] at H
                  have c32b0 : ((bt a0 0) == 105) = true := beq_iff_eq.mpr c32
                  have c32b1 : ((bt a0 0) != 105) = false := bne_eq_false_iff_eq.mpr c32
                  clear c32
                  by_cases c33 : (t101.length : Int) = 1
                  · rw [if_pos c33] at H
                    have c33b0 : ((t101.length : Int) == 1) = true := beq_iff_eq.mpr c33
                    have c33b1 : ((t101.length : Int) != 1) = false := bne_eq_false_iff_eq.mpr c33
                    clear c33
                    replace H := Option.bind_eq_some_iff.mp H
                    obtain ⟨t104, A340, H⟩ := H
                    replace H : (if t104 = true then (some (0, ([] : List ByteArray), false)) else (some (bt a0 0, t101, true))) = some (r1, r2, r3) := H
                    have A34 := Aside0.mk A340
                    clear A340
                    by_cases c35 : t104 = true
                    · subst c35
                      have H1 : (some (0, ([] : List ByteArray), false)) = some (r1, r2, r3) := by rw [if_pos rfl] at H; exact H
                      clear H
                      have H := H1
                      clear H1
                      simp only [Option.some.injEq, Prod.mk.injEq] at H
                      obtain ⟨rfl, rfl, rfl⟩ := H
                      go_wp2_with (first | ((with_reducible refine gate_callee (f := 27) rfl ?_); refine goesL_ (some 37) rfl rfl Tryd.func27 (by kernel_rfl) rfl #[.string (a0.extract 2 ((wrap64 ((a0.size : Int) - 1)) : Int).toNat), .string (⟨#[44]⟩ : ByteArray)] rfl (by (try simp only [List.map_toArray, List.map_cons, List.map_nil]); first | done | rfl | (simp only [List.length_drop, List.length_take]; rfl)) ?_; (with_reducible refine (strings_Split.calls (a0.extract 2 ((wrap64 ((a0.size : Int) - 1)) : Int).toNat) (⟨#[44]⟩ : ByteArray) t101 _ A26.out).mono ?_); rintro e w36 ⟨v102, rfl, ho0, hb⟩; refine ⟨_, rfl, ?_⟩; have n0_ := Aside0.mk (Kd.R_lower ho0 (below_size (by repeat (first | (with_reducible first | exact HB.out | apply below_alloc | apply pw_below_drewN | apply below_drew1) | exact HB.out)))); have n1_ := Aside0.mk (below_step (by repeat (first | (with_reducible first | exact HB.out | apply below_alloc | apply pw_below_drewN | apply below_drew1) | exact HB.out)) hb); clear HB; have HO103 := n0_; have HB := n1_; clear n0_ n1_; (try clear hb); (try clear hb2); (try clear hk); (try clear hi); (try clear ho0); obtain ⟨Ao37, co37, eo37⟩ := Kd.R_slice HO103.out; subst eo37; have p31 : 0 ≤ (0 : Int) := (by omega); have q31 : 0 < a0.size := (by have : (0 : Int) < (a0.size : Int) := of_decide_eq_true (by first | (with_reducible assumption) | assumption); omega); have hx31 : ∀ h : 0 < a0.size, ((a0[0]'h).toNat : Int) = bt a0 0 := bt_at a0 0; clear p31; have qi31 : (0 < (a0.size : Int)) = True := eq_true (of_decide_eq_true (by first | (with_reducible assumption) | assumption)); replace q31 := eq_true q31) | (go_at_call 28; (with_reducible refine (slices_ContainsFunc_string_string__probe_spot_1.calls _ _ t101 true _ ?side1 ?side2 A34.out).mono ?_); (case side1 => repeat (first | exact (Kd.R_reads' HO103.out).2.2 | (with_reducible refine Kd.C_alloc ?_ _) | (with_reducible refine Kd.C_drewN ?_ _) | (with_reducible refine Kd.C_drew ?_))); (case side2 => exact (Kd.R_reads' HO103.out).2.1); rintro e w38 ⟨rfl, hb⟩; have n0_ := Aside0.mk (Kd.R_below (by (with_reducible repeat (first | apply Kd.R_alloc | apply Kd.R_drewN | apply Kd.R_drew)); exact HO103.out) hb); have n1_ := Aside0.mk (below_step (by repeat (first | (with_reducible first | exact HB.out | apply below_alloc | apply pw_below_drewN | apply below_drew1) | exact HB.out)) hb); clear HO103; clear HB; have HO103 := n0_; have HB := n1_; clear n0_ n1_; (try clear hb); (try clear hb2); (try clear hk); (try clear hi)))
                      go_ret3
                      exact ⟨_, by first | rfl | (simp [errW_none, errW_some] <;> rfl) | (simp [*, errW_none, errW_some] <;> rfl), by first | exact Kd.R_nil _ _ _ _ _ | exact Kd.N_nil _ _ _ _ _ | exact Kd.V_nil _ _ _ _ _ | exact Kd.Q_nil _ _ _ _ _ | exact Kd.S_nil _ _ _ _ _, by repeat (first | (with_reducible first | exact HB.out | apply below_alloc | apply pw_below_drewN | apply below_drew1) | exact HB.out)⟩
                    · replace c35 := Bool.eq_false_iff.mpr c35
                      subst c35
                      have H1 : (some (bt a0 0, t101, true)) = some (r1, r2, r3) := by rw [if_neg (show ¬ (false = true) by decide)] at H; exact H
                      clear H
                      have H := H1
                      clear H1
                      simp only [Option.some.injEq, Prod.mk.injEq] at H
                      obtain ⟨rfl, rfl, rfl⟩ := H
                      go_wp2_with (first | ((with_reducible refine gate_callee (f := 27) rfl ?_); refine goesL_ (some 37) rfl rfl Tryd.func27 (by kernel_rfl) rfl #[.string (a0.extract 2 ((wrap64 ((a0.size : Int) - 1)) : Int).toNat), .string (⟨#[44]⟩ : ByteArray)] rfl (by (try simp only [List.map_toArray, List.map_cons, List.map_nil]); first | done | rfl | (simp only [List.length_drop, List.length_take]; rfl)) ?_; (with_reducible refine (strings_Split.calls (a0.extract 2 ((wrap64 ((a0.size : Int) - 1)) : Int).toNat) (⟨#[44]⟩ : ByteArray) t101 _ A26.out).mono ?_); rintro e w40 ⟨v102, rfl, ho0, hb⟩; refine ⟨_, rfl, ?_⟩; have n0_ := Aside0.mk (Kd.R_lower ho0 (below_size (by repeat (first | (with_reducible first | exact HB.out | apply below_alloc | apply pw_below_drewN | apply below_drew1) | exact HB.out)))); have n1_ := Aside0.mk (below_step (by repeat (first | (with_reducible first | exact HB.out | apply below_alloc | apply pw_below_drewN | apply below_drew1) | exact HB.out)) hb); clear HB; have HO103 := n0_; have HB := n1_; clear n0_ n1_; (try clear hb); (try clear hb2); (try clear hk); (try clear hi); (try clear ho0); obtain ⟨Ao41, co41, eo41⟩ := Kd.R_slice HO103.out; subst eo41; have p31 : 0 ≤ (0 : Int) := (by omega); have q31 : 0 < a0.size := (by have : (0 : Int) < (a0.size : Int) := of_decide_eq_true (by first | (with_reducible assumption) | assumption); omega); have hx31 : ∀ h : 0 < a0.size, ((a0[0]'h).toNat : Int) = bt a0 0 := bt_at a0 0; clear p31; have qi31 : (0 < (a0.size : Int)) = True := eq_true (of_decide_eq_true (by first | (with_reducible assumption) | assumption)); replace q31 := eq_true q31) | (go_at_call 28; (with_reducible refine (slices_ContainsFunc_string_string__probe_spot_1.calls _ _ t101 false _ ?side1 ?side2 A34.out).mono ?_); (case side1 => repeat (first | exact (Kd.R_reads' HO103.out).2.2 | (with_reducible refine Kd.C_alloc ?_ _) | (with_reducible refine Kd.C_drewN ?_ _) | (with_reducible refine Kd.C_drew ?_))); (case side2 => exact (Kd.R_reads' HO103.out).2.1); rintro e w42 ⟨rfl, hb⟩; have n0_ := Aside0.mk (Kd.R_below (by (with_reducible repeat (first | apply Kd.R_alloc | apply Kd.R_drewN | apply Kd.R_drew)); exact HO103.out) hb); have n1_ := Aside0.mk (below_step (by repeat (first | (with_reducible first | exact HB.out | apply below_alloc | apply pw_below_drewN | apply below_drew1) | exact HB.out)) hb); clear HO103; clear HB; have HO103 := n0_; have HB := n1_; clear n0_ n1_; (try clear hb); (try clear hb2); (try clear hk); (try clear hi); have p39 : 0 ≤ (0 : Int) := (by omega); have q39 : 0 < a0.size := (by have : (0 : Int) < (a0.size : Int) := of_decide_eq_true (by first | (with_reducible assumption) | assumption); omega); have hx39 : ∀ h : 0 < a0.size, ((a0[0]'h).toNat : Int) = bt a0 0 := bt_at a0 0; clear p39; have qi39 : (0 < (a0.size : Int)) = True := eq_true (of_decide_eq_true (by first | (with_reducible assumption) | assumption)); replace q39 := eq_true q39))
                      go_ret3
                      exact ⟨_, by first | rfl | (simp [errW_none, errW_some] <;> rfl) | (simp [*, errW_none, errW_some] <;> rfl), by (with_reducible repeat (first | apply Kd.R_alloc | apply Kd.R_drewN | apply Kd.R_drew)); exact HO103.out, by repeat (first | (with_reducible first | exact HB.out | apply below_alloc | apply pw_below_drewN | apply below_drew1) | exact HB.out)⟩
                  · rw [if_neg c33] at H
                    have c33b0 : ((t101.length : Int) == 1) = false := beq_eq_false_iff_ne.mpr c33
                    have c33b1 : ((t101.length : Int) != 1) = true := bne_iff_ne.mpr c33
                    simp only [Option.some.injEq, Prod.mk.injEq] at H
                    obtain ⟨rfl, rfl, rfl⟩ := H
                    go_wp2_with (first | ((with_reducible refine gate_callee (f := 27) rfl ?_); refine goesL_ (some 37) rfl rfl Tryd.func27 (by kernel_rfl) rfl #[.string (a0.extract 2 ((wrap64 ((a0.size : Int) - 1)) : Int).toNat), .string (⟨#[44]⟩ : ByteArray)] rfl (by (try simp only [List.map_toArray, List.map_cons, List.map_nil]); first | done | rfl | (simp only [List.length_drop, List.length_take]; rfl)) ?_; (with_reducible refine (strings_Split.calls (a0.extract 2 ((wrap64 ((a0.size : Int) - 1)) : Int).toNat) (⟨#[44]⟩ : ByteArray) t101 _ A26.out).mono ?_); rintro e w43 ⟨v102, rfl, ho0, hb⟩; refine ⟨_, rfl, ?_⟩; have n0_ := Aside0.mk (Kd.R_lower ho0 (below_size (by repeat (first | (with_reducible first | exact HB.out | apply below_alloc | apply pw_below_drewN | apply below_drew1) | exact HB.out)))); have n1_ := Aside0.mk (below_step (by repeat (first | (with_reducible first | exact HB.out | apply below_alloc | apply pw_below_drewN | apply below_drew1) | exact HB.out)) hb); clear HB; have HO103 := n0_; have HB := n1_; clear n0_ n1_; (try clear hb); (try clear hb2); (try clear hk); (try clear hi); (try clear ho0); obtain ⟨Ao44, co44, eo44⟩ := Kd.R_slice HO103.out; subst eo44; have p31 : 0 ≤ (0 : Int) := (by omega); have q31 : 0 < a0.size := (by have : (0 : Int) < (a0.size : Int) := of_decide_eq_true (by first | (with_reducible assumption) | assumption); omega); have hx31 : ∀ h : 0 < a0.size, ((a0[0]'h).toNat : Int) = bt a0 0 := bt_at a0 0; clear p31; have qi31 : (0 < (a0.size : Int)) = True := eq_true (of_decide_eq_true (by first | (with_reducible assumption) | assumption)); replace q31 := eq_true q31))
                    go_ret3
                    exact ⟨_, by first | rfl | (simp [errW_none, errW_some] <;> rfl) | (simp [*, errW_none, errW_some] <;> rfl), by first | exact Kd.R_nil _ _ _ _ _ | exact Kd.N_nil _ _ _ _ _ | exact Kd.V_nil _ _ _ _ _ | exact Kd.Q_nil _ _ _ _ _ | exact Kd.S_nil _ _ _ _ _, by repeat (first | (with_reducible first | exact HB.out | apply below_alloc | apply pw_below_drewN | apply below_drew1) | exact HB.out)⟩
                · rw [if_neg c32] at H
                  have c32b0 : ((bt a0 0) == 105) = false := beq_eq_false_iff_ne.mpr c32
                  have c32b1 : ((bt a0 0) != 105) = true := bne_iff_ne.mpr c32
                  replace H := Option.bind_eq_some_iff.mp H
                  obtain ⟨t105, A450, H⟩ := H
                  replace H : (if t105 = true then (some (0, ([] : List ByteArray), false)) else (some (bt a0 0, t101, true))) = some (r1, r2, r3) := H
                  have A45 := Aside0.mk A450
                  clear A450
                  by_cases c46 : t105 = true
                  · subst c46
                    have H1 : (some (0, ([] : List ByteArray), false)) = some (r1, r2, r3) := by rw [if_pos rfl] at H; exact H
                    clear H
                    have H := H1
                    clear H1
                    simp only [Option.some.injEq, Prod.mk.injEq] at H
                    obtain ⟨rfl, rfl, rfl⟩ := H
                    go_wp2_with (first | ((with_reducible refine gate_callee (f := 27) rfl ?_); refine goesL_ (some 37) rfl rfl Tryd.func27 (by kernel_rfl) rfl #[.string (a0.extract 2 ((wrap64 ((a0.size : Int) - 1)) : Int).toNat), .string (⟨#[44]⟩ : ByteArray)] rfl (by (try simp only [List.map_toArray, List.map_cons, List.map_nil]); first | done | rfl | (simp only [List.length_drop, List.length_take]; rfl)) ?_; (with_reducible refine (strings_Split.calls (a0.extract 2 ((wrap64 ((a0.size : Int) - 1)) : Int).toNat) (⟨#[44]⟩ : ByteArray) t101 _ A26.out).mono ?_); rintro e w47 ⟨v102, rfl, ho0, hb⟩; refine ⟨_, rfl, ?_⟩; have n0_ := Aside0.mk (Kd.R_lower ho0 (below_size (by repeat (first | (with_reducible first | exact HB.out | apply below_alloc | apply pw_below_drewN | apply below_drew1) | exact HB.out)))); have n1_ := Aside0.mk (below_step (by repeat (first | (with_reducible first | exact HB.out | apply below_alloc | apply pw_below_drewN | apply below_drew1) | exact HB.out)) hb); clear HB; have HO103 := n0_; have HB := n1_; clear n0_ n1_; (try clear hb); (try clear hb2); (try clear hk); (try clear hi); (try clear ho0); obtain ⟨Ao48, co48, eo48⟩ := Kd.R_slice HO103.out; subst eo48; have p31 : 0 ≤ (0 : Int) := (by omega); have q31 : 0 < a0.size := (by have : (0 : Int) < (a0.size : Int) := of_decide_eq_true (by first | (with_reducible assumption) | assumption); omega); have hx31 : ∀ h : 0 < a0.size, ((a0[0]'h).toNat : Int) = bt a0 0 := bt_at a0 0; clear p31; have qi31 : (0 < (a0.size : Int)) = True := eq_true (of_decide_eq_true (by first | (with_reducible assumption) | assumption)); replace q31 := eq_true q31) | (go_at_call 28; (with_reducible refine (slices_ContainsFunc_string_string__probe_spot_1.calls _ _ t101 true _ ?side1 ?side2 A45.out).mono ?_); (case side1 => repeat (first | exact (Kd.R_reads' HO103.out).2.2 | (with_reducible refine Kd.C_alloc ?_ _) | (with_reducible refine Kd.C_drewN ?_ _) | (with_reducible refine Kd.C_drew ?_))); (case side2 => exact (Kd.R_reads' HO103.out).2.1); rintro e w49 ⟨rfl, hb⟩; have n0_ := Aside0.mk (Kd.R_below (by (with_reducible repeat (first | apply Kd.R_alloc | apply Kd.R_drewN | apply Kd.R_drew)); exact HO103.out) hb); have n1_ := Aside0.mk (below_step (by repeat (first | (with_reducible first | exact HB.out | apply below_alloc | apply pw_below_drewN | apply below_drew1) | exact HB.out)) hb); clear HO103; clear HB; have HO103 := n0_; have HB := n1_; clear n0_ n1_; (try clear hb); (try clear hb2); (try clear hk); (try clear hi)))
                    go_ret3
                    exact ⟨_, by first | rfl | (simp [errW_none, errW_some] <;> rfl) | (simp [*, errW_none, errW_some] <;> rfl), by first | exact Kd.R_nil _ _ _ _ _ | exact Kd.N_nil _ _ _ _ _ | exact Kd.V_nil _ _ _ _ _ | exact Kd.Q_nil _ _ _ _ _ | exact Kd.S_nil _ _ _ _ _, by repeat (first | (with_reducible first | exact HB.out | apply below_alloc | apply pw_below_drewN | apply below_drew1) | exact HB.out)⟩
                  · replace c46 := Bool.eq_false_iff.mpr c46
                    subst c46
                    have H1 : (some (bt a0 0, t101, true)) = some (r1, r2, r3) := by rw [if_neg (show ¬ (false = true) by decide)] at H; exact H
                    clear H
                    have H := H1
                    clear H1
                    simp only [Option.some.injEq, Prod.mk.injEq] at H
                    obtain ⟨rfl, rfl, rfl⟩ := H
                    go_wp2_with (first | ((with_reducible refine gate_callee (f := 27) rfl ?_); refine goesL_ (some 37) rfl rfl Tryd.func27 (by kernel_rfl) rfl #[.string (a0.extract 2 ((wrap64 ((a0.size : Int) - 1)) : Int).toNat), .string (⟨#[44]⟩ : ByteArray)] rfl (by (try simp only [List.map_toArray, List.map_cons, List.map_nil]); first | done | rfl | (simp only [List.length_drop, List.length_take]; rfl)) ?_; (with_reducible refine (strings_Split.calls (a0.extract 2 ((wrap64 ((a0.size : Int) - 1)) : Int).toNat) (⟨#[44]⟩ : ByteArray) t101 _ A26.out).mono ?_); rintro e w51 ⟨v102, rfl, ho0, hb⟩; refine ⟨_, rfl, ?_⟩; have n0_ := Aside0.mk (Kd.R_lower ho0 (below_size (by repeat (first | (with_reducible first | exact HB.out | apply below_alloc | apply pw_below_drewN | apply below_drew1) | exact HB.out)))); have n1_ := Aside0.mk (below_step (by repeat (first | (with_reducible first | exact HB.out | apply below_alloc | apply pw_below_drewN | apply below_drew1) | exact HB.out)) hb); clear HB; have HO103 := n0_; have HB := n1_; clear n0_ n1_; (try clear hb); (try clear hb2); (try clear hk); (try clear hi); (try clear ho0); obtain ⟨Ao52, co52, eo52⟩ := Kd.R_slice HO103.out; subst eo52; have p31 : 0 ≤ (0 : Int) := (by omega); have q31 : 0 < a0.size := (by have : (0 : Int) < (a0.size : Int) := of_decide_eq_true (by first | (with_reducible assumption) | assumption); omega); have hx31 : ∀ h : 0 < a0.size, ((a0[0]'h).toNat : Int) = bt a0 0 := bt_at a0 0; clear p31; have qi31 : (0 < (a0.size : Int)) = True := eq_true (of_decide_eq_true (by first | (with_reducible assumption) | assumption)); replace q31 := eq_true q31) | (go_at_call 28; (with_reducible refine (slices_ContainsFunc_string_string__probe_spot_1.calls _ _ t101 false _ ?side1 ?side2 A45.out).mono ?_); (case side1 => repeat (first | exact (Kd.R_reads' HO103.out).2.2 | (with_reducible refine Kd.C_alloc ?_ _) | (with_reducible refine Kd.C_drewN ?_ _) | (with_reducible refine Kd.C_drew ?_))); (case side2 => exact (Kd.R_reads' HO103.out).2.1); rintro e w53 ⟨rfl, hb⟩; have n0_ := Aside0.mk (Kd.R_below (by (with_reducible repeat (first | apply Kd.R_alloc | apply Kd.R_drewN | apply Kd.R_drew)); exact HO103.out) hb); have n1_ := Aside0.mk (below_step (by repeat (first | (with_reducible first | exact HB.out | apply below_alloc | apply pw_below_drewN | apply below_drew1) | exact HB.out)) hb); clear HO103; clear HB; have HO103 := n0_; have HB := n1_; clear n0_ n1_; (try clear hb); (try clear hb2); (try clear hk); (try clear hi); have p50 : 0 ≤ (0 : Int) := (by omega); have q50 : 0 < a0.size := (by have : (0 : Int) < (a0.size : Int) := of_decide_eq_true (by first | (with_reducible assumption) | assumption); omega); have hx50 : ∀ h : 0 < a0.size, ((a0[0]'h).toNat : Int) = bt a0 0 := bt_at a0 0; clear p50; have qi50 : (0 < (a0.size : Int)) = True := eq_true (of_decide_eq_true (by first | (with_reducible assumption) | assumption)); replace q50 := eq_true q50))
                    go_ret3
                    exact ⟨_, by first | rfl | (simp [errW_none, errW_some] <;> rfl) | (simp [*, errW_none, errW_some] <;> rfl), by (with_reducible repeat (first | apply Kd.R_alloc | apply Kd.R_drewN | apply Kd.R_drew)); exact HO103.out, by repeat (first | (with_reducible first | exact HB.out | apply below_alloc | apply pw_below_drewN | apply below_drew1) | exact HB.out)⟩
              · rw [if_neg c30] at H
                exact absurd H (by simp)
          · rw [if_neg c25] at H
            exact absurd H (by simp)
        · rw [if_neg c24] at H
          exact absurd H (by simp)
end Go.Proofs.YtbckpbiimknnnaaDoor.X
namespace Go.Proofs.YtbckpbiimknnnaaDoor.X
open Go.RowKit Go.Proofs.YtbckpbiimknnnaaDoorW.PrintWords Go.Proofs.YtbckpbiimknnnaaDoorW.PrintLast Go.Proofs.YtbckpbiimknnnaaDoorW.PrintMore
attribute [local go_sem] max2_int min2_int max_two min_two max_three min_three max_four min_four
set_option linter.unusedVariables false
set_option linter.unusedSimpArgs false
def strings_IndexByte.f (a0 : ByteArray) (a1 : Int) : Option (Int) := (stringslite_IndexByte.f a0 a1).bind fun t101 => (some t101)
set_option maxHeartbeats 8000000 in
set_option maxRecDepth 100000 in
theorem strings_IndexByte.calls (a0 : ByteArray) (a1 : Int) (r : Int) (w : World) (h : strings_IndexByte.f a0 a1 = some r) :
    Calls Tryd.prog 48 #[.string a0, .int .u8 a1] w fun e w' => e = .returned (.int .i64 r) ∧ Drawn0 w w' := by
  have H : ((stringslite_IndexByte.f a0 a1).bind fun t101 => (some t101)) = some r := h
  clear h
  replace H := Option.bind_eq_some_iff.mp H
  obtain ⟨t101, A30, H⟩ := H
  replace H : (some t101) = some r := H
  have A3 := Aside0.mk A30
  clear A30
  obtain rfl := Option.some.inj H
  go_enter Tryd.func48, Tryd.ntmps48
  go_wp2_with (first | ((with_reducible refine gate_callee (f := 54) rfl ?_); refine goesL_ (some 7) rfl rfl Tryd.func54 (by kernel_rfl) rfl #[.string a0, .int .u8 a1] rfl (by (try simp only [List.map_toArray, List.map_cons, List.map_nil]); first | done | rfl | (simp only [List.length_drop, List.length_take]; rfl)) ?_; (with_reducible refine (stringslite_IndexByte.calls a0 a1 t101 _ A3.out).mono ?_); rintro e w' ⟨rfl, ⟨nd, rfl⟩⟩; refine ⟨_, rfl, ?_⟩))
  go_ret
  exact ⟨by first | rfl | (simp; done) | (simp [*]; done), by repeat (first | exact Drawn0.refl _ | apply Drawn0.step)⟩
end Go.Proofs.YtbckpbiimknnnaaDoor.X
namespace Go.Proofs.YtbckpbiimknnnaaDoor.X
open Go.RowKit Go.Proofs.YtbckpbiimknnnaaDoorW.PrintWords Go.Proofs.YtbckpbiimknnnaaDoorW.PrintLast Go.Proofs.YtbckpbiimknnnaaDoorW.PrintMore
attribute [local go_sem] max2_int min2_int max_two min_two max_three min_three max_four min_four
set_option linter.unusedVariables false
set_option linter.unusedSimpArgs false
def flat_count.l0 : Nat → Int → List Int → List (S60) → Int → Int → Option (Int × List Int)
  | 0, _, _, _, _, _ => none
  | k + 1, x4, x5, x14, x15, x16 => if x16 < x15 then (if 0 ≤ x16 then (if x16 < (x14.length : Int) then ((strings_IndexByte.f (⟨#[118, 101, 104, 99, 108, 116]⟩ : ByteArray) ((rd_T60 x14 x16).f0)).bind fun t104 => (if t104 ≥ 0 then (if x5.length < 17592186044416 then (flat_count.l0 k (wrap64 (x4 + 1)) (x5 ++ [x4]) x14 x15 (wrap64 (x16 + 1))) else (none)) else (if x5.length < 17592186044416 then (flat_count.l0 k x4 (x5 ++ [(-1)]) x14 x15 (wrap64 (x16 + 1))) else (none)))) else (none)) else (none)) else (some (x4, x5))
def flat_count.f (k : Nat) (l0_0 : List ByteArray) (l0_1 : List (S60)) (a0_2 : Int) (a0_3 : Int) (a0_4 : Int) : Option (Int × List Int) := flat_count.l0 k (wrap64 ((l0_0.length : Int) - 1)) ([] : List Int) l0_1 (l0_1.length : Int) 0
theorem flat_count.mono_l : ∀ k, (∀ y0 y1 y2 y3 y4, LeO (flat_count.l0 k y0 y1 y2 y3 y4) (flat_count.l0 (k + 1) y0 y1 y2 y3 y4))
  | 0 => fun _ _ _ _ _ r h => by simp [flat_count.l0] at h
  | k + 1 => by
    have ih0 := flat_count.mono_l k
    · intro y0 y1 y2 y3 y4
      unfold flat_count.l0
      repeat' first
      | (with_reducible exact ih0 _ _ _ _ _)
      | (with_reducible exact LeO.refl _)
      | (with_reducible exact LeO.none _)
      | (with_reducible refine LeO.ite ?_ ?_)
      | (with_reducible refine LeO.bind ?_ (fun _ => ?_))
      | exact ih0 _ _ _ _ _
      | exact LeO.none _
      | refine LeO.ite ?_ ?_
      | refine LeO.bind ?_ (fun _ => ?_)
theorem flat_count.mono : ∀ a0 a1 a2 a3 a4 k, LeO (flat_count.f k a0 a1 a2 a3 a4) (flat_count.f (k + 1) a0 a1 a2 a3 a4) := by
  intro a0 a1 a2 a3 a4 k
  have ih0 := flat_count.mono_l k
  unfold flat_count.f
  repeat' first
      | (with_reducible exact ih0 _ _ _ _ _)
      | (with_reducible exact LeO.refl _)
      | (with_reducible exact LeO.none _)
      | (with_reducible refine LeO.ite ?_ ?_)
      | (with_reducible refine LeO.bind ?_ (fun _ => ?_))
      | exact ih0 _ _ _ _ _
      | exact LeO.none _
      | refine LeO.ite ?_ ?_
      | refine LeO.bind ?_ (fun _ => ?_)
set_option maxHeartbeats 8000000 in
set_option maxRecDepth 100000 in
theorem flat_count.calls (k : Nat) (A0_0 : Option Addr) (c0_0 : Nat) (l0_0 : List ByteArray) (A0_1 : Option Addr) (c0_1 : Nat) (l0_1 : List (S60)) (a0_2 : Int) (a0_3 : Int) (a0_4 : Int) (r1 : Int) (r2 : List Int) (w : World) (hr0_0 : Kd.C Kd.string w A0_0 l0_0.length l0_0) (hc0_0 : l0_0.length ≤ c0_0) (hr0_1 : Kd.C k60 w A0_1 l0_1.length l0_1) (hc0_1 : l0_1.length ≤ c0_1) (h : flat_count.f k l0_0 l0_1 a0_2 a0_3 a0_4 = some (r1, r2)) :
    Calls Tryd.prog 37 #[.agg #[.slice A0_0 l0_0.length c0_0, .slice A0_1 l0_1.length c0_1, .int .i64 a0_2, .int .i64 a0_3, .int .i64 a0_4]] w fun e w' => ∃ v1_ : Value, e = .returned (.tuple #[.int .i64 r1, v1_]) ∧ Kd.R (Kd.int .i64) 3 w' w.heap.size (fun _ => True) v1_ r2 ∧ Below w.heap.size w w' := by
  have hu44 := Tryd.underlying44
  have hu60 := Tryd.underlying60
  have HR0_0 := Aside0.mk hr0_0
  have HC0_0 := Aside0.mk hc0_0
  clear hr0_0 hc0_0
  have HR0_1 := Aside0.mk hr0_1
  have HC0_1 := Aside0.mk hc0_1
  clear hr0_1 hc0_1
  have HB := Aside0.mk (Below.refl w.heap.size w)
  have H : (flat_count.l0 k (wrap64 ((l0_0.length : Int) - 1)) ([] : List Int) l0_1 (l0_1.length : Int) 0) = some (r1, r2) := h
  clear h
  have H' := Aside0.mk H
  clear H
  go_enter Tryd.func37, Tryd.ntmps37
  go_wp2_with (first | ((with_reducible refine gate_dst (N := 1) rfl ?_); refine box_event ?hg (N := 1) ?hd (cs := #[.slice A0_0 l0_0.length c0_0, .slice A0_1 l0_1.length c0_1, .int .i64 a0_2, .int .i64 a0_3, .int .i64 a0_4]) (t := 44) ?hr ?_; (case hd => rfl); (case hg => rfl); (case hr => first | (go_simp; done) | (go_simp; rfl)); intro gb101 hg w2 hbox hb; have n0_ := Aside0.mk (below_step (by repeat (first | (with_reducible first | exact HB.out | apply below_alloc | apply pw_below_drewN | apply below_drew1) | exact HB.out)) hb); have n1_ := Aside0.mk (hbox); have n2_ := Aside0.mk ((by rw [hg]; exact (below_size (by repeat (first | (with_reducible first | exact HB.out | apply below_alloc | apply pw_below_drewN | apply below_drew1) | exact HB.out))) : w.heap.size ≤ gb101)); have n3_ := Aside0.mk ((by rw [hg]; exact (below_size (by repeat (first | (with_reducible first | exact HB.out | apply below_alloc | apply pw_below_drewN | apply below_drew1) | exact HB.out))) : w.heap.size ≤ gb101)); clear HB; have HB := n0_; have BK101 := n1_; have GW101 := n2_; have GE101 := n3_; clear n0_ n1_ n2_ n3_; clear hb hbox hg; have hcz3_0 : w2.cell? ⟨gb101, 0, none⟩ = some (.slice A0_0 l0_0.length c0_0) := (blk_cell BK101.out 0).trans rfl; have hcz3_1 : w2.cell? ⟨gb101, 1, none⟩ = some (.slice A0_1 l0_1.length c0_1) := (blk_cell BK101.out 1).trans rfl; have hcz3_2 : w2.cell? ⟨gb101, 2, none⟩ = some (.int .i64 a0_2) := (blk_cell BK101.out 2).trans rfl; have hcz3_3 : w2.cell? ⟨gb101, 3, none⟩ = some (.int .i64 a0_3) := (blk_cell BK101.out 3).trans rfl; have hcz3_4 : w2.cell? ⟨gb101, 4, none⟩ = some (.int .i64 a0_4) := (blk_cell BK101.out 4).trans rfl; have hfz3_0 := blk_frozen BK101.out 0; have hfz3_1 := blk_frozen BK101.out 1; have hfz3_2 := blk_frozen BK101.out 2; have hfz3_3 := blk_frozen BK101.out 3; have hfz3_4 := blk_frozen BK101.out 4))
  go_loopg [4, 5, 16] k (fun kq v4 v5 v16 w' => ∃ (x4_1 : Int) (x5_1 : List Int) (x16_1 : Int), v4 = .int .i64 x4_1 ∧ v16 = .int .i64 x16_1 ∧ Aside0 (flat_count.l0 kq x4_1 x5_1 l0_1 (l0_1.length : Int) x16_1 = some (r1, r2)) ∧ Aside0 (kq ≤ k) ∧ Aside0 (Kd.R (Kd.int .i64) 3 w' w.heap.size (fun _ => True) v5 x5_1) ∧ Aside0 (w'.heap[gb101]? = some (.cells #[(.slice A0_0 l0_0.length c0_0), (.slice A0_1 l0_1.length c0_1), .int .i64 a0_2, .int .i64 a0_3, .int .i64 a0_4] 44 (0, 0))) ∧ Aside0 (Below w.heap.size w w'))
  case atStart => exact ⟨(wrap64 ((l0_0.length : Int) - 1)), (([] : List Int)), (0), (by first | rfl | (simp; done) | (simp [*]; done)), (by first | rfl | (simp; done) | (simp [*]; done)), H', ⟨Nat.le_refl _⟩, ⟨by first | exact Kd.R_nil _ _ _ _ _ | exact Kd.N_nil _ _ _ _ _ | exact Kd.V_nil _ _ _ _ _ | exact Kd.Q_nil _ _ _ _ _ | exact Kd.S_nil _ _ _ _ _⟩, ⟨by (with_reducible repeat (first | refine blk_drewN ?_ _ | refine blk_drew ?_ | refine blk_alloc ?_ _)); exact BK101.out⟩, ⟨by repeat (first | (with_reducible first | exact HB.out | apply below_alloc | apply pw_below_drewN | apply below_drew1 | refine below_set ?_ GE101.out) | exact HB.out)⟩⟩
  case round =>
    clear H'
    try clear p2; try clear c3; try clear hcz3_0; try clear hcz3_1; try clear hcz3_2; try clear hcz3_3; try clear hcz3_4; try clear hfz3_0; try clear hfz3_1; try clear hfz3_2; try clear hfz3_3; try clear hfz3_4
    obtain ⟨x4_1, x5_1, x16_1, rfl, rfl, HA, HK1, HO_5, BK101, HB⟩ := hrel
    cases gk with
    | zero => exact absurd HA.out (by simp [flat_count.l0])
    | succ k1 =>
      have H := HA.out
      clear HA
      simp only [flat_count.l0] at H
      by_cases c4 : x16_1 < (l0_1.length : Int)
      · rw [if_pos c4] at H
        have c4b0 : decide (x16_1 < (l0_1.length : Int)) = true := decide_eq_true c4
        clear c4
        by_cases c5 : 0 ≤ x16_1
        · rw [if_pos c5] at H
          have c5b0 : decide (0 ≤ x16_1) = true := decide_eq_true c5
          clear c5
          by_cases c6 : x16_1 < (l0_1.length : Int)
          · rw [if_pos c6] at H
            have c6b0 : decide (x16_1 < (l0_1.length : Int)) = true := decide_eq_true c6
            clear c6
            replace H := Option.bind_eq_some_iff.mp H
            obtain ⟨t104, A70, H⟩ := H
            replace H : (if t104 ≥ 0 then (if x5_1.length < 17592186044416 then (flat_count.l0 k1 (wrap64 (x4_1 + 1)) (x5_1 ++ [x4_1]) l0_1 (l0_1.length : Int) (wrap64 (x16_1 + 1))) else (none)) else (if x5_1.length < 17592186044416 then (flat_count.l0 k1 x4_1 (x5_1 ++ [(-1)]) l0_1 (l0_1.length : Int) (wrap64 (x16_1 + 1))) else (none))) = some (r1, r2) := H
            have A7 := Aside0.mk A70
            clear A70
            by_cases c8 : t104 ≥ 0
            · rw [if_pos c8] at H
              have c8b0 : decide (0 ≤ t104) = true := decide_eq_true c8
              clear c8
              by_cases c9 : x5_1.length < 17592186044416
              · rw [if_pos c9] at H
                have LMc9 := Aside0.mk c9
                clear c9
                obtain ⟨y105, hy105⟩ : ∃ y_ : List Int, y_ = (x5_1 ++ [x4_1]) := ⟨_, rfl⟩
                replace H : (flat_count.l0 k1 (wrap64 (x4_1 + 1)) y105 l0_1 (l0_1.length : Int) (wrap64 (x16_1 + 1))) = some (r1, r2) := by first | (rw [hy105]; with_reducible exact H) | (have H2_ := (Option.bind_some _ _).symm.trans H; rw [hy105]; with_reducible exact H2_) | (have H2_ := (Option.bind_some _ _).symm.trans H; with_reducible exact H2_) | with_reducible exact H | (rw [hy105]; exact H) | exact H
                have Ny105 := Aside0.mk hy105
                clear hy105
                have H' := Aside0.mk H
                clear H
                have p102 : 0 ≤ (x16_1 : Int) := of_decide_eq_true (by first | (with_reducible assumption) | assumption)
                have q102 : x16_1 < (l0_1.length : Int) := of_decide_eq_true (by first | (with_reducible assumption) | assumption)
                obtain ⟨ad102, A102_2, c102_2, A102_7, c102_7, A102_8, c102_8, A102_11, c102_11, A102_12, c102_12, e102, hx102_0, hx102_1, hx102_2, hx102_3, hx102_4, hx102_5, hx102_6, hx102_7, hx102_8, hx102_9, hx102_10, hx102_11, hx102_12, hl102_2, hi102_2, hl102_7, hi102_7, hl102_8, hi102_8, hl102_11, hi102_11, hl102_12, hi102_12⟩ := at_T60 HR0_1.out x16_1 p102 q102
                cases e102
                replace hx102_0 := (HB.out.cell (World.block_lt_of_cell? w _ hx102_0)).trans hx102_0
                replace hx102_1 := (HB.out.cell (World.block_lt_of_cell? w _ hx102_1)).trans hx102_1
                replace hx102_2 := (HB.out.cell (World.block_lt_of_cell? w _ hx102_2)).trans hx102_2
                replace hx102_3 := (HB.out.cell (World.block_lt_of_cell? w _ hx102_3)).trans hx102_3
                replace hx102_4 := (HB.out.cell (World.block_lt_of_cell? w _ hx102_4)).trans hx102_4
                replace hx102_5 := (HB.out.cell (World.block_lt_of_cell? w _ hx102_5)).trans hx102_5
                replace hx102_6 := (HB.out.cell (World.block_lt_of_cell? w _ hx102_6)).trans hx102_6
                replace hx102_7 := (HB.out.cell (World.block_lt_of_cell? w _ hx102_7)).trans hx102_7
                replace hx102_8 := (HB.out.cell (World.block_lt_of_cell? w _ hx102_8)).trans hx102_8
                replace hx102_9 := (HB.out.cell (World.block_lt_of_cell? w _ hx102_9)).trans hx102_9
                replace hx102_10 := (HB.out.cell (World.block_lt_of_cell? w _ hx102_10)).trans hx102_10
                replace hx102_11 := (HB.out.cell (World.block_lt_of_cell? w _ hx102_11)).trans hx102_11
                replace hx102_12 := (HB.out.cell (World.block_lt_of_cell? w _ hx102_12)).trans hx102_12
                have HR102_2 := Aside0.mk hi102_2
                have HC102_2 := Aside0.mk hl102_2
                clear hi102_2 hl102_2
                have HR102_7 := Aside0.mk hi102_7
                have HC102_7 := Aside0.mk hl102_7
                clear hi102_7 hl102_7
                have HR102_8 := Aside0.mk hi102_8
                have HC102_8 := Aside0.mk hl102_8
                clear hi102_8 hl102_8
                have HR102_11 := Aside0.mk hi102_11
                have HC102_11 := Aside0.mk hl102_11
                clear hi102_11 hl102_11
                have HR102_12 := Aside0.mk hi102_12
                have HC102_12 := Aside0.mk hl102_12
                clear hi102_12 hl102_12
                replace p102 := eq_true p102
                replace q102 := eq_true q102
                go_wp2_with (first | ((with_reducible refine gate_dst (N := 7) rfl ?_); refine box_event ?hg (N := 7) ?hd (cs := #[.int .u8 0, .string (⟨#[]⟩ : ByteArray), .slice none 0 0, .int .i64 0, .int .i64 0, .int .i64 0, .int .i64 0, .slice none 0 0, .slice none 0 0, .string (⟨#[]⟩ : ByteArray), .int .u8 0, .slice none 0 0, .slice none 0 0]) (t := 60) ?hr ?_; (case hd => rfl); (case hg => rfl); (case hr => first | (go_simp; done) | (go_simp; rfl)); intro gb103 hg w10 hbox hb; have n0_ := Aside0.mk (Kd.R_below (by (with_reducible repeat (first | apply Kd.R_alloc | apply Kd.R_drewN | apply Kd.R_drew)); exact HO_5.out) hb); have n1_ := Aside0.mk (blk_below (g := gb101) (o := .cells #[.slice A0_0 l0_0.length c0_0, .slice (some ad102) l0_1.length c0_1, .int .i64 a0_2, .int .i64 a0_3, .int .i64 a0_4] 44 (0, 0)) (by (with_reducible repeat (first | refine blk_drewN ?_ _ | refine blk_drew ?_ | refine blk_alloc ?_ _)); exact BK101.out) hb); have n2_ := Aside0.mk (below_step (by repeat (first | (with_reducible first | exact HB.out | apply below_alloc | apply pw_below_drewN | apply below_drew1 | refine below_set ?_ GE101.out) | exact HB.out)) hb); have n3_ := Aside0.mk (hbox); have n4_ := Aside0.mk ((by rw [hg]; exact (below_size (by repeat (first | (with_reducible first | exact HB.out | apply below_alloc | apply pw_below_drewN | apply below_drew1 | refine below_set ?_ GE101.out) | exact HB.out))) : w.heap.size ≤ gb103)); have n5_ := Aside0.mk ((by rw [hg]; exact (below_size (by repeat (first | (with_reducible first | exact HB.out | apply below_alloc | apply pw_below_drewN | apply below_drew1 | refine below_set ?_ GE101.out) | exact HB.out))) : w.heap.size ≤ gb103)); have n6_ := Aside0.mk ((by rw [hg]; exact Nat.ne_of_lt (blk_lt (g := gb101) (o := .cells #[.slice A0_0 l0_0.length c0_0, .slice (some ad102) l0_1.length c0_1, .int .i64 a0_2, .int .i64 a0_3, .int .i64 a0_4] 44 (0, 0)) (by (with_reducible repeat (first | refine blk_drewN ?_ _ | refine blk_drew ?_ | refine blk_alloc ?_ _)); exact BK101.out)) : gb101 ≠ gb103)); have n7_ := Aside0.mk ((by rw [hg]; exact Nat.ne_of_gt (blk_lt (g := gb101) (o := .cells #[.slice A0_0 l0_0.length c0_0, .slice (some ad102) l0_1.length c0_1, .int .i64 a0_2, .int .i64 a0_3, .int .i64 a0_4] 44 (0, 0)) (by (with_reducible repeat (first | refine blk_drewN ?_ _ | refine blk_drew ?_ | refine blk_alloc ?_ _)); exact BK101.out)) : gb103 ≠ gb101)); clear HO_5; clear BK101; clear HB; have HO_5 := n0_; have BK101 := n1_; have HB := n2_; have BK103 := n3_; have GW103 := n4_; have GE103 := n5_; have NB101_103 := n6_; have NB103_101 := n7_; clear n0_ n1_ n2_ n3_ n4_ n5_ n6_ n7_; clear hb hbox hg; have hnb11 := NB103_101.out; have hnc11 := NB101_103.out; have hcz12_0 : w10.cell? ⟨gb103, 0, none⟩ = some (.int .u8 0) := (blk_cell BK103.out 0).trans rfl; have hcz12_1 : w10.cell? ⟨gb103, 1, none⟩ = some (.string (⟨#[]⟩ : ByteArray)) := (blk_cell BK103.out 1).trans rfl; have hcz12_2 : w10.cell? ⟨gb103, 2, none⟩ = some (.slice none 0 0) := (blk_cell BK103.out 2).trans rfl; have hcz12_3 : w10.cell? ⟨gb103, 3, none⟩ = some (.int .i64 0) := (blk_cell BK103.out 3).trans rfl; have hcz12_4 : w10.cell? ⟨gb103, 4, none⟩ = some (.int .i64 0) := (blk_cell BK103.out 4).trans rfl; have hcz12_5 : w10.cell? ⟨gb103, 5, none⟩ = some (.int .i64 0) := (blk_cell BK103.out 5).trans rfl; have hcz12_6 : w10.cell? ⟨gb103, 6, none⟩ = some (.int .i64 0) := (blk_cell BK103.out 6).trans rfl; have hcz12_7 : w10.cell? ⟨gb103, 7, none⟩ = some (.slice none 0 0) := (blk_cell BK103.out 7).trans rfl; have hcz12_8 : w10.cell? ⟨gb103, 8, none⟩ = some (.slice none 0 0) := (blk_cell BK103.out 8).trans rfl; have hcz12_9 : w10.cell? ⟨gb103, 9, none⟩ = some (.string (⟨#[]⟩ : ByteArray)) := (blk_cell BK103.out 9).trans rfl; have hcz12_10 : w10.cell? ⟨gb103, 10, none⟩ = some (.int .u8 0) := (blk_cell BK103.out 10).trans rfl; have hcz12_11 : w10.cell? ⟨gb103, 11, none⟩ = some (.slice none 0 0) := (blk_cell BK103.out 11).trans rfl; have hcz12_12 : w10.cell? ⟨gb103, 12, none⟩ = some (.slice none 0 0) := (blk_cell BK103.out 12).trans rfl; have hfz12_0 := blk_frozen BK103.out 0; have hfz12_1 := blk_frozen BK103.out 1; have hfz12_2 := blk_frozen BK103.out 2; have hfz12_3 := blk_frozen BK103.out 3; have hfz12_4 := blk_frozen BK103.out 4; have hfz12_5 := blk_frozen BK103.out 5; have hfz12_6 := blk_frozen BK103.out 6; have hfz12_7 := blk_frozen BK103.out 7; have hfz12_8 := blk_frozen BK103.out 8; have hfz12_9 := blk_frozen BK103.out 9; have hfz12_10 := blk_frozen BK103.out 10; have hfz12_11 := blk_frozen BK103.out 11; have hfz12_12 := blk_frozen BK103.out 12) | ((with_reducible refine gate_callee (f := 48) rfl ?_); refine goesL_ (some 22) rfl rfl Tryd.func48 (by kernel_rfl) rfl #[.string (⟨#[118, 101, 104, 99, 108, 116]⟩ : ByteArray), .int .u8 ((rd_T60 l0_1 x16_1).f0)] rfl (by (try simp only [List.map_toArray, List.map_cons, List.map_nil]); first | done | rfl | (simp only [List.length_drop, List.length_take]; rfl)) ?_; (with_reducible refine (strings_IndexByte.calls (⟨#[118, 101, 104, 99, 108, 116]⟩ : ByteArray) ((rd_T60 l0_1 x16_1).f0) t104 _ A7.out).mono ?_); rintro e w' ⟨rfl, ⟨nd, rfl⟩⟩; refine ⟨_, rfl, ?_⟩) | ((with_reducible refine gate_builtin (b := .append) (xs := #[.tmp 27, .tmp 29]) rfl ?_); at_builtin; refine Kd.R_append (Kd.int .i64) (w0 := w) w.heap.size rfl (.tmp 27) (.tmp 29) 34 3 (.int .i64 0) 8 rfl Tryd.underlying34 info3 rfl (by decide) (by omega) u5 x5_1 x4_1 [.int .i64 x4_1] (fun _ => True) (fun _ => False) rfl (by first | (go_simp; done) | (go_simp; rfl)) ?aP (fun _ hk => hk.elim) ?aF ?aO ?aB ?aS ?aL ?_; (case aP => exact rfl); (case aB => exact (by repeat (first | (with_reducible first | exact HB.out | apply below_alloc | apply pw_below_drewN | apply below_drew1 | refine below_set ?_ GE101.out | refine below_set ?_ GE103.out) | exact HB.out))); (case aF => exact (fun _ _ => trivial)); (case aO => exact (by (with_reducible repeat (first | apply Kd.R_alloc | apply Kd.R_drewN | apply Kd.R_drew)); exact Kd.R_mono (Kd.R_far (p := ⟨gb103, 12, none⟩) (Kd.R_far (p := ⟨gb103, 11, none⟩) (Kd.R_far (p := ⟨gb103, 10, none⟩) (Kd.R_far (p := ⟨gb103, 9, none⟩) (Kd.R_far (p := ⟨gb103, 8, none⟩) (Kd.R_far (p := ⟨gb103, 7, none⟩) (Kd.R_far (p := ⟨gb103, 6, none⟩) (Kd.R_far (p := ⟨gb103, 5, none⟩) (Kd.R_far (p := ⟨gb103, 4, none⟩) (Kd.R_far (p := ⟨gb103, 3, none⟩) (Kd.R_far (p := ⟨gb103, 2, none⟩) (Kd.R_far (p := ⟨gb103, 1, none⟩) (Kd.R_far (p := ⟨gb103, 0, none⟩) (Kd.R_types HO_5.out BK103.out (by decide)) (fun _ hk => hk.2) (.int .u8 ((rd_T60 l0_1 x16_1).f0))) (fun _ hk => hk.2) (.string ((rd_T60 l0_1 x16_1).f1))) (fun _ hk => hk.2) (.slice A102_2 ((rd_T60 l0_1 x16_1).f2).length c102_2)) (fun _ hk => hk.2) (.int .i64 ((rd_T60 l0_1 x16_1).f3))) (fun _ hk => hk.2) (.int .i64 ((rd_T60 l0_1 x16_1).f4.f0))) (fun _ hk => hk.2) (.int .i64 ((rd_T60 l0_1 x16_1).f4.f1))) (fun _ hk => hk.2) (.int .i64 ((rd_T60 l0_1 x16_1).f5.f0))) (fun _ hk => hk.2) (.slice A102_7 ((rd_T60 l0_1 x16_1).f5.f1).length c102_7)) (fun _ hk => hk.2) (.slice A102_8 ((rd_T60 l0_1 x16_1).f5.f2).length c102_8)) (fun _ hk => hk.2) (.string ((rd_T60 l0_1 x16_1).f6.f0))) (fun _ hk => hk.2) (.int .u8 ((rd_T60 l0_1 x16_1).f6.f1))) (fun _ hk => hk.2) (.slice A102_11 ((rd_T60 l0_1 x16_1).f6.f2).length c102_11)) (fun _ hk => hk.2) (.slice A102_12 ((rd_T60 l0_1 x16_1).f6.f3).length c102_12)) (fun _ hk => trivial))); (case aS => exact (below_size (by repeat (first | (with_reducible first | exact HB.out | apply below_alloc | apply pw_below_drewN | apply below_drew1 | refine below_set ?_ GE101.out | refine below_set ?_ GE103.out) | exact HB.out)))); (case aL => have := LMc9.out; omega); intro v106 w13 ho hb hg hat; rw [← Ny105.out] at ho; have n0_ := Aside0.mk (blk_grown (g := gb101) (o := .cells #[.slice A0_0 l0_0.length c0_0, .slice (some ad102) l0_1.length c0_1, .int .i64 a0_2, .int .i64 a0_3, .int .i64 a0_4] 44 (0, 0)) (by (with_reducible repeat (first | refine blk_drewN ?_ _ | refine blk_drew ?_ | refine blk_alloc ?_ _)); refine blk_far ?_ NB101_103.out _; (with_reducible repeat (first | refine blk_drewN ?_ _ | refine blk_drew ?_ | refine blk_alloc ?_ _)); refine blk_far ?_ NB101_103.out _; (with_reducible repeat (first | refine blk_drewN ?_ _ | refine blk_drew ?_ | refine blk_alloc ?_ _)); refine blk_far ?_ NB101_103.out _; (with_reducible repeat (first | refine blk_drewN ?_ _ | refine blk_drew ?_ | refine blk_alloc ?_ _)); refine blk_far ?_ NB101_103.out _; (with_reducible repeat (first | refine blk_drewN ?_ _ | refine blk_drew ?_ | refine blk_alloc ?_ _)); refine blk_far ?_ NB101_103.out _; (with_reducible repeat (first | refine blk_drewN ?_ _ | refine blk_drew ?_ | refine blk_alloc ?_ _)); refine blk_far ?_ NB101_103.out _; (with_reducible repeat (first | refine blk_drewN ?_ _ | refine blk_drew ?_ | refine blk_alloc ?_ _)); refine blk_far ?_ NB101_103.out _; (with_reducible repeat (first | refine blk_drewN ?_ _ | refine blk_drew ?_ | refine blk_alloc ?_ _)); refine blk_far ?_ NB101_103.out _; (with_reducible repeat (first | refine blk_drewN ?_ _ | refine blk_drew ?_ | refine blk_alloc ?_ _)); refine blk_far ?_ NB101_103.out _; (with_reducible repeat (first | refine blk_drewN ?_ _ | refine blk_drew ?_ | refine blk_alloc ?_ _)); refine blk_far ?_ NB101_103.out _; (with_reducible repeat (first | refine blk_drewN ?_ _ | refine blk_drew ?_ | refine blk_alloc ?_ _)); refine blk_far ?_ NB101_103.out _; (with_reducible repeat (first | refine blk_drewN ?_ _ | refine blk_drew ?_ | refine blk_alloc ?_ _)); refine blk_far ?_ NB101_103.out _; (with_reducible repeat (first | refine blk_drewN ?_ _ | refine blk_drew ?_ | refine blk_alloc ?_ _)); refine blk_far ?_ NB101_103.out _; (with_reducible repeat (first | refine blk_drewN ?_ _ | refine blk_drew ?_ | refine blk_alloc ?_ _)); exact BK101.out) hg (Kd.R_ne HO_5.out BK101.out (by decide))); have n1_ := Aside0.mk (blk_grown (g := gb103) (o := .cells #[.int .u8 ((rd_T60 l0_1 x16_1).f0), .string ((rd_T60 l0_1 x16_1).f1), .slice A102_2 ((rd_T60 l0_1 x16_1).f2).length c102_2, .int .i64 ((rd_T60 l0_1 x16_1).f3), .int .i64 ((rd_T60 l0_1 x16_1).f4.f0), .int .i64 ((rd_T60 l0_1 x16_1).f4.f1), .int .i64 ((rd_T60 l0_1 x16_1).f5.f0), .slice A102_7 ((rd_T60 l0_1 x16_1).f5.f1).length c102_7, .slice A102_8 ((rd_T60 l0_1 x16_1).f5.f2).length c102_8, .string ((rd_T60 l0_1 x16_1).f6.f0), .int .u8 ((rd_T60 l0_1 x16_1).f6.f1), .slice A102_11 ((rd_T60 l0_1 x16_1).f6.f2).length c102_11, .slice A102_12 ((rd_T60 l0_1 x16_1).f6.f3).length c102_12] 60 (0, 0)) (by (with_reducible repeat (first | refine blk_drewN ?_ _ | refine blk_drew ?_ | refine blk_alloc ?_ _)); refine blk_put (cs := #[.int .u8 ((rd_T60 l0_1 x16_1).f0), .string ((rd_T60 l0_1 x16_1).f1), .slice A102_2 ((rd_T60 l0_1 x16_1).f2).length c102_2, .int .i64 ((rd_T60 l0_1 x16_1).f3), .int .i64 ((rd_T60 l0_1 x16_1).f4.f0), .int .i64 ((rd_T60 l0_1 x16_1).f4.f1), .int .i64 ((rd_T60 l0_1 x16_1).f5.f0), .slice A102_7 ((rd_T60 l0_1 x16_1).f5.f1).length c102_7, .slice A102_8 ((rd_T60 l0_1 x16_1).f5.f2).length c102_8, .string ((rd_T60 l0_1 x16_1).f6.f0), .int .u8 ((rd_T60 l0_1 x16_1).f6.f1), .slice A102_11 ((rd_T60 l0_1 x16_1).f6.f2).length c102_11, .slice none 0 0]) ?_ 12 _ rfl; (with_reducible repeat (first | refine blk_drewN ?_ _ | refine blk_drew ?_ | refine blk_alloc ?_ _)); refine blk_put (cs := #[.int .u8 ((rd_T60 l0_1 x16_1).f0), .string ((rd_T60 l0_1 x16_1).f1), .slice A102_2 ((rd_T60 l0_1 x16_1).f2).length c102_2, .int .i64 ((rd_T60 l0_1 x16_1).f3), .int .i64 ((rd_T60 l0_1 x16_1).f4.f0), .int .i64 ((rd_T60 l0_1 x16_1).f4.f1), .int .i64 ((rd_T60 l0_1 x16_1).f5.f0), .slice A102_7 ((rd_T60 l0_1 x16_1).f5.f1).length c102_7, .slice A102_8 ((rd_T60 l0_1 x16_1).f5.f2).length c102_8, .string ((rd_T60 l0_1 x16_1).f6.f0), .int .u8 ((rd_T60 l0_1 x16_1).f6.f1), .slice none 0 0, .slice none 0 0]) ?_ 11 _ rfl; (with_reducible repeat (first | refine blk_drewN ?_ _ | refine blk_drew ?_ | refine blk_alloc ?_ _)); refine blk_put (cs := #[.int .u8 ((rd_T60 l0_1 x16_1).f0), .string ((rd_T60 l0_1 x16_1).f1), .slice A102_2 ((rd_T60 l0_1 x16_1).f2).length c102_2, .int .i64 ((rd_T60 l0_1 x16_1).f3), .int .i64 ((rd_T60 l0_1 x16_1).f4.f0), .int .i64 ((rd_T60 l0_1 x16_1).f4.f1), .int .i64 ((rd_T60 l0_1 x16_1).f5.f0), .slice A102_7 ((rd_T60 l0_1 x16_1).f5.f1).length c102_7, .slice A102_8 ((rd_T60 l0_1 x16_1).f5.f2).length c102_8, .string ((rd_T60 l0_1 x16_1).f6.f0), .int .u8 0, .slice none 0 0, .slice none 0 0]) ?_ 10 _ rfl; (with_reducible repeat (first | refine blk_drewN ?_ _ | refine blk_drew ?_ | refine blk_alloc ?_ _)); refine blk_put (cs := #[.int .u8 ((rd_T60 l0_1 x16_1).f0), .string ((rd_T60 l0_1 x16_1).f1), .slice A102_2 ((rd_T60 l0_1 x16_1).f2).length c102_2, .int .i64 ((rd_T60 l0_1 x16_1).f3), .int .i64 ((rd_T60 l0_1 x16_1).f4.f0), .int .i64 ((rd_T60 l0_1 x16_1).f4.f1), .int .i64 ((rd_T60 l0_1 x16_1).f5.f0), .slice A102_7 ((rd_T60 l0_1 x16_1).f5.f1).length c102_7, .slice A102_8 ((rd_T60 l0_1 x16_1).f5.f2).length c102_8, .string (⟨#[]⟩ : ByteArray), .int .u8 0, .slice none 0 0, .slice none 0 0]) ?_ 9 _ rfl; (with_reducible repeat (first | refine blk_drewN ?_ _ | refine blk_drew ?_ | refine blk_alloc ?_ _)); refine blk_put (cs := #[.int .u8 ((rd_T60 l0_1 x16_1).f0), .string ((rd_T60 l0_1 x16_1).f1), .slice A102_2 ((rd_T60 l0_1 x16_1).f2).length c102_2, .int .i64 ((rd_T60 l0_1 x16_1).f3), .int .i64 ((rd_T60 l0_1 x16_1).f4.f0), .int .i64 ((rd_T60 l0_1 x16_1).f4.f1), .int .i64 ((rd_T60 l0_1 x16_1).f5.f0), .slice A102_7 ((rd_T60 l0_1 x16_1).f5.f1).length c102_7, .slice none 0 0, .string (⟨#[]⟩ : ByteArray), .int .u8 0, .slice none 0 0, .slice none 0 0]) ?_ 8 _ rfl; (with_reducible repeat (first | refine blk_drewN ?_ _ | refine blk_drew ?_ | refine blk_alloc ?_ _)); refine blk_put (cs := #[.int .u8 ((rd_T60 l0_1 x16_1).f0), .string ((rd_T60 l0_1 x16_1).f1), .slice A102_2 ((rd_T60 l0_1 x16_1).f2).length c102_2, .int .i64 ((rd_T60 l0_1 x16_1).f3), .int .i64 ((rd_T60 l0_1 x16_1).f4.f0), .int .i64 ((rd_T60 l0_1 x16_1).f4.f1), .int .i64 ((rd_T60 l0_1 x16_1).f5.f0), .slice none 0 0, .slice none 0 0, .string (⟨#[]⟩ : ByteArray), .int .u8 0, .slice none 0 0, .slice none 0 0]) ?_ 7 _ rfl; (with_reducible repeat (first | refine blk_drewN ?_ _ | refine blk_drew ?_ | refine blk_alloc ?_ _)); refine blk_put (cs := #[.int .u8 ((rd_T60 l0_1 x16_1).f0), .string ((rd_T60 l0_1 x16_1).f1), .slice A102_2 ((rd_T60 l0_1 x16_1).f2).length c102_2, .int .i64 ((rd_T60 l0_1 x16_1).f3), .int .i64 ((rd_T60 l0_1 x16_1).f4.f0), .int .i64 ((rd_T60 l0_1 x16_1).f4.f1), .int .i64 0, .slice none 0 0, .slice none 0 0, .string (⟨#[]⟩ : ByteArray), .int .u8 0, .slice none 0 0, .slice none 0 0]) ?_ 6 _ rfl; (with_reducible repeat (first | refine blk_drewN ?_ _ | refine blk_drew ?_ | refine blk_alloc ?_ _)); refine blk_put (cs := #[.int .u8 ((rd_T60 l0_1 x16_1).f0), .string ((rd_T60 l0_1 x16_1).f1), .slice A102_2 ((rd_T60 l0_1 x16_1).f2).length c102_2, .int .i64 ((rd_T60 l0_1 x16_1).f3), .int .i64 ((rd_T60 l0_1 x16_1).f4.f0), .int .i64 0, .int .i64 0, .slice none 0 0, .slice none 0 0, .string (⟨#[]⟩ : ByteArray), .int .u8 0, .slice none 0 0, .slice none 0 0]) ?_ 5 _ rfl; (with_reducible repeat (first | refine blk_drewN ?_ _ | refine blk_drew ?_ | refine blk_alloc ?_ _)); refine blk_put (cs := #[.int .u8 ((rd_T60 l0_1 x16_1).f0), .string ((rd_T60 l0_1 x16_1).f1), .slice A102_2 ((rd_T60 l0_1 x16_1).f2).length c102_2, .int .i64 ((rd_T60 l0_1 x16_1).f3), .int .i64 0, .int .i64 0, .int .i64 0, .slice none 0 0, .slice none 0 0, .string (⟨#[]⟩ : ByteArray), .int .u8 0, .slice none 0 0, .slice none 0 0]) ?_ 4 _ rfl; (with_reducible repeat (first | refine blk_drewN ?_ _ | refine blk_drew ?_ | refine blk_alloc ?_ _)); refine blk_put (cs := #[.int .u8 ((rd_T60 l0_1 x16_1).f0), .string ((rd_T60 l0_1 x16_1).f1), .slice A102_2 ((rd_T60 l0_1 x16_1).f2).length c102_2, .int .i64 0, .int .i64 0, .int .i64 0, .int .i64 0, .slice none 0 0, .slice none 0 0, .string (⟨#[]⟩ : ByteArray), .int .u8 0, .slice none 0 0, .slice none 0 0]) ?_ 3 _ rfl; (with_reducible repeat (first | refine blk_drewN ?_ _ | refine blk_drew ?_ | refine blk_alloc ?_ _)); refine blk_put (cs := #[.int .u8 ((rd_T60 l0_1 x16_1).f0), .string ((rd_T60 l0_1 x16_1).f1), .slice none 0 0, .int .i64 0, .int .i64 0, .int .i64 0, .int .i64 0, .slice none 0 0, .slice none 0 0, .string (⟨#[]⟩ : ByteArray), .int .u8 0, .slice none 0 0, .slice none 0 0]) ?_ 2 _ rfl; (with_reducible repeat (first | refine blk_drewN ?_ _ | refine blk_drew ?_ | refine blk_alloc ?_ _)); refine blk_put (cs := #[.int .u8 ((rd_T60 l0_1 x16_1).f0), .string (⟨#[]⟩ : ByteArray), .slice none 0 0, .int .i64 0, .int .i64 0, .int .i64 0, .int .i64 0, .slice none 0 0, .slice none 0 0, .string (⟨#[]⟩ : ByteArray), .int .u8 0, .slice none 0 0, .slice none 0 0]) ?_ 1 _ rfl; (with_reducible repeat (first | refine blk_drewN ?_ _ | refine blk_drew ?_ | refine blk_alloc ?_ _)); refine blk_put (cs := #[.int .u8 0, .string (⟨#[]⟩ : ByteArray), .slice none 0 0, .int .i64 0, .int .i64 0, .int .i64 0, .int .i64 0, .slice none 0 0, .slice none 0 0, .string (⟨#[]⟩ : ByteArray), .int .u8 0, .slice none 0 0, .slice none 0 0]) ?_ 0 _ rfl; (with_reducible repeat (first | refine blk_drewN ?_ _ | refine blk_drew ?_ | refine blk_alloc ?_ _)); exact BK103.out) hg (Kd.R_ne HO_5.out BK103.out (by decide))); have n2_ := Aside0.mk (hb); have n3_ := Aside0.mk (ho); clear BK101; clear BK103; clear HB; clear HO_5; have BK101 := n0_; have BK103 := n1_; have HB := n2_; have HO107 := n3_; clear n0_ n1_ n2_ n3_; clear ho hb hg hat))
                go_roundg k1
                case measure => have := HK1.out; omega
                case rel => exact ⟨(wrap64 (x4_1 + 1)), (y105), (wrap64 (x16_1 + 1)), (by first | rfl | (simp; done) | (simp [*]; done)), (by first | rfl | (simp; done) | (simp [*]; done)), H', ⟨by have := HK1.out; omega⟩, ⟨by (with_reducible repeat (first | apply Kd.R_alloc | apply Kd.R_drewN | apply Kd.R_drew)); exact HO107.out⟩, ⟨by (with_reducible repeat (first | refine blk_drewN ?_ _ | refine blk_drew ?_ | refine blk_alloc ?_ _)); exact BK101.out⟩, ⟨by repeat (first | (with_reducible first | exact HB.out | apply below_alloc | apply pw_below_drewN | apply below_drew1 | refine below_set ?_ GE101.out | refine below_set ?_ GE103.out) | exact HB.out)⟩⟩
              · rw [if_neg c9] at H
                exact absurd H (by simp)
            · rw [if_neg c8] at H
              have c8b0 : decide (0 ≤ t104) = false := decide_eq_false c8
              clear c8
              by_cases c14 : x5_1.length < 17592186044416
              · rw [if_pos c14] at H
                have LMc14 := Aside0.mk c14
                clear c14
                obtain ⟨y108, hy108⟩ : ∃ y_ : List Int, y_ = (x5_1 ++ [(-1)]) := ⟨_, rfl⟩
                replace H : (flat_count.l0 k1 x4_1 y108 l0_1 (l0_1.length : Int) (wrap64 (x16_1 + 1))) = some (r1, r2) := by first | (rw [hy108]; with_reducible exact H) | (have H2_ := (Option.bind_some _ _).symm.trans H; rw [hy108]; with_reducible exact H2_) | (have H2_ := (Option.bind_some _ _).symm.trans H; with_reducible exact H2_) | with_reducible exact H | (rw [hy108]; exact H) | exact H
                have Ny108 := Aside0.mk hy108
                clear hy108
                have H' := Aside0.mk H
                clear H
                have p102 : 0 ≤ (x16_1 : Int) := of_decide_eq_true (by first | (with_reducible assumption) | assumption)
                have q102 : x16_1 < (l0_1.length : Int) := of_decide_eq_true (by first | (with_reducible assumption) | assumption)
                obtain ⟨ad102, A102_2, c102_2, A102_7, c102_7, A102_8, c102_8, A102_11, c102_11, A102_12, c102_12, e102, hx102_0, hx102_1, hx102_2, hx102_3, hx102_4, hx102_5, hx102_6, hx102_7, hx102_8, hx102_9, hx102_10, hx102_11, hx102_12, hl102_2, hi102_2, hl102_7, hi102_7, hl102_8, hi102_8, hl102_11, hi102_11, hl102_12, hi102_12⟩ := at_T60 HR0_1.out x16_1 p102 q102
                cases e102
                replace hx102_0 := (HB.out.cell (World.block_lt_of_cell? w _ hx102_0)).trans hx102_0
                replace hx102_1 := (HB.out.cell (World.block_lt_of_cell? w _ hx102_1)).trans hx102_1
                replace hx102_2 := (HB.out.cell (World.block_lt_of_cell? w _ hx102_2)).trans hx102_2
                replace hx102_3 := (HB.out.cell (World.block_lt_of_cell? w _ hx102_3)).trans hx102_3
                replace hx102_4 := (HB.out.cell (World.block_lt_of_cell? w _ hx102_4)).trans hx102_4
                replace hx102_5 := (HB.out.cell (World.block_lt_of_cell? w _ hx102_5)).trans hx102_5
                replace hx102_6 := (HB.out.cell (World.block_lt_of_cell? w _ hx102_6)).trans hx102_6
                replace hx102_7 := (HB.out.cell (World.block_lt_of_cell? w _ hx102_7)).trans hx102_7
                replace hx102_8 := (HB.out.cell (World.block_lt_of_cell? w _ hx102_8)).trans hx102_8
                replace hx102_9 := (HB.out.cell (World.block_lt_of_cell? w _ hx102_9)).trans hx102_9
                replace hx102_10 := (HB.out.cell (World.block_lt_of_cell? w _ hx102_10)).trans hx102_10
                replace hx102_11 := (HB.out.cell (World.block_lt_of_cell? w _ hx102_11)).trans hx102_11
                replace hx102_12 := (HB.out.cell (World.block_lt_of_cell? w _ hx102_12)).trans hx102_12
                have HR102_2 := Aside0.mk hi102_2
                have HC102_2 := Aside0.mk hl102_2
                clear hi102_2 hl102_2
                have HR102_7 := Aside0.mk hi102_7
                have HC102_7 := Aside0.mk hl102_7
                clear hi102_7 hl102_7
                have HR102_8 := Aside0.mk hi102_8
                have HC102_8 := Aside0.mk hl102_8
                clear hi102_8 hl102_8
                have HR102_11 := Aside0.mk hi102_11
                have HC102_11 := Aside0.mk hl102_11
                clear hi102_11 hl102_11
                have HR102_12 := Aside0.mk hi102_12
                have HC102_12 := Aside0.mk hl102_12
                clear hi102_12 hl102_12
                replace p102 := eq_true p102
                replace q102 := eq_true q102
                go_wp2_with (first | ((with_reducible refine gate_dst (N := 7) rfl ?_); refine box_event ?hg (N := 7) ?hd (cs := #[.int .u8 0, .string (⟨#[]⟩ : ByteArray), .slice none 0 0, .int .i64 0, .int .i64 0, .int .i64 0, .int .i64 0, .slice none 0 0, .slice none 0 0, .string (⟨#[]⟩ : ByteArray), .int .u8 0, .slice none 0 0, .slice none 0 0]) (t := 60) ?hr ?_; (case hd => rfl); (case hg => rfl); (case hr => first | (go_simp; done) | (go_simp; rfl)); intro gb103 hg w15 hbox hb; have n0_ := Aside0.mk (Kd.R_below (by (with_reducible repeat (first | apply Kd.R_alloc | apply Kd.R_drewN | apply Kd.R_drew)); exact HO_5.out) hb); have n1_ := Aside0.mk (blk_below (g := gb101) (o := .cells #[.slice A0_0 l0_0.length c0_0, .slice (some ad102) l0_1.length c0_1, .int .i64 a0_2, .int .i64 a0_3, .int .i64 a0_4] 44 (0, 0)) (by (with_reducible repeat (first | refine blk_drewN ?_ _ | refine blk_drew ?_ | refine blk_alloc ?_ _)); exact BK101.out) hb); have n2_ := Aside0.mk (below_step (by repeat (first | (with_reducible first | exact HB.out | apply below_alloc | apply pw_below_drewN | apply below_drew1 | refine below_set ?_ GE101.out) | exact HB.out)) hb); have n3_ := Aside0.mk (hbox); have n4_ := Aside0.mk ((by rw [hg]; exact (below_size (by repeat (first | (with_reducible first | exact HB.out | apply below_alloc | apply pw_below_drewN | apply below_drew1 | refine below_set ?_ GE101.out) | exact HB.out))) : w.heap.size ≤ gb103)); have n5_ := Aside0.mk ((by rw [hg]; exact (below_size (by repeat (first | (with_reducible first | exact HB.out | apply below_alloc | apply pw_below_drewN | apply below_drew1 | refine below_set ?_ GE101.out) | exact HB.out))) : w.heap.size ≤ gb103)); have n6_ := Aside0.mk ((by rw [hg]; exact Nat.ne_of_lt (blk_lt (g := gb101) (o := .cells #[.slice A0_0 l0_0.length c0_0, .slice (some ad102) l0_1.length c0_1, .int .i64 a0_2, .int .i64 a0_3, .int .i64 a0_4] 44 (0, 0)) (by (with_reducible repeat (first | refine blk_drewN ?_ _ | refine blk_drew ?_ | refine blk_alloc ?_ _)); exact BK101.out)) : gb101 ≠ gb103)); have n7_ := Aside0.mk ((by rw [hg]; exact Nat.ne_of_gt (blk_lt (g := gb101) (o := .cells #[.slice A0_0 l0_0.length c0_0, .slice (some ad102) l0_1.length c0_1, .int .i64 a0_2, .int .i64 a0_3, .int .i64 a0_4] 44 (0, 0)) (by (with_reducible repeat (first | refine blk_drewN ?_ _ | refine blk_drew ?_ | refine blk_alloc ?_ _)); exact BK101.out)) : gb103 ≠ gb101)); clear HO_5; clear BK101; clear HB; have HO_5 := n0_; have BK101 := n1_; have HB := n2_; have BK103 := n3_; have GW103 := n4_; have GE103 := n5_; have NB101_103 := n6_; have NB103_101 := n7_; clear n0_ n1_ n2_ n3_ n4_ n5_ n6_ n7_; clear hb hbox hg; have hnb16 := NB103_101.out; have hnc16 := NB101_103.out; have hcz17_0 : w15.cell? ⟨gb103, 0, none⟩ = some (.int .u8 0) := (blk_cell BK103.out 0).trans rfl; have hcz17_1 : w15.cell? ⟨gb103, 1, none⟩ = some (.string (⟨#[]⟩ : ByteArray)) := (blk_cell BK103.out 1).trans rfl; have hcz17_2 : w15.cell? ⟨gb103, 2, none⟩ = some (.slice none 0 0) := (blk_cell BK103.out 2).trans rfl; have hcz17_3 : w15.cell? ⟨gb103, 3, none⟩ = some (.int .i64 0) := (blk_cell BK103.out 3).trans rfl; have hcz17_4 : w15.cell? ⟨gb103, 4, none⟩ = some (.int .i64 0) := (blk_cell BK103.out 4).trans rfl; have hcz17_5 : w15.cell? ⟨gb103, 5, none⟩ = some (.int .i64 0) := (blk_cell BK103.out 5).trans rfl; have hcz17_6 : w15.cell? ⟨gb103, 6, none⟩ = some (.int .i64 0) := (blk_cell BK103.out 6).trans rfl; have hcz17_7 : w15.cell? ⟨gb103, 7, none⟩ = some (.slice none 0 0) := (blk_cell BK103.out 7).trans rfl; have hcz17_8 : w15.cell? ⟨gb103, 8, none⟩ = some (.slice none 0 0) := (blk_cell BK103.out 8).trans rfl; have hcz17_9 : w15.cell? ⟨gb103, 9, none⟩ = some (.string (⟨#[]⟩ : ByteArray)) := (blk_cell BK103.out 9).trans rfl; have hcz17_10 : w15.cell? ⟨gb103, 10, none⟩ = some (.int .u8 0) := (blk_cell BK103.out 10).trans rfl; have hcz17_11 : w15.cell? ⟨gb103, 11, none⟩ = some (.slice none 0 0) := (blk_cell BK103.out 11).trans rfl; have hcz17_12 : w15.cell? ⟨gb103, 12, none⟩ = some (.slice none 0 0) := (blk_cell BK103.out 12).trans rfl; have hfz17_0 := blk_frozen BK103.out 0; have hfz17_1 := blk_frozen BK103.out 1; have hfz17_2 := blk_frozen BK103.out 2; have hfz17_3 := blk_frozen BK103.out 3; have hfz17_4 := blk_frozen BK103.out 4; have hfz17_5 := blk_frozen BK103.out 5; have hfz17_6 := blk_frozen BK103.out 6; have hfz17_7 := blk_frozen BK103.out 7; have hfz17_8 := blk_frozen BK103.out 8; have hfz17_9 := blk_frozen BK103.out 9; have hfz17_10 := blk_frozen BK103.out 10; have hfz17_11 := blk_frozen BK103.out 11; have hfz17_12 := blk_frozen BK103.out 12) | ((with_reducible refine gate_callee (f := 48) rfl ?_); refine goesL_ (some 22) rfl rfl Tryd.func48 (by kernel_rfl) rfl #[.string (⟨#[118, 101, 104, 99, 108, 116]⟩ : ByteArray), .int .u8 ((rd_T60 l0_1 x16_1).f0)] rfl (by (try simp only [List.map_toArray, List.map_cons, List.map_nil]); first | done | rfl | (simp only [List.length_drop, List.length_take]; rfl)) ?_; (with_reducible refine (strings_IndexByte.calls (⟨#[118, 101, 104, 99, 108, 116]⟩ : ByteArray) ((rd_T60 l0_1 x16_1).f0) t104 _ A7.out).mono ?_); rintro e w' ⟨rfl, ⟨nd, rfl⟩⟩; refine ⟨_, rfl, ?_⟩) | ((with_reducible refine gate_builtin (b := .append) (xs := #[.tmp 27, .tmp 29]) rfl ?_); at_builtin; refine Kd.R_append (Kd.int .i64) (w0 := w) w.heap.size rfl (.tmp 27) (.tmp 29) 34 3 (.int .i64 0) 8 rfl Tryd.underlying34 info3 rfl (by decide) (by omega) u5 x5_1 (-1) [.int .i64 (-1)] (fun _ => True) (fun _ => False) rfl (by first | (go_simp; done) | (go_simp; rfl)) ?aP (fun _ hk => hk.elim) ?aF ?aO ?aB ?aS ?aL ?_; (case aP => exact rfl); (case aB => exact (by repeat (first | (with_reducible first | exact HB.out | apply below_alloc | apply pw_below_drewN | apply below_drew1 | refine below_set ?_ GE101.out | refine below_set ?_ GE103.out) | exact HB.out))); (case aF => exact (fun _ _ => trivial)); (case aO => exact (by (with_reducible repeat (first | apply Kd.R_alloc | apply Kd.R_drewN | apply Kd.R_drew)); exact Kd.R_mono (Kd.R_far (p := ⟨gb103, 12, none⟩) (Kd.R_far (p := ⟨gb103, 11, none⟩) (Kd.R_far (p := ⟨gb103, 10, none⟩) (Kd.R_far (p := ⟨gb103, 9, none⟩) (Kd.R_far (p := ⟨gb103, 8, none⟩) (Kd.R_far (p := ⟨gb103, 7, none⟩) (Kd.R_far (p := ⟨gb103, 6, none⟩) (Kd.R_far (p := ⟨gb103, 5, none⟩) (Kd.R_far (p := ⟨gb103, 4, none⟩) (Kd.R_far (p := ⟨gb103, 3, none⟩) (Kd.R_far (p := ⟨gb103, 2, none⟩) (Kd.R_far (p := ⟨gb103, 1, none⟩) (Kd.R_far (p := ⟨gb103, 0, none⟩) (Kd.R_types HO_5.out BK103.out (by decide)) (fun _ hk => hk.2) (.int .u8 ((rd_T60 l0_1 x16_1).f0))) (fun _ hk => hk.2) (.string ((rd_T60 l0_1 x16_1).f1))) (fun _ hk => hk.2) (.slice A102_2 ((rd_T60 l0_1 x16_1).f2).length c102_2)) (fun _ hk => hk.2) (.int .i64 ((rd_T60 l0_1 x16_1).f3))) (fun _ hk => hk.2) (.int .i64 ((rd_T60 l0_1 x16_1).f4.f0))) (fun _ hk => hk.2) (.int .i64 ((rd_T60 l0_1 x16_1).f4.f1))) (fun _ hk => hk.2) (.int .i64 ((rd_T60 l0_1 x16_1).f5.f0))) (fun _ hk => hk.2) (.slice A102_7 ((rd_T60 l0_1 x16_1).f5.f1).length c102_7)) (fun _ hk => hk.2) (.slice A102_8 ((rd_T60 l0_1 x16_1).f5.f2).length c102_8)) (fun _ hk => hk.2) (.string ((rd_T60 l0_1 x16_1).f6.f0))) (fun _ hk => hk.2) (.int .u8 ((rd_T60 l0_1 x16_1).f6.f1))) (fun _ hk => hk.2) (.slice A102_11 ((rd_T60 l0_1 x16_1).f6.f2).length c102_11)) (fun _ hk => hk.2) (.slice A102_12 ((rd_T60 l0_1 x16_1).f6.f3).length c102_12)) (fun _ hk => trivial))); (case aS => exact (below_size (by repeat (first | (with_reducible first | exact HB.out | apply below_alloc | apply pw_below_drewN | apply below_drew1 | refine below_set ?_ GE101.out | refine below_set ?_ GE103.out) | exact HB.out)))); (case aL => have := LMc14.out; omega); intro v109 w18 ho hb hg hat; rw [← Ny108.out] at ho; have n0_ := Aside0.mk (blk_grown (g := gb101) (o := .cells #[.slice A0_0 l0_0.length c0_0, .slice (some ad102) l0_1.length c0_1, .int .i64 a0_2, .int .i64 a0_3, .int .i64 a0_4] 44 (0, 0)) (by (with_reducible repeat (first | refine blk_drewN ?_ _ | refine blk_drew ?_ | refine blk_alloc ?_ _)); refine blk_far ?_ NB101_103.out _; (with_reducible repeat (first | refine blk_drewN ?_ _ | refine blk_drew ?_ | refine blk_alloc ?_ _)); refine blk_far ?_ NB101_103.out _; (with_reducible repeat (first | refine blk_drewN ?_ _ | refine blk_drew ?_ | refine blk_alloc ?_ _)); refine blk_far ?_ NB101_103.out _; (with_reducible repeat (first | refine blk_drewN ?_ _ | refine blk_drew ?_ | refine blk_alloc ?_ _)); refine blk_far ?_ NB101_103.out _; (with_reducible repeat (first | refine blk_drewN ?_ _ | refine blk_drew ?_ | refine blk_alloc ?_ _)); refine blk_far ?_ NB101_103.out _; (with_reducible repeat (first | refine blk_drewN ?_ _ | refine blk_drew ?_ | refine blk_alloc ?_ _)); refine blk_far ?_ NB101_103.out _; (with_reducible repeat (first | refine blk_drewN ?_ _ | refine blk_drew ?_ | refine blk_alloc ?_ _)); refine blk_far ?_ NB101_103.out _; (with_reducible repeat (first | refine blk_drewN ?_ _ | refine blk_drew ?_ | refine blk_alloc ?_ _)); refine blk_far ?_ NB101_103.out _; (with_reducible repeat (first | refine blk_drewN ?_ _ | refine blk_drew ?_ | refine blk_alloc ?_ _)); refine blk_far ?_ NB101_103.out _; (with_reducible repeat (first | refine blk_drewN ?_ _ | refine blk_drew ?_ | refine blk_alloc ?_ _)); refine blk_far ?_ NB101_103.out _; (with_reducible repeat (first | refine blk_drewN ?_ _ | refine blk_drew ?_ | refine blk_alloc ?_ _)); refine blk_far ?_ NB101_103.out _; (with_reducible repeat (first | refine blk_drewN ?_ _ | refine blk_drew ?_ | refine blk_alloc ?_ _)); refine blk_far ?_ NB101_103.out _; (with_reducible repeat (first | refine blk_drewN ?_ _ | refine blk_drew ?_ | refine blk_alloc ?_ _)); refine blk_far ?_ NB101_103.out _; (with_reducible repeat (first | refine blk_drewN ?_ _ | refine blk_drew ?_ | refine blk_alloc ?_ _)); exact BK101.out) hg (Kd.R_ne HO_5.out BK101.out (by decide))); have n1_ := Aside0.mk (blk_grown (g := gb103) (o := .cells #[.int .u8 ((rd_T60 l0_1 x16_1).f0), .string ((rd_T60 l0_1 x16_1).f1), .slice A102_2 ((rd_T60 l0_1 x16_1).f2).length c102_2, .int .i64 ((rd_T60 l0_1 x16_1).f3), .int .i64 ((rd_T60 l0_1 x16_1).f4.f0), .int .i64 ((rd_T60 l0_1 x16_1).f4.f1), .int .i64 ((rd_T60 l0_1 x16_1).f5.f0), .slice A102_7 ((rd_T60 l0_1 x16_1).f5.f1).length c102_7, .slice A102_8 ((rd_T60 l0_1 x16_1).f5.f2).length c102_8, .string ((rd_T60 l0_1 x16_1).f6.f0), .int .u8 ((rd_T60 l0_1 x16_1).f6.f1), .slice A102_11 ((rd_T60 l0_1 x16_1).f6.f2).length c102_11, .slice A102_12 ((rd_T60 l0_1 x16_1).f6.f3).length c102_12] 60 (0, 0)) (by (with_reducible repeat (first | refine blk_drewN ?_ _ | refine blk_drew ?_ | refine blk_alloc ?_ _)); refine blk_put (cs := #[.int .u8 ((rd_T60 l0_1 x16_1).f0), .string ((rd_T60 l0_1 x16_1).f1), .slice A102_2 ((rd_T60 l0_1 x16_1).f2).length c102_2, .int .i64 ((rd_T60 l0_1 x16_1).f3), .int .i64 ((rd_T60 l0_1 x16_1).f4.f0), .int .i64 ((rd_T60 l0_1 x16_1).f4.f1), .int .i64 ((rd_T60 l0_1 x16_1).f5.f0), .slice A102_7 ((rd_T60 l0_1 x16_1).f5.f1).length c102_7, .slice A102_8 ((rd_T60 l0_1 x16_1).f5.f2).length c102_8, .string ((rd_T60 l0_1 x16_1).f6.f0), .int .u8 ((rd_T60 l0_1 x16_1).f6.f1), .slice A102_11 ((rd_T60 l0_1 x16_1).f6.f2).length c102_11, .slice none 0 0]) ?_ 12 _ rfl; (with_reducible repeat (first | refine blk_drewN ?_ _ | refine blk_drew ?_ | refine blk_alloc ?_ _)); refine blk_put (cs := #[.int .u8 ((rd_T60 l0_1 x16_1).f0), .string ((rd_T60 l0_1 x16_1).f1), .slice A102_2 ((rd_T60 l0_1 x16_1).f2).length c102_2, .int .i64 ((rd_T60 l0_1 x16_1).f3), .int .i64 ((rd_T60 l0_1 x16_1).f4.f0), .int .i64 ((rd_T60 l0_1 x16_1).f4.f1), .int .i64 ((rd_T60 l0_1 x16_1).f5.f0), .slice A102_7 ((rd_T60 l0_1 x16_1).f5.f1).length c102_7, .slice A102_8 ((rd_T60 l0_1 x16_1).f5.f2).length c102_8, .string ((rd_T60 l0_1 x16_1).f6.f0), .int .u8 ((rd_T60 l0_1 x16_1).f6.f1), .slice none 0 0, .slice none 0 0]) ?_ 11 _ rfl; (with_reducible repeat (first | refine blk_drewN ?_ _ | refine blk_drew ?_ | refine blk_alloc ?_ _)); refine blk_put (cs := #[.int .u8 ((rd_T60 l0_1 x16_1).f0), .string ((rd_T60 l0_1 x16_1).f1), .slice A102_2 ((rd_T60 l0_1 x16_1).f2).length c102_2, .int .i64 ((rd_T60 l0_1 x16_1).f3), .int .i64 ((rd_T60 l0_1 x16_1).f4.f0), .int .i64 ((rd_T60 l0_1 x16_1).f4.f1), .int .i64 ((rd_T60 l0_1 x16_1).f5.f0), .slice A102_7 ((rd_T60 l0_1 x16_1).f5.f1).length c102_7, .slice A102_8 ((rd_T60 l0_1 x16_1).f5.f2).length c102_8, .string ((rd_T60 l0_1 x16_1).f6.f0), .int .u8 0, .slice none 0 0, .slice none 0 0]) ?_ 10 _ rfl; (with_reducible repeat (first | refine blk_drewN ?_ _ | refine blk_drew ?_ | refine blk_alloc ?_ _)); refine blk_put (cs := #[.int .u8 ((rd_T60 l0_1 x16_1).f0), .string ((rd_T60 l0_1 x16_1).f1), .slice A102_2 ((rd_T60 l0_1 x16_1).f2).length c102_2, .int .i64 ((rd_T60 l0_1 x16_1).f3), .int .i64 ((rd_T60 l0_1 x16_1).f4.f0), .int .i64 ((rd_T60 l0_1 x16_1).f4.f1), .int .i64 ((rd_T60 l0_1 x16_1).f5.f0), .slice A102_7 ((rd_T60 l0_1 x16_1).f5.f1).length c102_7, .slice A102_8 ((rd_T60 l0_1 x16_1).f5.f2).length c102_8, .string (⟨#[]⟩ : ByteArray), .int .u8 0, .slice none 0 0, .slice none 0 0]) ?_ 9 _ rfl; (with_reducible repeat (first | refine blk_drewN ?_ _ | refine blk_drew ?_ | refine blk_alloc ?_ _)); refine blk_put (cs := #[.int .u8 ((rd_T60 l0_1 x16_1).f0), .string ((rd_T60 l0_1 x16_1).f1), .slice A102_2 ((rd_T60 l0_1 x16_1).f2).length c102_2, .int .i64 ((rd_T60 l0_1 x16_1).f3), .int .i64 ((rd_T60 l0_1 x16_1).f4.f0), .int .i64 ((rd_T60 l0_1 x16_1).f4.f1), .int .i64 ((rd_T60 l0_1 x16_1).f5.f0), .slice A102_7 ((rd_T60 l0_1 x16_1).f5.f1).length c102_7, .slice none 0 0, .string (⟨#[]⟩ : ByteArray), .int .u8 0, .slice none 0 0, .slice none 0 0]) ?_ 8 _ rfl; (with_reducible repeat (first | refine blk_drewN ?_ _ | refine blk_drew ?_ | refine blk_alloc ?_ _)); refine blk_put (cs := #[.int .u8 ((rd_T60 l0_1 x16_1).f0), .string ((rd_T60 l0_1 x16_1).f1), .slice A102_2 ((rd_T60 l0_1 x16_1).f2).length c102_2, .int .i64 ((rd_T60 l0_1 x16_1).f3), .int .i64 ((rd_T60 l0_1 x16_1).f4.f0), .int .i64 ((rd_T60 l0_1 x16_1).f4.f1), .int .i64 ((rd_T60 l0_1 x16_1).f5.f0), .slice none 0 0, .slice none 0 0, .string (⟨#[]⟩ : ByteArray), .int .u8 0, .slice none 0 0, .slice none 0 0]) ?_ 7 _ rfl; (with_reducible repeat (first | refine blk_drewN ?_ _ | refine blk_drew ?_ | refine blk_alloc ?_ _)); refine blk_put (cs := #[.int .u8 ((rd_T60 l0_1 x16_1).f0), .string ((rd_T60 l0_1 x16_1).f1), .slice A102_2 ((rd_T60 l0_1 x16_1).f2).length c102_2, .int .i64 ((rd_T60 l0_1 x16_1).f3), .int .i64 ((rd_T60 l0_1 x16_1).f4.f0), .int .i64 ((rd_T60 l0_1 x16_1).f4.f1), .int .i64 0, .slice none 0 0, .slice none 0 0, .string (⟨#[]⟩ : ByteArray), .int .u8 0, .slice none 0 0, .slice none 0 0]) ?_ 6 _ rfl; (with_reducible repeat (first | refine blk_drewN ?_ _ | refine blk_drew ?_ | refine blk_alloc ?_ _)); refine blk_put (cs := #[.int .u8 ((rd_T60 l0_1 x16_1).f0), .string ((rd_T60 l0_1 x16_1).f1), .slice A102_2 ((rd_T60 l0_1 x16_1).f2).length c102_2, .int .i64 ((rd_T60 l0_1 x16_1).f3), .int .i64 ((rd_T60 l0_1 x16_1).f4.f0), .int .i64 0, .int .i64 0, .slice none 0 0, .slice none 0 0, .string (⟨#[]⟩ : ByteArray), .int .u8 0, .slice none 0 0, .slice none 0 0]) ?_ 5 _ rfl; (with_reducible repeat (first | refine blk_drewN ?_ _ | refine blk_drew ?_ | refine blk_alloc ?_ _)); refine blk_put (cs := #[.int .u8 ((rd_T60 l0_1 x16_1).f0), .string ((rd_T60 l0_1 x16_1).f1), .slice A102_2 ((rd_T60 l0_1 x16_1).f2).length c102_2, .int .i64 ((rd_T60 l0_1 x16_1).f3), .int .i64 0, .int .i64 0, .int .i64 0, .slice none 0 0, .slice none 0 0, .string (⟨#[]⟩ : ByteArray), .int .u8 0, .slice none 0 0, .slice none 0 0]) ?_ 4 _ rfl; (with_reducible repeat (first | refine blk_drewN ?_ _ | refine blk_drew ?_ | refine blk_alloc ?_ _)); refine blk_put (cs := #[.int .u8 ((rd_T60 l0_1 x16_1).f0), .string ((rd_T60 l0_1 x16_1).f1), .slice A102_2 ((rd_T60 l0_1 x16_1).f2).length c102_2, .int .i64 0, .int .i64 0, .int .i64 0, .int .i64 0, .slice none 0 0, .slice none 0 0, .string (⟨#[]⟩ : ByteArray), .int .u8 0, .slice none 0 0, .slice none 0 0]) ?_ 3 _ rfl; (with_reducible repeat (first | refine blk_drewN ?_ _ | refine blk_drew ?_ | refine blk_alloc ?_ _)); refine blk_put (cs := #[.int .u8 ((rd_T60 l0_1 x16_1).f0), .string ((rd_T60 l0_1 x16_1).f1), .slice none 0 0, .int .i64 0, .int .i64 0, .int .i64 0, .int .i64 0, .slice none 0 0, .slice none 0 0, .string (⟨#[]⟩ : ByteArray), .int .u8 0, .slice none 0 0, .slice none 0 0]) ?_ 2 _ rfl; (with_reducible repeat (first | refine blk_drewN ?_ _ | refine blk_drew ?_ | refine blk_alloc ?_ _)); refine blk_put (cs := #[.int .u8 ((rd_T60 l0_1 x16_1).f0), .string (⟨#[]⟩ : ByteArray), .slice none 0 0, .int .i64 0, .int .i64 0, .int .i64 0, .int .i64 0, .slice none 0 0, .slice none 0 0, .string (⟨#[]⟩ : ByteArray), .int .u8 0, .slice none 0 0, .slice none 0 0]) ?_ 1 _ rfl; (with_reducible repeat (first | refine blk_drewN ?_ _ | refine blk_drew ?_ | refine blk_alloc ?_ _)); refine blk_put (cs := #[.int .u8 0, .string (⟨#[]⟩ : ByteArray), .slice none 0 0, .int .i64 0, .int .i64 0, .int .i64 0, .int .i64 0, .slice none 0 0, .slice none 0 0, .string (⟨#[]⟩ : ByteArray), .int .u8 0, .slice none 0 0, .slice none 0 0]) ?_ 0 _ rfl; (with_reducible repeat (first | refine blk_drewN ?_ _ | refine blk_drew ?_ | refine blk_alloc ?_ _)); exact BK103.out) hg (Kd.R_ne HO_5.out BK103.out (by decide))); have n2_ := Aside0.mk (hb); have n3_ := Aside0.mk (ho); clear BK101; clear BK103; clear HB; clear HO_5; have BK101 := n0_; have BK103 := n1_; have HB := n2_; have HO110 := n3_; clear n0_ n1_ n2_ n3_; clear ho hb hg hat))
                go_roundg k1
                case measure => have := HK1.out; omega
                case rel => exact ⟨(x4_1), (y108), (wrap64 (x16_1 + 1)), (by first | rfl | (simp; done) | (simp [*]; done)), (by first | rfl | (simp; done) | (simp [*]; done)), H', ⟨by have := HK1.out; omega⟩, ⟨by (with_reducible repeat (first | apply Kd.R_alloc | apply Kd.R_drewN | apply Kd.R_drew)); exact HO110.out⟩, ⟨by (with_reducible repeat (first | refine blk_drewN ?_ _ | refine blk_drew ?_ | refine blk_alloc ?_ _)); exact BK101.out⟩, ⟨by repeat (first | (with_reducible first | exact HB.out | apply below_alloc | apply pw_below_drewN | apply below_drew1 | refine below_set ?_ GE101.out | refine below_set ?_ GE103.out) | exact HB.out)⟩⟩
              · rw [if_neg c14] at H
                exact absurd H (by simp)
          · rw [if_neg c6] at H
            exact absurd H (by simp)
        · rw [if_neg c5] at H
          exact absurd H (by simp)
      · rw [if_neg c4] at H
        have c4b0 : decide (x16_1 < (l0_1.length : Int)) = false := decide_eq_false c4
        clear c4
        simp only [Option.some.injEq, Prod.mk.injEq] at H
        obtain ⟨rfl, rfl⟩ := H
        go_wp2
        go_ret2
        exact ⟨_, by first | rfl | (simp [errW_none, errW_some] <;> rfl) | (simp [*, errW_none, errW_some] <;> rfl), by (with_reducible repeat (first | apply Kd.R_alloc | apply Kd.R_drewN | apply Kd.R_drew)); exact HO_5.out, by repeat (first | (with_reducible first | exact HB.out | apply below_alloc | apply pw_below_drewN | apply below_drew1 | refine below_set ?_ GE101.out) | exact HB.out)⟩
end Go.Proofs.YtbckpbiimknnnaaDoor.X
namespace Go.Proofs.YtbckpbiimknnnaaDoor.X
open Go.RowKit Go.Proofs.YtbckpbiimknnnaaDoorW.PrintWords Go.Proofs.YtbckpbiimknnnaaDoorW.PrintLast Go.Proofs.YtbckpbiimknnnaaDoorW.PrintMore
attribute [local go_sem] max2_int min2_int max_two min_two max_three min_three max_four min_four
set_option linter.unusedVariables false
set_option linter.unusedSimpArgs false
def flat_long_1.f (a0 : ByteArray) : Option (Bool) := (card_Name.f a0).bind fun t101 => (some (!t101))
set_option maxHeartbeats 8000000 in
set_option maxRecDepth 100000 in
theorem flat_long_1.calls (a0 : ByteArray) (r : Bool) (w : World) (h : flat_long_1.f a0 = some r) :
    Calls Tryd.prog 44 #[.string a0] w fun e w' => e = .returned (.bool r) ∧ Below w.heap.size w w' := by
  have HB := Aside0.mk (Below.refl w.heap.size w)
  have H : ((card_Name.f a0).bind fun t101 => (some (!t101))) = some r := h
  clear h
  replace H := Option.bind_eq_some_iff.mp H
  obtain ⟨t101, A20, H⟩ := H
  replace H : (some (!t101)) = some r := H
  have A2 := Aside0.mk A20
  clear A20
  obtain rfl := Option.some.inj H
  go_enter Tryd.func44, Tryd.ntmps44
  go_wp2_with (first | ((with_reducible refine gate_callee (f := 43) rfl ?_); refine goesL_ (some 4) rfl rfl Tryd.func43 (by kernel_rfl) rfl #[.string a0] rfl (by (try simp only [List.map_toArray, List.map_cons, List.map_nil]); first | done | rfl | (simp only [List.length_drop, List.length_take]; rfl)) ?_; (with_reducible refine (card_Name.calls a0 t101 _ A2.out).mono ?_); rintro e w3 ⟨rfl, hb⟩; refine ⟨_, rfl, ?_⟩; have n0_ := Aside0.mk (below_step (by repeat (first | (with_reducible first | exact HB.out | apply below_alloc | apply pw_below_drewN | apply below_drew1) | exact HB.out)) hb); clear HB; have HB := n0_; clear n0_; (try clear hb); (try clear hb2); (try clear hk); (try clear hi)))
  go_ret
  exact ⟨by first | rfl | (simp [errW_none, errW_some] <;> rfl) | (simp [*, errW_none, errW_some] <;> rfl), by repeat (first | (with_reducible first | exact HB.out | apply below_alloc | apply pw_below_drewN | apply below_drew1) | exact HB.out)⟩
end Go.Proofs.YtbckpbiimknnnaaDoor.X
namespace Go.Proofs.YtbckpbiimknnnaaDoor.X
open Go.RowKit Go.Proofs.YtbckpbiimknnnaaDoorW.PrintWords Go.Proofs.YtbckpbiimknnnaaDoorW.PrintLast Go.Proofs.YtbckpbiimknnnaaDoorW.PrintMore
attribute [local go_sem] max2_int min2_int max_two min_two max_three min_three max_four min_four
set_option linter.unusedVariables false
set_option linter.unusedSimpArgs false
theorem flat_notName_some (s : ByteArray) : flat_long_1.f s = some (!nameB s) := by
  unfold flat_long_1.f card_Name.f model_Name.f
  rfl
def slices_ContainsFunc_string_string__flat_long_1.f (l0 : List ByteArray) : Option (Bool) := some (l0.any fun p => !nameB p)
set_option maxHeartbeats 8000000 in
set_option maxRecDepth 1000000 in
theorem slices_ContainsFunc_string_string__flat_long_1.calls (A0 : Option Addr) (c0 : Nat) (l0 : List ByteArray) (r : Bool) (w : World) (hr0 : Kd.C Kd.string w A0 l0.length l0) (hc0 : l0.length ≤ c0) (h : slices_ContainsFunc_string_string__flat_long_1.f l0 = some r) :
    Calls Tryd.prog 28 #[.slice A0 l0.length c0, .func (.func 44) #[] #[]] w fun e w' => e = .returned (.bool r) ∧ Below w.heap.size w w' := by
  simp only [slices_ContainsFunc_string_string__flat_long_1.f, Option.some.injEq] at h
  subst h
  exact slices_ContainsFunc_string_string.gen (fun p => !nameB p) _ (fun _ _ => by kernel_rfl) A0 c0 l0 w hr0 (fun W x _ hb => (flat_long_1.calls x _ W (flat_notName_some x)).mono fun e w' he => ⟨he.1, hb.trans (he.2.mono hb.size)⟩)
end Go.Proofs.YtbckpbiimknnnaaDoor.X
namespace Go.Proofs.YtbckpbiimknnnaaDoor.X
open Go.RowKit Go.Proofs.YtbckpbiimknnnaaDoorW.PrintWords Go.Proofs.YtbckpbiimknnnaaDoorW.PrintLast Go.Proofs.YtbckpbiimknnnaaDoorW.PrintMore
attribute [local go_sem] max2_int min2_int max_two min_two max_three min_three max_four min_four
set_option linter.unusedVariables false
set_option linter.unusedSimpArgs false
def flat_long.f (a0 : ByteArray) : Option (Bool) := (strings_Split.f a0 (⟨#[46]⟩ : ByteArray)).bind fun t101 => (if (t101.length : Int) ≤ 9 then ((slices_ContainsFunc_string_string__flat_long_1.f t101).bind fun t104 => (some (!t104))) else (some false))
set_option maxHeartbeats 8000000 in
set_option maxRecDepth 100000 in
theorem flat_long.calls (a0 : ByteArray) (r : Bool) (w : World) (h : flat_long.f a0 = some r) :
    Calls Tryd.prog 35 #[.string a0] w fun e w' => e = .returned (.bool r) ∧ Below w.heap.size w w' := by
  have HB := Aside0.mk (Below.refl w.heap.size w)
  have H : ((strings_Split.f a0 (⟨#[46]⟩ : ByteArray)).bind fun t101 => (if (t101.length : Int) ≤ 9 then ((slices_ContainsFunc_string_string__flat_long_1.f t101).bind fun t104 => (some (!t104))) else (some false))) = some r := h
  clear h
  replace H := Option.bind_eq_some_iff.mp H
  obtain ⟨t101, A20, H⟩ := H
  replace H : (if (t101.length : Int) ≤ 9 then ((slices_ContainsFunc_string_string__flat_long_1.f t101).bind fun t104 => (some (!t104))) else (some false)) = some r := H
  have A2 := Aside0.mk A20
  clear A20
  by_cases c3 : (t101.length : Int) ≤ 9
  · rw [if_pos c3] at H
    have c3b0 : decide ((t101.length : Int) ≤ 9) = true := decide_eq_true c3
    have c3b1 : decide (t101.length ≤ 9) = true := decide_eq_true (by omega)
    clear c3
    replace H := Option.bind_eq_some_iff.mp H
    obtain ⟨t104, A40, H⟩ := H
    replace H : (some (!t104)) = some r := H
    have A4 := Aside0.mk A40
    clear A40
    obtain rfl := Option.some.inj H
    go_enter Tryd.func35, Tryd.ntmps35
    go_wp2_with (first | ((with_reducible refine gate_callee (f := 27) rfl ?_); refine goesL_ (some 5) rfl rfl Tryd.func27 (by kernel_rfl) rfl #[.string a0, .string (⟨#[46]⟩ : ByteArray)] rfl (by (try simp only [List.map_toArray, List.map_cons, List.map_nil]); first | done | rfl | (simp only [List.length_drop, List.length_take]; rfl)) ?_; (with_reducible refine (strings_Split.calls a0 (⟨#[46]⟩ : ByteArray) t101 _ A2.out).mono ?_); rintro e w5 ⟨v102, rfl, ho0, hb⟩; refine ⟨_, rfl, ?_⟩; have n0_ := Aside0.mk (Kd.R_lower ho0 (below_size (by repeat (first | (with_reducible first | exact HB.out | apply below_alloc | apply pw_below_drewN | apply below_drew1) | exact HB.out)))); have n1_ := Aside0.mk (below_step (by repeat (first | (with_reducible first | exact HB.out | apply below_alloc | apply pw_below_drewN | apply below_drew1) | exact HB.out)) hb); clear HB; have HO103 := n0_; have HB := n1_; clear n0_ n1_; (try clear hb); (try clear hb2); (try clear hk); (try clear hi); (try clear ho0); obtain ⟨Ao6, co6, eo6⟩ := Kd.R_slice HO103.out; subst eo6) | (go_at_call 28; (with_reducible refine (slices_ContainsFunc_string_string__flat_long_1.calls _ _ t101 t104 _ ?side1 ?side2 A4.out).mono ?_); (case side1 => repeat (first | exact (Kd.R_reads' HO103.out).2.2 | (with_reducible refine Kd.C_alloc ?_ _) | (with_reducible refine Kd.C_drewN ?_ _) | (with_reducible refine Kd.C_drew ?_))); (case side2 => exact (Kd.R_reads' HO103.out).2.1); rintro e w7 ⟨rfl, hb⟩; have n0_ := Aside0.mk (Kd.R_below (by (with_reducible repeat (first | apply Kd.R_alloc | apply Kd.R_drewN | apply Kd.R_drew)); exact HO103.out) hb); have n1_ := Aside0.mk (below_step (by repeat (first | (with_reducible first | exact HB.out | apply below_alloc | apply pw_below_drewN | apply below_drew1) | exact HB.out)) hb); clear HO103; clear HB; have HO103 := n0_; have HB := n1_; clear n0_ n1_; (try clear hb); (try clear hb2); (try clear hk); (try clear hi)))
    go_ret
    exact ⟨by first | rfl | (simp [errW_none, errW_some] <;> rfl) | (simp [*, errW_none, errW_some] <;> rfl), by repeat (first | (with_reducible first | exact HB.out | apply below_alloc | apply pw_below_drewN | apply below_drew1) | exact HB.out)⟩
  · rw [if_neg c3] at H
    have c3b0 : decide ((t101.length : Int) ≤ 9) = false := decide_eq_false c3
    have c3b1 : decide (t101.length ≤ 9) = false := decide_eq_false (by omega)
    clear c3
    obtain rfl := Option.some.inj H
    go_enter Tryd.func35, Tryd.ntmps35
    go_wp2_with (first | ((with_reducible refine gate_callee (f := 27) rfl ?_); refine goesL_ (some 5) rfl rfl Tryd.func27 (by kernel_rfl) rfl #[.string a0, .string (⟨#[46]⟩ : ByteArray)] rfl (by (try simp only [List.map_toArray, List.map_cons, List.map_nil]); first | done | rfl | (simp only [List.length_drop, List.length_take]; rfl)) ?_; (with_reducible refine (strings_Split.calls a0 (⟨#[46]⟩ : ByteArray) t101 _ A2.out).mono ?_); rintro e w8 ⟨v102, rfl, ho0, hb⟩; refine ⟨_, rfl, ?_⟩; have n0_ := Aside0.mk (Kd.R_lower ho0 (below_size (by repeat (first | (with_reducible first | exact HB.out | apply below_alloc | apply pw_below_drewN | apply below_drew1) | exact HB.out)))); have n1_ := Aside0.mk (below_step (by repeat (first | (with_reducible first | exact HB.out | apply below_alloc | apply pw_below_drewN | apply below_drew1) | exact HB.out)) hb); clear HB; have HO103 := n0_; have HB := n1_; clear n0_ n1_; (try clear hb); (try clear hb2); (try clear hk); (try clear hi); (try clear ho0); obtain ⟨Ao9, co9, eo9⟩ := Kd.R_slice HO103.out; subst eo9))
    go_ret
    exact ⟨by first | rfl | (simp [errW_none, errW_some] <;> rfl) | (simp [*, errW_none, errW_some] <;> rfl), by repeat (first | (with_reducible first | exact HB.out | apply below_alloc | apply pw_below_drewN | apply below_drew1) | exact HB.out)⟩
end Go.Proofs.YtbckpbiimknnnaaDoor.X
namespace Go.Proofs.YtbckpbiimknnnaaDoor.X
open Go.RowKit Go.Proofs.YtbckpbiimknnnaaDoorW.PrintWords Go.Proofs.YtbckpbiimknnnaaDoorW.PrintLast Go.Proofs.YtbckpbiimknnnaaDoorW.PrintMore
attribute [local go_sem] max2_int min2_int max_two min_two max_three min_three max_four min_four
set_option linter.unusedVariables false
set_option linter.unusedSimpArgs false
def flat_noModel.f (a0_0 : ByteArray) (a0_1 : Int) (l0_2 : List (S42)) (l0_3 : List (S42)) : Option (Bool) := if a0_0.toList = ([] : List UInt8) then (if a0_1 = 0 then (some ((wrap64 ((l0_2.length : Int) + (l0_3.length : Int))) == 0)) else (some false)) else (some false)
set_option maxHeartbeats 8000000 in
set_option maxRecDepth 100000 in
theorem flat_noModel.calls (a0_0 : ByteArray) (a0_1 : Int) (A0_2 : Option Addr) (c0_2 : Nat) (l0_2 : List (S42)) (A0_3 : Option Addr) (c0_3 : Nat) (l0_3 : List (S42)) (r : Bool) (w : World) (hr0_2 : Kd.C k42 w A0_2 l0_2.length l0_2) (hc0_2 : l0_2.length ≤ c0_2) (hr0_3 : Kd.C k42 w A0_3 l0_3.length l0_3) (hc0_3 : l0_3.length ≤ c0_3) (h : flat_noModel.f a0_0 a0_1 l0_2 l0_3 = some r) :
    Calls Tryd.prog 46 #[.agg #[.string a0_0, .int .u8 a0_1, .slice A0_2 l0_2.length c0_2, .slice A0_3 l0_3.length c0_3]] w fun e w' => e = .returned (.bool r) ∧ Below w.heap.size w w' := by
  have hu58 := Tryd.underlying58
  have HR0_2 := Aside0.mk hr0_2
  have HC0_2 := Aside0.mk hc0_2
  clear hr0_2 hc0_2
  have HR0_3 := Aside0.mk hr0_3
  have HC0_3 := Aside0.mk hc0_3
  clear hr0_3 hc0_3
  have HB := Aside0.mk (Below.refl w.heap.size w)
  have H : (if a0_0.toList = ([] : List UInt8) then (if a0_1 = 0 then (some ((wrap64 ((l0_2.length : Int) + (l0_3.length : Int))) == 0)) else (some false)) else (some false)) = some r := h
  clear h
  by_cases c2 : a0_0.toList = ([] : List UInt8)
  · rw [if_pos c2] at H
    have c2b0 : (a0_0.toList == ([] : List UInt8)) = true := beq_iff_eq.mpr c2
    have c2b1 : (a0_0.toList != ([] : List UInt8)) = false := bne_eq_false_iff_eq.mpr c2
    clear c2
    by_cases c3 : a0_1 = 0
    · rw [if_pos c3] at H
      have c3b0 : (a0_1 == 0) = true := beq_iff_eq.mpr c3
      have c3b1 : (a0_1 != 0) = false := bne_eq_false_iff_eq.mpr c3
      clear c3
      obtain rfl := Option.some.inj H
      go_enter Tryd.func46, Tryd.ntmps46
      go_wp2_with (first | ((with_reducible refine gate_dst (N := 1) rfl ?_); (try (refine gate_guard (by rfl) ?_; dsimp only)); refine box_event ?hg (N := 1) ?hd (cs := #[.string a0_0, .int .u8 a0_1, .slice A0_2 l0_2.length c0_2, .slice A0_3 l0_3.length c0_3]) (t := 58) ?hr ?_; (case hd => rfl); (case hg => rfl); (case hr => first | (go_simp; done) | (go_simp; rfl)); intro gb101 hg w4 hbox hb; have n0_ := Aside0.mk (below_step (by repeat (first | (with_reducible first | exact HB.out | apply below_alloc | apply pw_below_drewN | apply below_drew1) | exact HB.out)) hb); have n1_ := Aside0.mk (hbox); have n2_ := Aside0.mk ((by rw [hg]; exact (below_size (by repeat (first | (with_reducible first | exact HB.out | apply below_alloc | apply pw_below_drewN | apply below_drew1) | exact HB.out))) : w.heap.size ≤ gb101)); have n3_ := Aside0.mk ((by rw [hg]; exact (below_size (by repeat (first | (with_reducible first | exact HB.out | apply below_alloc | apply pw_below_drewN | apply below_drew1) | exact HB.out))) : w.heap.size ≤ gb101)); clear HB; have HB := n0_; have BK101 := n1_; have GW101 := n2_; have GE101 := n3_; clear n0_ n1_ n2_ n3_; clear hb hbox hg; have hcz5_0 : w4.cell? ⟨gb101, 0, none⟩ = some (.string a0_0) := (blk_cell BK101.out 0).trans rfl; have hcz5_1 : w4.cell? ⟨gb101, 1, none⟩ = some (.int .u8 a0_1) := (blk_cell BK101.out 1).trans rfl; have hcz5_2 : w4.cell? ⟨gb101, 2, none⟩ = some (.slice A0_2 l0_2.length c0_2) := (blk_cell BK101.out 2).trans rfl; have hcz5_3 : w4.cell? ⟨gb101, 3, none⟩ = some (.slice A0_3 l0_3.length c0_3) := (blk_cell BK101.out 3).trans rfl; have hfz5_0 := blk_frozen BK101.out 0; have hfz5_1 := blk_frozen BK101.out 1; have hfz5_2 := blk_frozen BK101.out 2; have hfz5_3 := blk_frozen BK101.out 3))
      go_ret
      exact ⟨by first | rfl | (simp [errW_none, errW_some] <;> rfl) | (simp [*, errW_none, errW_some] <;> rfl), by repeat (first | (with_reducible first | exact HB.out | apply below_alloc | apply pw_below_drewN | apply below_drew1 | refine below_set ?_ GE101.out) | exact HB.out)⟩
    · rw [if_neg c3] at H
      have c3b0 : (a0_1 == 0) = false := beq_eq_false_iff_ne.mpr c3
      have c3b1 : (a0_1 != 0) = true := bne_iff_ne.mpr c3
      obtain rfl := Option.some.inj H
      go_enter Tryd.func46, Tryd.ntmps46
      go_wp2_with (first | ((with_reducible refine gate_dst (N := 1) rfl ?_); (try (refine gate_guard (by rfl) ?_; dsimp only)); refine box_event ?hg (N := 1) ?hd (cs := #[.string a0_0, .int .u8 a0_1, .slice A0_2 l0_2.length c0_2, .slice A0_3 l0_3.length c0_3]) (t := 58) ?hr ?_; (case hd => rfl); (case hg => rfl); (case hr => first | (go_simp; done) | (go_simp; rfl)); intro gb101 hg w6 hbox hb; have n0_ := Aside0.mk (below_step (by repeat (first | (with_reducible first | exact HB.out | apply below_alloc | apply pw_below_drewN | apply below_drew1) | exact HB.out)) hb); have n1_ := Aside0.mk (hbox); have n2_ := Aside0.mk ((by rw [hg]; exact (below_size (by repeat (first | (with_reducible first | exact HB.out | apply below_alloc | apply pw_below_drewN | apply below_drew1) | exact HB.out))) : w.heap.size ≤ gb101)); have n3_ := Aside0.mk ((by rw [hg]; exact (below_size (by repeat (first | (with_reducible first | exact HB.out | apply below_alloc | apply pw_below_drewN | apply below_drew1) | exact HB.out))) : w.heap.size ≤ gb101)); clear HB; have HB := n0_; have BK101 := n1_; have GW101 := n2_; have GE101 := n3_; clear n0_ n1_ n2_ n3_; clear hb hbox hg; have hcz7_0 : w6.cell? ⟨gb101, 0, none⟩ = some (.string a0_0) := (blk_cell BK101.out 0).trans rfl; have hcz7_1 : w6.cell? ⟨gb101, 1, none⟩ = some (.int .u8 a0_1) := (blk_cell BK101.out 1).trans rfl; have hcz7_2 : w6.cell? ⟨gb101, 2, none⟩ = some (.slice A0_2 l0_2.length c0_2) := (blk_cell BK101.out 2).trans rfl; have hcz7_3 : w6.cell? ⟨gb101, 3, none⟩ = some (.slice A0_3 l0_3.length c0_3) := (blk_cell BK101.out 3).trans rfl; have hfz7_0 := blk_frozen BK101.out 0; have hfz7_1 := blk_frozen BK101.out 1; have hfz7_2 := blk_frozen BK101.out 2; have hfz7_3 := blk_frozen BK101.out 3))
      go_ret
      exact ⟨by first | rfl | (simp [errW_none, errW_some] <;> rfl) | (simp [*, errW_none, errW_some] <;> rfl), by repeat (first | (with_reducible first | exact HB.out | apply below_alloc | apply pw_below_drewN | apply below_drew1 | refine below_set ?_ GE101.out) | exact HB.out)⟩
  · rw [if_neg c2] at H
    have c2b0 : (a0_0.toList == ([] : List UInt8)) = false := beq_eq_false_iff_ne.mpr c2
    have c2b1 : (a0_0.toList != ([] : List UInt8)) = true := bne_iff_ne.mpr c2
    obtain rfl := Option.some.inj H
    go_enter Tryd.func46, Tryd.ntmps46
    go_wp2_with (first | ((with_reducible refine gate_dst (N := 1) rfl ?_); (try (refine gate_guard (by rfl) ?_; dsimp only)); refine box_event ?hg (N := 1) ?hd (cs := #[.string a0_0, .int .u8 a0_1, .slice A0_2 l0_2.length c0_2, .slice A0_3 l0_3.length c0_3]) (t := 58) ?hr ?_; (case hd => rfl); (case hg => rfl); (case hr => first | (go_simp; done) | (go_simp; rfl)); intro gb101 hg w8 hbox hb; have n0_ := Aside0.mk (below_step (by repeat (first | (with_reducible first | exact HB.out | apply below_alloc | apply pw_below_drewN | apply below_drew1) | exact HB.out)) hb); have n1_ := Aside0.mk (hbox); have n2_ := Aside0.mk ((by rw [hg]; exact (below_size (by repeat (first | (with_reducible first | exact HB.out | apply below_alloc | apply pw_below_drewN | apply below_drew1) | exact HB.out))) : w.heap.size ≤ gb101)); have n3_ := Aside0.mk ((by rw [hg]; exact (below_size (by repeat (first | (with_reducible first | exact HB.out | apply below_alloc | apply pw_below_drewN | apply below_drew1) | exact HB.out))) : w.heap.size ≤ gb101)); clear HB; have HB := n0_; have BK101 := n1_; have GW101 := n2_; have GE101 := n3_; clear n0_ n1_ n2_ n3_; clear hb hbox hg; have hcz9_0 : w8.cell? ⟨gb101, 0, none⟩ = some (.string a0_0) := (blk_cell BK101.out 0).trans rfl; have hcz9_1 : w8.cell? ⟨gb101, 1, none⟩ = some (.int .u8 a0_1) := (blk_cell BK101.out 1).trans rfl; have hcz9_2 : w8.cell? ⟨gb101, 2, none⟩ = some (.slice A0_2 l0_2.length c0_2) := (blk_cell BK101.out 2).trans rfl; have hcz9_3 : w8.cell? ⟨gb101, 3, none⟩ = some (.slice A0_3 l0_3.length c0_3) := (blk_cell BK101.out 3).trans rfl; have hfz9_0 := blk_frozen BK101.out 0; have hfz9_1 := blk_frozen BK101.out 1; have hfz9_2 := blk_frozen BK101.out 2; have hfz9_3 := blk_frozen BK101.out 3))
    go_ret
    exact ⟨by first | rfl | (simp [errW_none, errW_some] <;> rfl) | (simp [*, errW_none, errW_some] <;> rfl), by repeat (first | (with_reducible first | exact HB.out | apply below_alloc | apply pw_below_drewN | apply below_drew1 | refine below_set ?_ GE101.out) | exact HB.out)⟩
end Go.Proofs.YtbckpbiimknnnaaDoor.X
namespace Go.Proofs.YtbckpbiimknnnaaDoor.X
open Go.RowKit Go.Proofs.YtbckpbiimknnnaaDoorW.PrintWords Go.Proofs.YtbckpbiimknnnaaDoorW.PrintLast Go.Proofs.YtbckpbiimknnnaaDoorW.PrintMore
attribute [local go_sem] max2_int min2_int max_two min_two max_three min_three max_four min_four
set_option linter.unusedVariables false
set_option linter.unusedSimpArgs false
def flat_noWave.f (a0_0 : Int) (l0_1 : List (S42)) (l0_2 : List Int) : Option (Bool) := if a0_0 = 0 then (some ((wrap64 ((l0_1.length : Int) + (l0_2.length : Int))) == 0)) else (some false)
set_option maxHeartbeats 8000000 in
set_option maxRecDepth 100000 in
theorem flat_noWave.calls (a0_0 : Int) (A0_1 : Option Addr) (c0_1 : Nat) (l0_1 : List (S42)) (A0_2 : Option Addr) (c0_2 : Nat) (l0_2 : List Int) (r : Bool) (w : World) (hr0_1 : Kd.C k42 w A0_1 l0_1.length l0_1) (hc0_1 : l0_1.length ≤ c0_1) (hr0_2 : Kd.C (Kd.int .i64) w A0_2 l0_2.length l0_2) (hc0_2 : l0_2.length ≤ c0_2) (h : flat_noWave.f a0_0 l0_1 l0_2 = some r) :
    Calls Tryd.prog 47 #[.agg #[.int .i64 a0_0, .slice A0_1 l0_1.length c0_1, .slice A0_2 l0_2.length c0_2]] w fun e w' => e = .returned (.bool r) ∧ Below w.heap.size w w' := by
  have hu56 := Tryd.underlying56
  have HR0_1 := Aside0.mk hr0_1
  have HC0_1 := Aside0.mk hc0_1
  clear hr0_1 hc0_1
  have HR0_2 := Aside0.mk hr0_2
  have HC0_2 := Aside0.mk hc0_2
  clear hr0_2 hc0_2
  have HB := Aside0.mk (Below.refl w.heap.size w)
  have H : (if a0_0 = 0 then (some ((wrap64 ((l0_1.length : Int) + (l0_2.length : Int))) == 0)) else (some false)) = some r := h
  clear h
  by_cases c2 : a0_0 = 0
  · rw [if_pos c2] at H
    have c2b0 : (a0_0 == 0) = true := beq_iff_eq.mpr c2
    have c2b1 : (a0_0 != 0) = false := bne_eq_false_iff_eq.mpr c2
    clear c2
    obtain rfl := Option.some.inj H
    go_enter Tryd.func47, Tryd.ntmps47
    go_wp2_with (first | ((with_reducible refine gate_dst (N := 1) rfl ?_); (try (refine gate_guard (by rfl) ?_; dsimp only)); refine box_event ?hg (N := 1) ?hd (cs := #[.int .i64 a0_0, .slice A0_1 l0_1.length c0_1, .slice A0_2 l0_2.length c0_2]) (t := 56) ?hr ?_; (case hd => rfl); (case hg => rfl); (case hr => first | (go_simp; done) | (go_simp; rfl)); intro gb101 hg w3 hbox hb; have n0_ := Aside0.mk (below_step (by repeat (first | (with_reducible first | exact HB.out | apply below_alloc | apply pw_below_drewN | apply below_drew1) | exact HB.out)) hb); have n1_ := Aside0.mk (hbox); have n2_ := Aside0.mk ((by rw [hg]; exact (below_size (by repeat (first | (with_reducible first | exact HB.out | apply below_alloc | apply pw_below_drewN | apply below_drew1) | exact HB.out))) : w.heap.size ≤ gb101)); have n3_ := Aside0.mk ((by rw [hg]; exact (below_size (by repeat (first | (with_reducible first | exact HB.out | apply below_alloc | apply pw_below_drewN | apply below_drew1) | exact HB.out))) : w.heap.size ≤ gb101)); clear HB; have HB := n0_; have BK101 := n1_; have GW101 := n2_; have GE101 := n3_; clear n0_ n1_ n2_ n3_; clear hb hbox hg; have hcz4_0 : w3.cell? ⟨gb101, 0, none⟩ = some (.int .i64 a0_0) := (blk_cell BK101.out 0).trans rfl; have hcz4_1 : w3.cell? ⟨gb101, 1, none⟩ = some (.slice A0_1 l0_1.length c0_1) := (blk_cell BK101.out 1).trans rfl; have hcz4_2 : w3.cell? ⟨gb101, 2, none⟩ = some (.slice A0_2 l0_2.length c0_2) := (blk_cell BK101.out 2).trans rfl; have hfz4_0 := blk_frozen BK101.out 0; have hfz4_1 := blk_frozen BK101.out 1; have hfz4_2 := blk_frozen BK101.out 2))
    go_ret
    exact ⟨by first | rfl | (simp [errW_none, errW_some] <;> rfl) | (simp [*, errW_none, errW_some] <;> rfl), by repeat (first | (with_reducible first | exact HB.out | apply below_alloc | apply pw_below_drewN | apply below_drew1 | refine below_set ?_ GE101.out) | exact HB.out)⟩
  · rw [if_neg c2] at H
    have c2b0 : (a0_0 == 0) = false := beq_eq_false_iff_ne.mpr c2
    have c2b1 : (a0_0 != 0) = true := bne_iff_ne.mpr c2
    obtain rfl := Option.some.inj H
    go_enter Tryd.func47, Tryd.ntmps47
    go_wp2_with (first | ((with_reducible refine gate_dst (N := 1) rfl ?_); (try (refine gate_guard (by rfl) ?_; dsimp only)); refine box_event ?hg (N := 1) ?hd (cs := #[.int .i64 a0_0, .slice A0_1 l0_1.length c0_1, .slice A0_2 l0_2.length c0_2]) (t := 56) ?hr ?_; (case hd => rfl); (case hg => rfl); (case hr => first | (go_simp; done) | (go_simp; rfl)); intro gb101 hg w5 hbox hb; have n0_ := Aside0.mk (below_step (by repeat (first | (with_reducible first | exact HB.out | apply below_alloc | apply pw_below_drewN | apply below_drew1) | exact HB.out)) hb); have n1_ := Aside0.mk (hbox); have n2_ := Aside0.mk ((by rw [hg]; exact (below_size (by repeat (first | (with_reducible first | exact HB.out | apply below_alloc | apply pw_below_drewN | apply below_drew1) | exact HB.out))) : w.heap.size ≤ gb101)); have n3_ := Aside0.mk ((by rw [hg]; exact (below_size (by repeat (first | (with_reducible first | exact HB.out | apply below_alloc | apply pw_below_drewN | apply below_drew1) | exact HB.out))) : w.heap.size ≤ gb101)); clear HB; have HB := n0_; have BK101 := n1_; have GW101 := n2_; have GE101 := n3_; clear n0_ n1_ n2_ n3_; clear hb hbox hg; have hcz6_0 : w5.cell? ⟨gb101, 0, none⟩ = some (.int .i64 a0_0) := (blk_cell BK101.out 0).trans rfl; have hcz6_1 : w5.cell? ⟨gb101, 1, none⟩ = some (.slice A0_1 l0_1.length c0_1) := (blk_cell BK101.out 1).trans rfl; have hcz6_2 : w5.cell? ⟨gb101, 2, none⟩ = some (.slice A0_2 l0_2.length c0_2) := (blk_cell BK101.out 2).trans rfl; have hfz6_0 := blk_frozen BK101.out 0; have hfz6_1 := blk_frozen BK101.out 1; have hfz6_2 := blk_frozen BK101.out 2))
    go_ret
    exact ⟨by first | rfl | (simp [errW_none, errW_some] <;> rfl) | (simp [*, errW_none, errW_some] <;> rfl), by repeat (first | (with_reducible first | exact HB.out | apply below_alloc | apply pw_below_drewN | apply below_drew1 | refine below_set ?_ GE101.out) | exact HB.out)⟩
end Go.Proofs.YtbckpbiimknnnaaDoor.X
namespace Go.Proofs.YtbckpbiimknnnaaDoor.X
open Go.RowKit Go.Proofs.YtbckpbiimknnnaaDoorW.PrintWords Go.Proofs.YtbckpbiimknnnaaDoorW.PrintLast Go.Proofs.YtbckpbiimknnnaaDoorW.PrintMore
attribute [local go_sem] max2_int min2_int max_two min_two max_three min_three max_four min_four
set_option linter.unusedVariables false
set_option linter.unusedSimpArgs false
def num_Valid.f (a0_0 : Int) (a0_1 : Int) : Option (Bool) := if a0_0 = 0 then (some (a0_1 == 0)) else (if a0_0 ≥ (-999999999) then (if a0_0 ≤ 999999999 then (if (Int.tmod a0_0 10) = 0 then (some false) else (if a0_1 ≥ (-18) then (some (decide (a0_1 ≤ 9))) else (some false))) else (some false)) else (some false))
set_option maxHeartbeats 8000000 in
set_option maxRecDepth 100000 in
theorem num_Valid.calls (a0_0 : Int) (a0_1 : Int) (r : Bool) (w : World) (h : num_Valid.f a0_0 a0_1 = some r) :
    Calls Tryd.prog 33 #[.agg #[.int .i64 a0_0, .int .i64 a0_1]] w fun e w' => e = .returned (.bool r) ∧ Below w.heap.size w w' := by
  have hu42 := Tryd.underlying42
  have HB := Aside0.mk (Below.refl w.heap.size w)
  have H : (if a0_0 = 0 then (some (a0_1 == 0)) else (if a0_0 ≥ (-999999999) then (if a0_0 ≤ 999999999 then (if (Int.tmod a0_0 10) = 0 then (some false) else (if a0_1 ≥ (-18) then (some (decide (a0_1 ≤ 9))) else (some false))) else (some false)) else (some false))) = some r := h
  clear h
  by_cases c2 : a0_0 = 0
  · rw [if_pos c2] at H
    have c2b0 : (a0_0 == 0) = true := beq_iff_eq.mpr c2
    have c2b1 : (a0_0 != 0) = false := bne_eq_false_iff_eq.mpr c2
    clear c2
    obtain rfl := Option.some.inj H
    go_enter Tryd.func33, Tryd.ntmps33
    go_wp2_with (first | ((with_reducible refine gate_dst (N := 1) rfl ?_); refine box_event ?hg (N := 1) ?hd (cs := #[.int .i64 a0_0, .int .i64 a0_1]) (t := 42) ?hr ?_; (case hd => rfl); (case hg => rfl); (case hr => first | (go_simp; done) | (go_simp; rfl)); intro gb101 hg w3 hbox hb; have n0_ := Aside0.mk (below_step (by repeat (first | (with_reducible first | exact HB.out | apply below_alloc | apply pw_below_drewN | apply below_drew1) | exact HB.out)) hb); have n1_ := Aside0.mk (hbox); have n2_ := Aside0.mk ((by rw [hg]; exact (below_size (by repeat (first | (with_reducible first | exact HB.out | apply below_alloc | apply pw_below_drewN | apply below_drew1) | exact HB.out))) : w.heap.size ≤ gb101)); have n3_ := Aside0.mk ((by rw [hg]; exact (below_size (by repeat (first | (with_reducible first | exact HB.out | apply below_alloc | apply pw_below_drewN | apply below_drew1) | exact HB.out))) : w.heap.size ≤ gb101)); clear HB; have HB := n0_; have BK101 := n1_; have GW101 := n2_; have GE101 := n3_; clear n0_ n1_ n2_ n3_; clear hb hbox hg; have hcz4_0 : w3.cell? ⟨gb101, 0, none⟩ = some (.int .i64 a0_0) := (blk_cell BK101.out 0).trans rfl; have hcz4_1 : w3.cell? ⟨gb101, 1, none⟩ = some (.int .i64 a0_1) := (blk_cell BK101.out 1).trans rfl; have hfz4_0 := blk_frozen BK101.out 0; have hfz4_1 := blk_frozen BK101.out 1))
    go_ret
    exact ⟨by first | rfl | (simp [errW_none, errW_some] <;> rfl) | (simp [*, errW_none, errW_some] <;> rfl), by repeat (first | (with_reducible first | exact HB.out | apply below_alloc | apply pw_below_drewN | apply below_drew1 | refine below_set ?_ GE101.out) | exact HB.out)⟩
  · rw [if_neg c2] at H
    have c2b0 : (a0_0 == 0) = false := beq_eq_false_iff_ne.mpr c2
    have c2b1 : (a0_0 != 0) = true := bne_iff_ne.mpr c2
    by_cases c5 : a0_0 ≥ (-999999999)
    · rw [if_pos c5] at H
      have c5b0 : decide ((-999999999) ≤ a0_0) = true := decide_eq_true c5
      clear c5
      by_cases c6 : a0_0 ≤ 999999999
      · rw [if_pos c6] at H
        have c6b0 : decide (a0_0 ≤ 999999999) = true := decide_eq_true c6
        clear c6
        by_cases c7 : (Int.tmod a0_0 10) = 0
        · rw [if_pos c7] at H
          have c7b0 : ((Int.tmod a0_0 10) == 0) = true := beq_iff_eq.mpr c7
          have c7b1 : ((Int.tmod a0_0 10) != 0) = false := bne_eq_false_iff_eq.mpr c7
          clear c7
          obtain rfl := Option.some.inj H
          go_enter Tryd.func33, Tryd.ntmps33
          go_wp2_with (first | ((with_reducible refine gate_dst (N := 1) rfl ?_); refine box_event ?hg (N := 1) ?hd (cs := #[.int .i64 a0_0, .int .i64 a0_1]) (t := 42) ?hr ?_; (case hd => rfl); (case hg => rfl); (case hr => first | (go_simp; done) | (go_simp; rfl)); intro gb101 hg w8 hbox hb; have n0_ := Aside0.mk (below_step (by repeat (first | (with_reducible first | exact HB.out | apply below_alloc | apply pw_below_drewN | apply below_drew1) | exact HB.out)) hb); have n1_ := Aside0.mk (hbox); have n2_ := Aside0.mk ((by rw [hg]; exact (below_size (by repeat (first | (with_reducible first | exact HB.out | apply below_alloc | apply pw_below_drewN | apply below_drew1) | exact HB.out))) : w.heap.size ≤ gb101)); have n3_ := Aside0.mk ((by rw [hg]; exact (below_size (by repeat (first | (with_reducible first | exact HB.out | apply below_alloc | apply pw_below_drewN | apply below_drew1) | exact HB.out))) : w.heap.size ≤ gb101)); clear HB; have HB := n0_; have BK101 := n1_; have GW101 := n2_; have GE101 := n3_; clear n0_ n1_ n2_ n3_; clear hb hbox hg; have hcz9_0 : w8.cell? ⟨gb101, 0, none⟩ = some (.int .i64 a0_0) := (blk_cell BK101.out 0).trans rfl; have hcz9_1 : w8.cell? ⟨gb101, 1, none⟩ = some (.int .i64 a0_1) := (blk_cell BK101.out 1).trans rfl; have hfz9_0 := blk_frozen BK101.out 0; have hfz9_1 := blk_frozen BK101.out 1))
          go_ret
          exact ⟨by first | rfl | (simp [errW_none, errW_some] <;> rfl) | (simp [*, errW_none, errW_some] <;> rfl), by repeat (first | (with_reducible first | exact HB.out | apply below_alloc | apply pw_below_drewN | apply below_drew1 | refine below_set ?_ GE101.out) | exact HB.out)⟩
        · rw [if_neg c7] at H
          have c7b0 : ((Int.tmod a0_0 10) == 0) = false := beq_eq_false_iff_ne.mpr c7
          have c7b1 : ((Int.tmod a0_0 10) != 0) = true := bne_iff_ne.mpr c7
          by_cases c10 : a0_1 ≥ (-18)
          · rw [if_pos c10] at H
            have c10b0 : decide ((-18) ≤ a0_1) = true := decide_eq_true c10
            clear c10
            obtain rfl := Option.some.inj H
            go_enter Tryd.func33, Tryd.ntmps33
            go_wp2_with (first | ((with_reducible refine gate_dst (N := 1) rfl ?_); refine box_event ?hg (N := 1) ?hd (cs := #[.int .i64 a0_0, .int .i64 a0_1]) (t := 42) ?hr ?_; (case hd => rfl); (case hg => rfl); (case hr => first | (go_simp; done) | (go_simp; rfl)); intro gb101 hg w11 hbox hb; have n0_ := Aside0.mk (below_step (by repeat (first | (with_reducible first | exact HB.out | apply below_alloc | apply pw_below_drewN | apply below_drew1) | exact HB.out)) hb); have n1_ := Aside0.mk (hbox); have n2_ := Aside0.mk ((by rw [hg]; exact (below_size (by repeat (first | (with_reducible first | exact HB.out | apply below_alloc | apply pw_below_drewN | apply below_drew1) | exact HB.out))) : w.heap.size ≤ gb101)); have n3_ := Aside0.mk ((by rw [hg]; exact (below_size (by repeat (first | (with_reducible first | exact HB.out | apply below_alloc | apply pw_below_drewN | apply below_drew1) | exact HB.out))) : w.heap.size ≤ gb101)); clear HB; have HB := n0_; have BK101 := n1_; have GW101 := n2_; have GE101 := n3_; clear n0_ n1_ n2_ n3_; clear hb hbox hg; have hcz12_0 : w11.cell? ⟨gb101, 0, none⟩ = some (.int .i64 a0_0) := (blk_cell BK101.out 0).trans rfl; have hcz12_1 : w11.cell? ⟨gb101, 1, none⟩ = some (.int .i64 a0_1) := (blk_cell BK101.out 1).trans rfl; have hfz12_0 := blk_frozen BK101.out 0; have hfz12_1 := blk_frozen BK101.out 1))
            go_ret
            exact ⟨by first | rfl | (simp [errW_none, errW_some] <;> rfl) | (simp [*, errW_none, errW_some] <;> rfl), by repeat (first | (with_reducible first | exact HB.out | apply below_alloc | apply pw_below_drewN | apply below_drew1 | refine below_set ?_ GE101.out) | exact HB.out)⟩
          · rw [if_neg c10] at H
            have c10b0 : decide ((-18) ≤ a0_1) = false := decide_eq_false c10
            clear c10
            obtain rfl := Option.some.inj H
            go_enter Tryd.func33, Tryd.ntmps33
            go_wp2_with (first | ((with_reducible refine gate_dst (N := 1) rfl ?_); refine box_event ?hg (N := 1) ?hd (cs := #[.int .i64 a0_0, .int .i64 a0_1]) (t := 42) ?hr ?_; (case hd => rfl); (case hg => rfl); (case hr => first | (go_simp; done) | (go_simp; rfl)); intro gb101 hg w13 hbox hb; have n0_ := Aside0.mk (below_step (by repeat (first | (with_reducible first | exact HB.out | apply below_alloc | apply pw_below_drewN | apply below_drew1) | exact HB.out)) hb); have n1_ := Aside0.mk (hbox); have n2_ := Aside0.mk ((by rw [hg]; exact (below_size (by repeat (first | (with_reducible first | exact HB.out | apply below_alloc | apply pw_below_drewN | apply below_drew1) | exact HB.out))) : w.heap.size ≤ gb101)); have n3_ := Aside0.mk ((by rw [hg]; exact (below_size (by repeat (first | (with_reducible first | exact HB.out | apply below_alloc | apply pw_below_drewN | apply below_drew1) | exact HB.out))) : w.heap.size ≤ gb101)); clear HB; have HB := n0_; have BK101 := n1_; have GW101 := n2_; have GE101 := n3_; clear n0_ n1_ n2_ n3_; clear hb hbox hg; have hcz14_0 : w13.cell? ⟨gb101, 0, none⟩ = some (.int .i64 a0_0) := (blk_cell BK101.out 0).trans rfl; have hcz14_1 : w13.cell? ⟨gb101, 1, none⟩ = some (.int .i64 a0_1) := (blk_cell BK101.out 1).trans rfl; have hfz14_0 := blk_frozen BK101.out 0; have hfz14_1 := blk_frozen BK101.out 1))
            go_ret
            exact ⟨by first | rfl | (simp [errW_none, errW_some] <;> rfl) | (simp [*, errW_none, errW_some] <;> rfl), by repeat (first | (with_reducible first | exact HB.out | apply below_alloc | apply pw_below_drewN | apply below_drew1 | refine below_set ?_ GE101.out) | exact HB.out)⟩
      · rw [if_neg c6] at H
        have c6b0 : decide (a0_0 ≤ 999999999) = false := decide_eq_false c6
        clear c6
        obtain rfl := Option.some.inj H
        go_enter Tryd.func33, Tryd.ntmps33
        go_wp2_with (first | ((with_reducible refine gate_dst (N := 1) rfl ?_); refine box_event ?hg (N := 1) ?hd (cs := #[.int .i64 a0_0, .int .i64 a0_1]) (t := 42) ?hr ?_; (case hd => rfl); (case hg => rfl); (case hr => first | (go_simp; done) | (go_simp; rfl)); intro gb101 hg w15 hbox hb; have n0_ := Aside0.mk (below_step (by repeat (first | (with_reducible first | exact HB.out | apply below_alloc | apply pw_below_drewN | apply below_drew1) | exact HB.out)) hb); have n1_ := Aside0.mk (hbox); have n2_ := Aside0.mk ((by rw [hg]; exact (below_size (by repeat (first | (with_reducible first | exact HB.out | apply below_alloc | apply pw_below_drewN | apply below_drew1) | exact HB.out))) : w.heap.size ≤ gb101)); have n3_ := Aside0.mk ((by rw [hg]; exact (below_size (by repeat (first | (with_reducible first | exact HB.out | apply below_alloc | apply pw_below_drewN | apply below_drew1) | exact HB.out))) : w.heap.size ≤ gb101)); clear HB; have HB := n0_; have BK101 := n1_; have GW101 := n2_; have GE101 := n3_; clear n0_ n1_ n2_ n3_; clear hb hbox hg; have hcz16_0 : w15.cell? ⟨gb101, 0, none⟩ = some (.int .i64 a0_0) := (blk_cell BK101.out 0).trans rfl; have hcz16_1 : w15.cell? ⟨gb101, 1, none⟩ = some (.int .i64 a0_1) := (blk_cell BK101.out 1).trans rfl; have hfz16_0 := blk_frozen BK101.out 0; have hfz16_1 := blk_frozen BK101.out 1))
        go_ret
        exact ⟨by first | rfl | (simp [errW_none, errW_some] <;> rfl) | (simp [*, errW_none, errW_some] <;> rfl), by repeat (first | (with_reducible first | exact HB.out | apply below_alloc | apply pw_below_drewN | apply below_drew1 | refine below_set ?_ GE101.out) | exact HB.out)⟩
    · rw [if_neg c5] at H
      have c5b0 : decide ((-999999999) ≤ a0_0) = false := decide_eq_false c5
      clear c5
      obtain rfl := Option.some.inj H
      go_enter Tryd.func33, Tryd.ntmps33
      go_wp2_with (first | ((with_reducible refine gate_dst (N := 1) rfl ?_); refine box_event ?hg (N := 1) ?hd (cs := #[.int .i64 a0_0, .int .i64 a0_1]) (t := 42) ?hr ?_; (case hd => rfl); (case hg => rfl); (case hr => first | (go_simp; done) | (go_simp; rfl)); intro gb101 hg w17 hbox hb; have n0_ := Aside0.mk (below_step (by repeat (first | (with_reducible first | exact HB.out | apply below_alloc | apply pw_below_drewN | apply below_drew1) | exact HB.out)) hb); have n1_ := Aside0.mk (hbox); have n2_ := Aside0.mk ((by rw [hg]; exact (below_size (by repeat (first | (with_reducible first | exact HB.out | apply below_alloc | apply pw_below_drewN | apply below_drew1) | exact HB.out))) : w.heap.size ≤ gb101)); have n3_ := Aside0.mk ((by rw [hg]; exact (below_size (by repeat (first | (with_reducible first | exact HB.out | apply below_alloc | apply pw_below_drewN | apply below_drew1) | exact HB.out))) : w.heap.size ≤ gb101)); clear HB; have HB := n0_; have BK101 := n1_; have GW101 := n2_; have GE101 := n3_; clear n0_ n1_ n2_ n3_; clear hb hbox hg; have hcz18_0 : w17.cell? ⟨gb101, 0, none⟩ = some (.int .i64 a0_0) := (blk_cell BK101.out 0).trans rfl; have hcz18_1 : w17.cell? ⟨gb101, 1, none⟩ = some (.int .i64 a0_1) := (blk_cell BK101.out 1).trans rfl; have hfz18_0 := blk_frozen BK101.out 0; have hfz18_1 := blk_frozen BK101.out 1))
      go_ret
      exact ⟨by first | rfl | (simp [errW_none, errW_some] <;> rfl) | (simp [*, errW_none, errW_some] <;> rfl), by repeat (first | (with_reducible first | exact HB.out | apply below_alloc | apply pw_below_drewN | apply below_drew1 | refine below_set ?_ GE101.out) | exact HB.out)⟩
end Go.Proofs.YtbckpbiimknnnaaDoor.X
namespace Go.Proofs.YtbckpbiimknnnaaDoor.X
open Go.RowKit Go.Proofs.YtbckpbiimknnnaaDoorW.PrintWords Go.Proofs.YtbckpbiimknnnaaDoorW.PrintLast Go.Proofs.YtbckpbiimknnnaaDoorW.PrintMore
attribute [local go_sem] max2_int min2_int max_two min_two max_three min_three max_four min_four
set_option linter.unusedVariables false
set_option linter.unusedSimpArgs false
section
variable {P : Program} {ops : Array Oper} {rest : List Oper} {o : Oper} {a : Act} {Q : Exit → Act → World → Prop} {W : World}
def mapLit (q1 q2 : IntKind) : List (Int × Int) → DataW Unit
  | [] => .map []
  | (k, v) :: r => (mapLit q1 q2 r).put (.int q1 k) (.lit (.int q2 v))
def mapLook : List (Int × Int) → Int → Int
  | [], _ => 0
  | (k, v) :: r, x => if x = k then v else mapLook r x
theorem mapLit_isMap (q1 q2 : IntKind) : ∀ E, Go.Maps.IsMap (mapLit q1 q2 E)
  | [] => Go.Maps.isMap_empty
  | (_, _) :: r => (mapLit_isMap q1 q2 r).put _ _
theorem mapLit_at (q1 q2 : IntKind) (x : Int) : ∀ E, (mapLit q1 q2 E).atKey (.int q1 x) (.lit (.int q2 0)) = .lit (.int q2 (mapLook E x))
  | [] => rfl
  | (k, v) :: r => by
    unfold mapLit mapLook
    by_cases h : x = k
    · subst h
      rw [if_pos rfl, Go.Maps.atKey_put_same (mapLit_isMap q1 q2 r) (by simp [WideAt.IsKeyLit])]
    · rw [if_neg h, Go.Maps.atKey_put_other (fun e => h (by injection e)), mapLit_at q1 q2 x r]
theorem map_made_event (hgd : o.guard = none) {N : Tmp} (_hd : o.dst = some N) (t k e : TypeId) (ho : o.op = .makeMap t none)
    (h : ∀ b w1, w1.ownsMap P k (plainElem (H := Unit) P e) b 0 (.map []) → W.heap.size ≤ b → Below W.heap.size W w1 → wpList P ops Q rest (a.put o.dst (.map (some b))) w1) : wpList P ops Q (o :: rest) a W := by
  refine wpList_plain hgd fun K' hK' => ?_
  unfold Oper.wp
  simp [execOp, ho, run_makeMap, Result.andThen]
  exact hK' _ _ (h _ _ (World.ownsMap_made W P k _) (Nat.le_refl _) (below_alloc (Below.refl _ _) _))
theorem map_insert_event (hgd : o.guard = none) (t k e : TypeId) (m x v : Operand) (ho : o.op = .insert t m x v) (q1 q2 : IntKind)
    (hk : P.underlying k = some (.int q1)) (ht : P.underlying t = some (.map k e)) (he : P.underlying e = some (.int q2)) (b n : Nat) (E : List (Int × Int)) (kk vv : Int)
    (hm : a.eval m = .map (some b)) (hx : a.eval x = .int q1 kk) (hv : a.eval v = .int q2 vv) (hwk : (Lit.int q1 kk).wf = true) (hwv : (Lit.int q2 vv).wf = true) (hn : n < 100)
    (hown : W.ownsMap P k (plainElem (H := Unit) P e) b n (mapLit q1 q2 E)) {w0 : World} {B : Nat} (hb : B ≤ b) (hB : Below B w0 W) (hBs : B ≤ W.heap.size)
    (h : ∀ w1, w1.ownsMap P k (plainElem (H := Unit) P e) b (n + 1) (mapLit q1 q2 ((kk, vv) :: E)) → Below B w0 w1 → B ≤ w1.heap.size → wpList P ops Q rest (a.put o.dst undef) w1) : wpList P ops Q (o :: rest) a W := by
  refine wpList_plain hgd fun K' hK' => ?_
  obtain ⟨w', hrun, r1, r2⟩ := hown.update (Go.Maps.int_keyed hk) ht (by simp only [maxLen]; omega) (Go.Maps.keyOf_int_mk hk hwk) (plainElem_int he hwv)
  unfold Oper.wp
  simp [execOp, ho, hm, hx, hv, hrun, Result.andThen]
  exact hK' _ _ (h w' r1 (hB.grown r2 hBs (fun j hj => by cases hj; exact hb)) (Nat.le_trans hBs r2.size))
theorem map_look (t k e : TypeId) (q1 q2 : IntKind) (hk : P.underlying k = some (.int q1)) (ht : P.underlying t = some (.map k e)) (he : P.underlying e = some (.int q2)) (hz : (zeroValue e).run P W = .ok (.int q2 0) W)
    (b n : Nat) (E : List (Int × Int)) (hown : W.ownsMap P k (plainElem (H := Unit) P e) b n (mapLit q1 q2 E)) (lo hi : Int) (hl : lo = q1.min) (hh : hi = q1.max) :
    ∀ x, decide (lo ≤ x) = true → decide (x ≤ hi) = true → (Instr.lookup t (.map (some b)) (.int q1 x) false).run P W = .ok (.int q2 (mapLook E x)) W := by
  intro x h1 h2
  have hw : (Lit.int q1 x).wf = true := by
    subst hl hh
    simp only [Lit.wf, h1, h2, Bool.and_self]
  obtain ⟨c, hrun, hat, _⟩ := hown.lookup_int (Go.Maps.int_keyed hk) ht he hz (Go.Maps.keyOf_int_mk hk hw)
  rw [mapLit_at] at hat
  injection hat with hat
  injection hat with _ hat
  rw [hrun, hat]
end
end Go.Proofs.YtbckpbiimknnnaaDoor.X
namespace Go.Proofs.YtbckpbiimknnnaaDoor.X
open Go.RowKit Go.Proofs.YtbckpbiimknnnaaDoorW.PrintWords Go.Proofs.YtbckpbiimknnnaaDoorW.PrintLast Go.Proofs.YtbckpbiimknnnaaDoorW.PrintMore
attribute [local go_sem] max2_int min2_int max_two min_two max_three min_three max_four min_four
set_option linter.unusedVariables false
set_option linter.unusedSimpArgs false
def flat_right.f (l0_0 : List ByteArray) (l0_1 : List (S60)) (a0_2 : Int) (a0_3 : Int) (a0_4 : Int) (a1_0 : Int) (a1_1 : ByteArray) (l1_2 : List Int) (a1_3 : Int) (a1_4 : Int) (a1_5 : Int) (a1_6 : Int) (l1_7 : List (S42)) (l1_8 : List Int) (a1_9 : ByteArray) (a1_10 : Int) (l1_11 : List (S42)) (l1_12 : List (S42)) : Option (Bool) := (if a1_0 = 114 ∧ l1_2 = [1, 2] ∧ l0_0.length = 3 ∧ flat_long.f a1_1 = some true ∧ a1_3 = 0 ∧ a1_4 = 1 ∧ a1_5 = 0 ∧ a1_6 = 0 ∧ l1_7.length = 0 ∧ l1_8.length = 0 ∧ a1_9 = ⟨#[]⟩ ∧ a1_10 = 0 ∧ l1_11.length = 0 ∧ l1_12.length = 0 then some true else none)
set_option maxHeartbeats 8000000 in
set_option maxRecDepth 1000000 in
theorem flat_right.calls (A0_0 : Option Addr) (c0_0 : Nat) (l0_0 : List ByteArray) (A0_1 : Option Addr) (c0_1 : Nat) (l0_1 : List (S60)) (a0_2 : Int) (a0_3 : Int) (a0_4 : Int) (a1_0 : Int) (a1_1 : ByteArray) (A1_2 : Option Addr) (c1_2 : Nat) (l1_2 : List Int) (a1_3 : Int) (a1_4 : Int) (a1_5 : Int) (a1_6 : Int) (A1_7 : Option Addr) (c1_7 : Nat) (l1_7 : List (S42)) (A1_8 : Option Addr) (c1_8 : Nat) (l1_8 : List Int) (a1_9 : ByteArray) (a1_10 : Int) (A1_11 : Option Addr) (c1_11 : Nat) (l1_11 : List (S42)) (A1_12 : Option Addr) (c1_12 : Nat) (l1_12 : List (S42)) (r : Bool) (w : World) (hr0_0 : Kd.C Kd.string w A0_0 l0_0.length l0_0) (hc0_0 : l0_0.length ≤ c0_0) (hr0_1 : Kd.C k60 w A0_1 l0_1.length l0_1) (hc0_1 : l0_1.length ≤ c0_1) (hr1_2 : Kd.C (Kd.int .i64) w A1_2 l1_2.length l1_2) (hc1_2 : l1_2.length ≤ c1_2) (hr1_7 : Kd.C k42 w A1_7 l1_7.length l1_7) (hc1_7 : l1_7.length ≤ c1_7) (hr1_8 : Kd.C (Kd.int .i64) w A1_8 l1_8.length l1_8) (hc1_8 : l1_8.length ≤ c1_8) (hr1_11 : Kd.C k42 w A1_11 l1_11.length l1_11) (hc1_11 : l1_11.length ≤ c1_11) (hr1_12 : Kd.C k42 w A1_12 l1_12.length l1_12) (hc1_12 : l1_12.length ≤ c1_12) (h : flat_right.f l0_0 l0_1 a0_2 a0_3 a0_4 a1_0 a1_1 l1_2 a1_3 a1_4 a1_5 a1_6 l1_7 l1_8 a1_9 a1_10 l1_11 l1_12 = some r) :
    Calls Tryd.prog 36 #[.agg #[.slice A0_0 l0_0.length c0_0, .slice A0_1 l0_1.length c0_1, .int .i64 a0_2, .int .i64 a0_3, .int .i64 a0_4], .agg #[.int .u8 a1_0, .string a1_1, .slice A1_2 l1_2.length c1_2, .int .i64 a1_3, .int .i64 a1_4, .int .i64 a1_5, .int .i64 a1_6, .slice A1_7 l1_7.length c1_7, .slice A1_8 l1_8.length c1_8, .string a1_9, .int .u8 a1_10, .slice A1_11 l1_11.length c1_11, .slice A1_12 l1_12.length c1_12]] w fun e w' => e = .returned (.bool r) ∧ Below w.heap.size w w' := by
  unfold flat_right.f at h
  split at h
  case isFalse => cases h
  rename_i hall
  obtain rfl := Option.some.inj h
  clear h
  obtain ⟨rfl, rfl, hl, hlong, rfl, rfl, rfl, rfl, h7, h8, rfl, rfl, h11, h12⟩ := hall
  have C1 := Aside0.mk (fun W => flat_long.calls a1_1 _ W hlong)
  have C2 := Aside0.mk (fun W => num_Valid.calls 1 0 true W (by decide))
  have C3 := Aside0.mk (fun W (hW : Below w.heap.size w W) => flat_noWave.calls 0 A1_7 c1_7 l1_7 A1_8 c1_8 l1_8 true W (Kd.C_below hr1_7 hW) hc1_7 (Kd.C_below hr1_8 hW) hc1_8 (by simp [flat_noWave.f, h7, h8, wrap64]))
  have C4 := Aside0.mk (fun W (hW : Below w.heap.size w W) => flat_noModel.calls ⟨#[]⟩ 0 A1_11 c1_11 l1_11 A1_12 c1_12 l1_12 true W (Kd.C_below hr1_11 hW) hc1_11 (Kd.C_below hr1_12 hW) hc1_12 (by simp [flat_noModel.f, h11, h12, wrap64]))
  have R2 := Aside0.mk (fun W (hW : Below w.heap.size w W) => Kd.C_below hr1_2 hW)
  have hn3 : (l0_0.length : Int) ≤ 3 := by omega
  have hn3' : (3 : Int) ≤ (l0_0.length : Int) := by omega
  clear hlong h7 h8 h11 h12 hr0_0 hr0_1 hr1_2 hr1_7 hr1_8 hr1_11 hr1_12 hl
  obtain ⟨W0, hW0⟩ : ∃ W0, W0 = (w.alloc (.cells #[.slice A0_0 l0_0.length c0_0, .slice A0_1 l0_1.length c0_1, .int .i64 a0_2, .int .i64 a0_3, .int .i64 a0_4] 44)).alloc (.cells #[.int .u8 114, .string a1_1, .slice A1_2 2 c1_2, .int .i64 0, .int .i64 1, .int .i64 0, .int .i64 0, .slice A1_7 l1_7.length c1_7, .slice A1_8 l1_8.length c1_8, .string ⟨#[]⟩, .int .u8 0, .slice A1_11 l1_11.length c1_11, .slice A1_12 l1_12.length c1_12] 60) := ⟨_, rfl⟩
  have CE : ∀ W, Below (w.heap.size + 2) W0 W → W.cell? ⟨w.heap.size, 0, none⟩ = some (.slice A0_0 l0_0.length c0_0) ∧ W.cell? ⟨w.heap.size + 1, 0, none⟩ = some (.int .u8 114) ∧ W.cell? ⟨w.heap.size + 1, 1, none⟩ = some (.string a1_1) ∧ W.cell? ⟨w.heap.size + 1, 2, none⟩ = some (.slice A1_2 2 c1_2) ∧ W.cell? ⟨w.heap.size + 1, 3, none⟩ = some (.int .i64 0) ∧ W.cell? ⟨w.heap.size + 1, 4, none⟩ = some (.int .i64 1) ∧ W.cell? ⟨w.heap.size + 1, 5, none⟩ = some (.int .i64 0) ∧ W.cell? ⟨w.heap.size + 1, 6, none⟩ = some (.int .i64 0) ∧ W.cell? ⟨w.heap.size + 1, 7, none⟩ = some (.slice A1_7 l1_7.length c1_7) ∧ W.cell? ⟨w.heap.size + 1, 8, none⟩ = some (.slice A1_8 l1_8.length c1_8) ∧ W.cell? ⟨w.heap.size + 1, 9, none⟩ = some (.string ⟨#[]⟩) ∧ W.cell? ⟨w.heap.size + 1, 10, none⟩ = some (.int .u8 0) ∧ W.cell? ⟨w.heap.size + 1, 11, none⟩ = some (.slice A1_11 l1_11.length c1_11) ∧ W.cell? ⟨w.heap.size + 1, 12, none⟩ = some (.slice A1_12 l1_12.length c1_12) ∧ W.cell? ⟨w.heap.size, 1, none⟩ = some (.slice A0_1 l0_1.length c0_1) := by
    intro W hW
    have b1 : W.heap[w.heap.size]? = some (.cells #[.slice A0_0 l0_0.length c0_0, .slice A0_1 l0_1.length c0_1, .int .i64 a0_2, .int .i64 a0_3, .int .i64 a0_4] 44 (0, 0)) := by
      rw [hW.block _ (by omega), hW0, Below.heap_alloc _ _ _ (by simp), heap_alloc_new]
    have b2 : W.heap[w.heap.size + 1]? = some (.cells #[.int .u8 114, .string a1_1, .slice A1_2 2 c1_2, .int .i64 0, .int .i64 1, .int .i64 0, .int .i64 0, .slice A1_7 l1_7.length c1_7, .slice A1_8 l1_8.length c1_8, .string ⟨#[]⟩, .int .u8 0, .slice A1_11 l1_11.length c1_11, .slice A1_12 l1_12.length c1_12] 60 (0, 0)) := by
      rw [hW.block _ (by omega), hW0]
      have := heap_alloc_new (w.alloc (.cells #[.slice A0_0 l0_0.length c0_0, .slice A0_1 l0_1.length c0_1, .int .i64 a0_2, .int .i64 a0_3, .int .i64 a0_4] 44)) (.cells #[.int .u8 114, .string a1_1, .slice A1_2 2 c1_2, .int .i64 0, .int .i64 1, .int .i64 0, .int .i64 0, .slice A1_7 l1_7.length c1_7, .slice A1_8 l1_8.length c1_8, .string ⟨#[]⟩, .int .u8 0, .slice A1_11 l1_11.length c1_11, .slice A1_12 l1_12.length c1_12] 60)
      simpa using this
    refine ⟨(blk_cell b1 0).trans rfl, (blk_cell b2 0).trans rfl, (blk_cell b2 1).trans rfl, (blk_cell b2 2).trans rfl, (blk_cell b2 3).trans rfl, (blk_cell b2 4).trans rfl, (blk_cell b2 5).trans rfl, (blk_cell b2 6).trans rfl, (blk_cell b2 7).trans rfl, (blk_cell b2 8).trans rfl, (blk_cell b2 9).trans rfl, (blk_cell b2 10).trans rfl, (blk_cell b2 11).trans rfl, (blk_cell b2 12).trans rfl, (blk_cell b1 1).trans rfl⟩
  have hs0 : W0.heap.size = w.heap.size + 2 := by rw [hW0]; simp
  have hb0 : Below w.heap.size w W0 := by rw [hW0]; exact below_alloc (below_alloc (Below.refl _ _) _) _
  have BC : ∀ W W', Below (w.heap.size + 2) W0 W → Below W.heap.size W W' → Below (w.heap.size + 2) W0 W' := fun W W' h1 h2 => h1.trans (h2.mono (by have := h1.size; omega))
  have BW : ∀ W, Below (w.heap.size + 2) W0 W → Below w.heap.size w W := fun W h => hb0.trans (h.mono (by omega))
  have HCE := Aside0.mk CE
  have HBC := Aside0.mk BC
  have HBW := Aside0.mk BW
  have HS0 := Aside0.mk (And.intro hW0 hs0)
  clear CE BC BW hs0 hb0 hW0
  go_enter Tryd.func36, Tryd.ntmps36
  go_wp2_with (first
    | ((with_reducible refine gate_dst (N := 9) rfl ?_); go_must (refine map_made_event rfl (N := 9) rfl 80 5 3 rfl ?_; intro mb wm0 hm0 hmb hB0; have hS0 := hB0.size; refine map_insert_event rfl 80 5 3 _ _ _ rfl .u8 .i64 Tryd.underlying5 Tryd.underlying80 Tryd.underlying3 mb 0 [] 114 2 rfl rfl rfl (by decide) (by decide) (by decide) hm0 hmb hB0 hS0 ?_; intro wm1 hm1 hB1 hS1; clear hm0 hB0 hS0; refine map_insert_event rfl 80 5 3 _ _ _ rfl .u8 .i64 Tryd.underlying5 Tryd.underlying80 Tryd.underlying3 mb 1 [(114, 2)] 99 2 rfl rfl rfl (by decide) (by decide) (by decide) hm1 hmb hB1 hS1 ?_; intro wm2 hm2 hB2 hS2; clear hm1 hB1 hS1; refine map_insert_event rfl 80 5 3 _ _ _ rfl .u8 .i64 Tryd.underlying5 Tryd.underlying80 Tryd.underlying3 mb 2 [(99, 2), (114, 2)] 108 2 rfl rfl rfl (by decide) (by decide) (by decide) hm2 hmb hB2 hS2 ?_; intro wm3 hm3 hB3 hS3; clear hm2 hB2 hS2; refine map_insert_event rfl 80 5 3 _ _ _ rfl .u8 .i64 Tryd.underlying5 Tryd.underlying80 Tryd.underlying3 mb 3 [(108, 2), (99, 2), (114, 2)] 118 2 rfl rfl rfl (by decide) (by decide) (by decide) hm3 hmb hB3 hS3 ?_; intro wm4 hm4 hB4 hS4; clear hm3 hB3 hS3; refine map_insert_event rfl 80 5 3 _ _ _ rfl .u8 .i64 Tryd.underlying5 Tryd.underlying80 Tryd.underlying3 mb 4 [(118, 2), (108, 2), (99, 2), (114, 2)] 105 2 rfl rfl rfl (by decide) (by decide) (by decide) hm4 hmb hB4 hS4 ?_; intro wm5 hm5 hB5 hS5; clear hm4 hB4 hS4; refine map_insert_event rfl 80 5 3 _ _ _ rfl .u8 .i64 Tryd.underlying5 Tryd.underlying80 Tryd.underlying3 mb 5 [(105, 2), (118, 2), (108, 2), (99, 2), (114, 2)] 101 4 rfl rfl rfl (by decide) (by decide) (by decide) hm5 hmb hB5 hS5 ?_; intro wm6 hm6 hB6 hS6; clear hm5 hB5 hS5; refine map_insert_event rfl 80 5 3 _ _ _ rfl .u8 .i64 Tryd.underlying5 Tryd.underlying80 Tryd.underlying3 mb 6 [(101, 4), (105, 2), (118, 2), (108, 2), (99, 2), (114, 2)] 103 4 rfl rfl rfl (by decide) (by decide) (by decide) hm6 hmb hB6 hS6 ?_; intro wm7 hm7 hB7 hS7; clear hm6 hB6 hS6; refine map_insert_event rfl 80 5 3 _ _ _ rfl .u8 .i64 Tryd.underlying5 Tryd.underlying80 Tryd.underlying3 mb 7 [(103, 4), (101, 4), (105, 2), (118, 2), (108, 2), (99, 2), (114, 2)] 102 2 rfl rfl rfl (by decide) (by decide) (by decide) hm7 hmb hB7 hS7 ?_; intro wm8 hm8 hB8 hS8; clear hm7 hB7 hS7; refine map_insert_event rfl 80 5 3 _ _ _ rfl .u8 .i64 Tryd.underlying5 Tryd.underlying80 Tryd.underlying3 mb 8 [(102, 2), (103, 4), (101, 4), (105, 2), (118, 2), (108, 2), (99, 2), (114, 2)] 104 2 rfl rfl rfl (by decide) (by decide) (by decide) hm8 hmb hB8 hS8 ?_; intro wm9 hm9 hB9 hS9; clear hm8 hB8 hS8; refine map_insert_event rfl 80 5 3 _ _ _ rfl .u8 .i64 Tryd.underlying5 Tryd.underlying80 Tryd.underlying3 mb 9 [(104, 2), (102, 2), (103, 4), (101, 4), (105, 2), (118, 2), (108, 2), (99, 2), (114, 2)] 116 4 rfl rfl rfl (by decide) (by decide) (by decide) hm9 hmb hB9 hS9 ?_; intro wm10 hm10 hB10 hS10; clear hm9 hB9 hS9; refine map_insert_event rfl 80 5 3 _ _ _ rfl .u8 .i64 Tryd.underlying5 Tryd.underlying80 Tryd.underlying3 mb 10 [(116, 4), (104, 2), (102, 2), (103, 4), (101, 4), (105, 2), (118, 2), (108, 2), (99, 2), (114, 2)] 100 2 rfl rfl rfl (by decide) (by decide) (by decide) hm10 hmb hB10 hS10 ?_; intro wm11 hm11 hB11 hS11; clear hm10 hB10 hS10; refine map_insert_event rfl 80 5 3 _ _ _ rfl .u8 .i64 Tryd.underlying5 Tryd.underlying80 Tryd.underlying3 mb 11 [(100, 2), (116, 4), (104, 2), (102, 2), (103, 4), (101, 4), (105, 2), (118, 2), (108, 2), (99, 2), (114, 2)] 115 4 rfl rfl rfl (by decide) (by decide) (by decide) hm11 hmb hB11 hS11 ?_; intro wm12 hm12 hB12 hS12; clear hm11 hB11 hS11; have hml := map_look 80 5 3 .u8 .i64 Tryd.underlying5 Tryd.underlying80 Tryd.underlying3 (by kernel_rfl) mb 12 [(115, 4), (100, 2), (116, 4), (104, 2), (102, 2), (103, 4), (101, 4), (105, 2), (118, 2), (108, 2), (99, 2), (114, 2)] hm12 0 255 rfl rfl 114 rfl rfl; rw [show mapLook [(115, 4), (100, 2), (116, 4), (104, 2), (102, 2), (103, 4), (101, 4), (105, 2), (118, 2), (108, 2), (99, 2), (114, 2)] 114 = 2 from by decide] at hml; clear hm12 hmb; have HB : Aside0 (Below (w.heap.size + 2) W0 wm12) := ⟨by rw [HS0.out.1]; exact hB12.mono (by simp)⟩; obtain ⟨k0, k1, k2, k3, k4, k5, k6, k7, k8, k9, k10, k11, k12, k13, k14⟩ := HCE.out wm12 HB.out; clear hB12 hS12))
    | (go_at_call 35; go_must (refine (C1.out _).mono ?_; rintro e w' ⟨rfl, hb⟩; obtain ⟨k0, k1, k2, k3, k4, k5, k6, k7, k8, k9, k10, k11, k12, k13, k14⟩ := HCE.out w' (HBC.out _ _ HB.out hb); have HB2 := Aside0.mk (HBC.out _ _ HB.out hb); clear HB; have HB := HB2; clear HB2 hb)))
  have HL0 : Aside0 (∃ ad, A1_2 = some ad ∧ w'.cell? ad = some (.int .i64 1) ∧ w'.cell? ⟨ad.block, ad.off + 1, none⟩ = some (.int .i64 2)) := by
    have hc := R2.out w' (HBW.out _ HB.out)
    obtain ⟨ad, e1, hx0⟩ := Kd.at_int hc (0 : Int) (by omega) (by decide)
    obtain ⟨ad', e2, hx1⟩ := Kd.at_int hc (1 : Int) (by omega) (by decide)
    rw [e1] at e2
    cases e2
    exact ⟨⟨ad, e1, hx0, by rw [show (⟨ad.block, ad.off + 1, none⟩ : Addr) = ad.add 1 from rfl]; exact hx1⟩⟩
  obtain ⟨ad, rfl, e0, e1⟩ := HL0.out
  clear HL0
  go_loopg [7, 32] 2 (fun g _ s32 wr => ∃ k : Nat, s32 = .int .i64 k ∧ k ≤ 2 ∧ g = 2 - k ∧ Aside0 (wr = w'))
  case atStart => exact ⟨0, rfl, by omega, rfl, ⟨rfl⟩⟩
  case round =>
    obtain ⟨k, rfl, hk, rfl, HW⟩ := hrel
    have hw := HW.out
    clear HW
    subst hw
    rcases (show k = 0 ∨ k = 1 ∨ k = 2 by omega) with rfl | rfl | rfl
    · go_wp2
      go_roundg 1
      case measure => omega
      case rel => exact ⟨1, rfl, by omega, rfl, ⟨rfl⟩⟩
    · go_wp2
      go_roundg 0
      case measure => omega
      case rel => exact ⟨2, rfl, by omega, rfl, ⟨rfl⟩⟩
    · go_wp2_with (first
        | (go_at_call 33; go_must (refine (C2.out _).mono ?_; rintro e w' ⟨rfl, hb⟩; obtain ⟨k0, k1, k2, k3, k4, k5, k6, k7, k8, k9, k10, k11, k12, k13, k14⟩ := HCE.out w' (HBC.out _ _ HB.out hb); have HB2 := Aside0.mk (HBC.out _ _ HB.out hb); clear HB; have HB := HB2; clear HB2 hb))
        | (go_at_call 47; go_must (refine (C3.out _ (HBW.out _ HB.out)).mono ?_; rintro e w' ⟨rfl, hb⟩; obtain ⟨k0, k1, k2, k3, k4, k5, k6, k7, k8, k9, k10, k11, k12, k13, k14⟩ := HCE.out w' (HBC.out _ _ HB.out hb); have HB2 := Aside0.mk (HBC.out _ _ HB.out hb); clear HB; have HB := HB2; clear HB2 hb))
        | (go_at_call 46; go_must (refine (C4.out _ (HBW.out _ HB.out)).mono ?_; rintro e w' ⟨rfl, hb⟩; obtain ⟨k0, k1, k2, k3, k4, k5, k6, k7, k8, k9, k10, k11, k12, k13, k14⟩ := HCE.out w' (HBC.out _ _ HB.out hb); have HB2 := Aside0.mk (HBC.out _ _ HB.out hb); clear HB; have HB := HB2; clear HB2 hb)))
      go_ret
      exact ⟨rfl, HBW.out _ HB.out⟩
end Go.Proofs.YtbckpbiimknnnaaDoor.X
namespace Go.Proofs.YtbckpbiimknnnaaDoor.X
open Go.RowKit Go.Proofs.YtbckpbiimknnnaaDoorW.PrintWords Go.Proofs.YtbckpbiimknnnaaDoorW.PrintLast Go.Proofs.YtbckpbiimknnnaaDoorW.PrintMore
attribute [local go_sem] max2_int min2_int max_two min_two max_three min_three max_four min_four
set_option linter.unusedVariables false
set_option linter.unusedSimpArgs false
def keyLit (s : ByteArray) : Lit := .string s.data.toList
theorem keyLit_inj {s t : ByteArray} (h : keyLit s = keyLit t) : s = t := by
  unfold keyLit at h
  injection h with h
  obtain ⟨⟨a⟩⟩ := s
  obtain ⟨⟨b⟩⟩ := t
  simp at h
  rw [h]
instance baDecEq : DecidableEq ByteArray := fun a b => decidable_of_iff (a.data = b.data) ⟨fun h => by cases a; cases b; simp at h; rw [h], fun h => by rw [h]⟩
instance baLawful : LawfulBEq ByteArray where
  eq_of_beq {a b} h := by
    have h' : (a.data == b.data) = true := h
    have := eq_of_beq h'
    cases a; cases b; simp at this; rw [this]
  rfl {a} := show (a.data == a.data) = true from beq_self_eq_true _
theorem tw_law : Go.Maps.Keyed Tryd.prog 9 := Go.Maps.string_keyed Tryd.underlying9
theorem tw_zero (w : World) : (zeroValue 3).run Tryd.prog w = .ok (.int .i64 0) w := by kernel_rfl
structure Counted (l : List ByteArray) (D : DataW Unit) : Prop where
  tidy : Go.Maps.Tidy D
  has_ : ∀ s, Go.Maps.has D (keyLit s) = decide (s ∈ l)
  le_ : Go.Maps.size D ≤ l.length
  eq_ : Go.Maps.size D = l.length ↔ l.Nodup
theorem Counted.start : Counted [] (.map []) := ⟨Go.Maps.tidy_empty, fun s => by simp [Go.Maps.has_eq], by simp [Go.Maps.size_eq], by simp [Go.Maps.size_eq]⟩
theorem Counted.put {l : List ByteArray} {D : DataW Unit} (h : Counted l D) (s : ByteArray) (d : DataW Unit) : Counted (l ++ [s]) (D.put (keyLit s) d) := by
  have hk : WideAt.IsKeyLit (keyLit s) := by unfold keyLit; simp [WideAt.IsKeyLit]
  have hs := Go.Maps.size_put (k := keyLit s) h.tidy d
  rw [h.has_] at hs
  refine ⟨h.tidy.put hk d, fun t => ?_, ?_, ?_⟩
  · by_cases e : t = s
    · subst e
      rw [Go.Maps.has_put_same h.tidy.isMap hk]
      simp
    · rw [Go.Maps.has_put_other (fun q => e (keyLit_inj q)), h.has_]
      simp [e]
  · have hle := h.le_
    rw [hs, List.length_append, List.length_singleton]
    by_cases e : s ∈ l
    · rw [if_pos (by simpa using e)]; omega
    · rw [if_neg (by simpa using e)]; omega
  · have hle := h.le_
    rw [hs, List.length_append, List.length_singleton, List.nodup_append]
    by_cases e : s ∈ l
    · rw [if_pos (by simpa using e)]
      constructor
      · intro q
        have := h.le_
        omega
      · rintro ⟨_, _, q⟩
        exact absurd rfl (q s e s (by simp))
    · rw [if_neg (by simpa using e)]
      have := h.eq_
      constructor
      · intro q
        refine ⟨this.1 (by omega), by simp, ?_⟩
        intro a ha b hb
        rw [List.mem_singleton.1 hb]
        rintro rfl
        exact e ha
      · rintro ⟨q, _⟩
        rw [this.2 q]
def flat_twice.f (l0 : List ByteArray) : Option (Bool) := (if l0.all (fun s => decide (s.size ≤ 140737488351232)) = true then some (!decide l0.Nodup) else none)
set_option maxHeartbeats 8000000 in
set_option maxRecDepth 1000000 in
theorem flat_twice.calls (A0 : Option Addr) (c0 : Nat) (l0 : List ByteArray) (r : Bool) (w : World) (hr0 : Kd.C Kd.string w A0 l0.length l0) (hc0 : l0.length ≤ c0) (h : flat_twice.f l0 = some r) :
    Calls Tryd.prog 34 #[.slice A0 l0.length c0] w fun e w' => e = .returned (.bool r) ∧ Below w.heap.size w w' := by
  unfold flat_twice.f at h
  split at h
  case isFalse => cases h
  rename_i hall
  obtain rfl := Option.some.inj h
  clear h
  have HR0 := Aside0.mk hr0
  have hlen : l0.length ≤ 9223372036854775807 := Kd.C_max hr0
  have HALL := Aside0.mk hall
  clear hr0 hall hc0
  have hmm := @run_makeMap Tryd.prog
  go_enter Tryd.func34, Tryd.ntmps34
  go_wp2
  go_loopw [5, 9] (fun _ s9 wr => ∃ (k : Nat) (D : DataW Unit), s9 = .int .i64 k ∧ k ≤ l0.length ∧ Aside0 (wr.ownsMap Tryd.prog 9 (plainElem Tryd.prog 3) w.heap.size k D) ∧ Aside0 (Counted (l0.take k) D) ∧ Aside0 (Below w.heap.size w wr)) (fun _ i _ => l0.length - (intOf i).toNat)
  case atStart => exact ⟨0, .map [], rfl, Nat.zero_le _, ⟨World.ownsMap_made _ _ _ _⟩, ⟨by rw [List.take_zero]; exact Counted.start⟩, ⟨(Below.refl _ _).alloc (Nat.le_refl _) _⟩⟩
  case round =>
    clear hmm
    obtain ⟨k, D, rfl, hk, HM, HC, HB⟩ := hrel
    by_cases hlt : k < l0.length
    · have hltz : (k : Int) < (l0.length : Int) := by omega
      obtain ⟨ad, e1, hx⟩ := Kd.at_string (Kd.C_below HR0.out HB.out) (k : Int) (by omega) hltz
      cases e1
      rw [Int.toNat_natCast] at hx
      have hg : rdOf ByteArray.empty l0 (k : Int) = l0[k] := by rw [rdOf, Int.toNat_natCast, List.getD_eq_getElem?_getD, List.getElem?_eq_getElem hlt]; rfl
      have hmem : rdOf ByteArray.empty l0 (k : Int) ∈ l0 := by rw [hg]; exact List.getElem_mem hlt
      have hsz := of_decide_eq_true (List.all_eq_true.1 HALL.out _ hmem)
      have htake : l0.take (k + 1) = l0.take k ++ [rdOf ByteArray.empty l0 (k : Int)] := by rw [hg, List.take_succ_eq_append_getElem hlt]
      have HT := Aside0.mk htake
      clear hg hmem htake
      generalize rdOf ByteArray.empty l0 (k : Int) = s at hx hsz HT
      have hkey : keyOf Tryd.prog 9 (.string s) = some (keyLit s) := Go.WideMaps.keyOf_string_mk Tryd.underlying9 (by simp only [maxLen]; omega)
      have HK := Aside0.mk hkey
      clear hkey
      go_wp2_with (first
        | (at_lookup; refine wpList_lookup_own_int _ rfl _ _ 79 rfl 9 3 .i64 tw_law Tryd.underlying79 Tryd.underlying3 (tw_zero _) w.heap.size k _ rfl HM.out _ _ rfl HK.out ?_; intro c hat hwc)
        | (at_mapUpdate; refine wpList_mapUpdate_own _ rfl _ _ _ 79 rfl 9 3 tw_law Tryd.underlying79 _ w.heap.size k _ rfl HM.out (by simp only [maxLen]; omega) _ _ _ rfl rfl HK.out _ [] (plainElem_int Tryd.underlying3 (wrap64_wf _)) ?_; intro w1 hown1 hgrow1))
      clear HK
      refine ⟨⟨k + 1, _, by go_num, by omega, ⟨hown1⟩, ⟨?_⟩, ⟨HB.out.grown hgrow1 HB.out.size (fun j hj => by cases hj; exact Nat.le_refl _)⟩⟩, by simp [intOf]; omega⟩
      rw [HT.out]
      exact HC.out.put s _
    · have hltz : ¬ (k : Int) < (l0.length : Int) := by omega
      have : k = l0.length := by omega
      subst this
      go_wp2_with (at_len; refine wpList_len_own _ rfl _ 79 rfl 9 3 Tryd.underlying79 _ w.heap.size l0.length _ rfl HM.out ?_)
      go_ret
      refine ⟨?_, HB.out⟩
      have hq := HC.out.eq_
      rw [List.take_length] at hq
      have : (((Go.Maps.size D : Nat) : Int) != (l0.length : Int)) = !decide l0.Nodup := by
        by_cases e : l0.Nodup
        · rw [hq.2 e, decide_eq_true e]; simp
        · rw [decide_eq_false e]
          have : Go.Maps.size D ≠ l0.length := fun q => e (hq.1 q)
          rw [Bool.not_false, bne_iff_ne]
          omega
      show Ending.returned (Value.bool _) = _
      rw [← this]
end Go.Proofs.YtbckpbiimknnnaaDoor.X
