/- For every input the Go function 'lexiconlaw05.ParseDeep' returns true: the tied card. -/
import Derived.Test.YtbmbjaogcmokoaaGreatDoorDeepLift
import Derived.Test.YtbmbjaogcmokoaaGreatDoorDeepZ
import Derived.Test.YtbmbjaogcmokoaaGreatDoorDeepA1
import Derived.Test.YtbmbjaogcmokoaaGreatDoorDeepA2
import Derived.Test.YtbmbjaogcmokoaaGreatDoorDeepA3
import Derived.Test.YtbmbjaogcmokoaaGreatDoorDeepA4
import Derived.Test.YtbmbjaogcmokoaaGreatDoorDeepA5
import Derived.Test.YtbmbjaogcmokoaaGreatDoorDeepB12
import Derived.Test.YtbmbjaogcmokoaaGreatDoorDeepC12
import Derived.Test.YtbmbjaogcmokoaaGreatDoorDeepB13
import Derived.Test.YtbmbjaogcmokoaaGreatDoorDeepC13
import Derived.Test.YtbmbjaogcmokoaaGreatDoorDeepB14
import Derived.Test.YtbmbjaogcmokoaaGreatDoorDeepC14
import Derived.Test.YtbmbjaogcmokoaaGreatDoorDeepB15
import Derived.Test.YtbmbjaogcmokoaaGreatDoorDeepC15
import Derived.Test.YtbmbjaogcmokoaaGreatDoorDeepB16
import Derived.Test.YtbmbjaogcmokoaaGreatDoorDeepC16
import Derived.Test.YtbmbjaogcmokoaaGreatDoorDeepD1
import Derived.Test.YtbmbjaogcmokoaaGreatDoorDeepD2
import Derived.Test.YtbmbjaogcmokoaaGreatDoorDeepD3
import Derived.Test.YtbmbjaogcmokoaaGreatDoorDeepD4
import Derived.Test.YtbmbjaogcmokoaaGreatDoorDeepD5
import Derived.Test.YtbmbjaogcmokoaaGreatDoorDeepD6
import Derived.KernelRfl
namespace Go.Proofs.YtbmbjaogcmokoaaGreatDoor
open Go.Proofs.YtbmbjaogcmokoaaGreatDoorX Go.RowKit
theorem deep_all (sy : Sy) : ∀ i, i < 40 → DeepFin sy (deepL.drop 9) (deepEnv (i + 1)) st0
  | 0, _ => deep_1 sy
  | 1, _ => deep_2 sy
  | 2, _ => deep_3 sy
  | 3, _ => deep_4 sy
  | 4, _ => deep_5 sy
  | 5, _ => deep_6 sy
  | 6, _ => deep_7 sy
  | 7, _ => deep_8 sy
  | 8, _ => deep_9 sy
  | 9, _ => deep_10 sy
  | 10, _ => deep_11 sy
  | 11, _ => deep_12 sy
  | 12, _ => deep_13 sy
  | 13, _ => deep_14 sy
  | 14, _ => deep_15 sy
  | 15, _ => deep_16 sy
  | 16, _ => deep_17 sy
  | 17, _ => deep_18 sy
  | 18, _ => deep_19 sy
  | 19, _ => deep_20 sy
  | 20, _ => deep_21 sy
  | 21, _ => deep_22 sy
  | 22, _ => deep_23 sy
  | 23, _ => deep_24 sy
  | 24, _ => deep_25 sy
  | 25, _ => deep_26 sy
  | 26, _ => deep_27 sy
  | 27, _ => deep_28 sy
  | 28, _ => deep_29 sy
  | 29, _ => deep_30 sy
  | 30, _ => deep_31 sy
  | 31, _ => deep_32 sy
  | 32, _ => deep_33 sy
  | 33, _ => deep_34 sy
  | 34, _ => deep_35 sy
  | 35, _ => deep_36 sy
  | 36, _ => deep_37 sy
  | 37, _ => deep_38 sy
  | 38, _ => deep_39 sy
  | 39, _ => deep_40 sy
  | i + 40, h => absurd h (by omega)
set_option maxRecDepth 100000 in
theorem deep_big (sy : Sy) : DeepFin sy deepL (initEnv (parseHint 4) [.unk, .sym 0 true]) st0 := @from_finT sy Tryz.prog 17 parseHint 4 Tryz.f4 _ _ _ (orcL [worked]) 1000 mixed worked_orc (from_last mixed worked_orc (by kernel_rfl))
theorem deep_small (sy : Sy) (r : Int) (h : r.natAbs < 40) : DeepFin sy deepL (initEnv (parseHint 4) [.smod r, .sym 0 false]) st0 := by
  have h1 := List.all_eq_true.1 heads_ok r.natAbs (List.mem_range.2 h)
  rw [Bool.and_eq_true] at h1
  refine finT_step mixed (worked_all sy) 9 ?_ (deep_all sy _ h)
  rcases Int.natAbs_eq r with e | e
  · have h2 := h1.1
    rw [show Int.ofNat r.natAbs = r from e.symm] at h2
    exact h2
  · have h2 := h1.2
    rw [show -(Int.ofNat r.natAbs) = r from e.symm] at h2
    exact h2
theorem deep_law (k : Int) (s : ByteArray) (w : World) : Calls Tryz.prog 4 #[.int .i64 k, .string s] w fun e w' => e = .returned (.bool true) ∧ Below w.heap.size w w' := by
  cases hb : decide (s.size > 67108864) with
  | true =>
    exact finT_calls (sy := ⟨fun _ => s, fun _ => False⟩) (args := [.unk, .sym 0 true]) (args' := [.int .i64 k, .string s]) (fun _ h => h) Tryz.func4 (c := deepC) (by kernel_rfl) (of_decide_eq_true (by kernel_rfl))
      (fun ρ => VRels.cons (by simp only [VRel]) (VRels.cons (by simp only [VRel]; exact ⟨trivial, hb⟩) VRels.nil)) (deep_big _) w
  | false =>
    exact finT_calls (sy := ⟨fun _ => s, fun _ => False⟩) (args := [.smod (Int.tmod k 40), .sym 0 false]) (args' := [.int .i64 k, .string s]) (fun _ h => h) Tryz.func4 (c := deepC) (by kernel_rfl) (of_decide_eq_true (by kernel_rfl))
      (fun ρ => VRels.cons (by simp only [VRel]; exact ⟨k, rfl, rfl⟩) (VRels.cons (by simp only [VRel]; exact ⟨trivial, hb⟩) VRels.nil)) (deep_small _ _ (by rw [Int.natAbs_tmod]; exact Nat.mod_lt _ (by decide))) w
theorem deep_card : Rows.ParseDeepCardSaid := deep_card_of deep_law
end Go.Proofs.YtbmbjaogcmokoaaGreatDoor
