/-
  The walks of key.Valid and of the door that asks it, at the sample catalogue rows of dasdlaw29.awake; each theorem names the fields it asks.
-/
import Derived.Test.YtjimglfeiceepaaGreatDoorBase
namespace Go.Proofs.YtjimglfeiceepaaGreatDoor
open Go.RowKit

def d0 : DS := ⟨9, 2, 0, 40, 0, 0, 0, 128, 0, 0, 0, 0, 0, 0, false, 0, ⟨#[]⟩, ⟨#[]⟩, 0, 0, false⟩

set_option maxRecDepth 100000 in
set_option maxHeartbeats 1000000 in
theorem valid_d (d : DS) (hi : d.interval = 128) (ho : d.org = 2) (hl : d.length = 40) (hf : d.format = 0) (hb : d.block = 0) (h5 : d.keyAt = 0) (h6 : d.keyLength = 0) (h8 : d.area = 0) (h9 : d.freeInterval = 0) (h10 : d.freeArea = 0) (w : World) :
    Calls Tryz.prog 17 #[.agg d.cells] w fun e w' => e = .returned (.bool true) ∧ Below w.heap.size w w' := by
  have i0 : ∀ w, (Instr.index 73 (.agg #[.int .i64 128, .int .i64 256, .int .i64 512]) (.int .i64 0)).run Tryz.prog w = .ok (.int .i64 128) w := fun _ => by kernel_rfl
  have i1 : ∀ w, (Instr.index 73 (.agg #[.int .i64 128, .int .i64 256, .int .i64 512]) (.int .i64 1)).run Tryz.prog w = .ok (.int .i64 256) w := fun _ => by kernel_rfl
  have i2 : ∀ w, (Instr.index 73 (.agg #[.int .i64 128, .int .i64 256, .int .i64 512]) (.int .i64 2)).run Tryz.prog w = .ok (.int .i64 512) w := fun _ => by kernel_rfl
  go_enter Tryz.func17, Tryz.ntmps17
  go_wp2
  refine wp_loop_rounds 4 ?_
  repeat (rw [rounds_succ]; go_wp2_with (first | (go_at_call 29; refine (within_any _ _ _ _).mono ?_; rintro e w' ⟨rfl, rfl⟩) | (go_at_call 30; refine (zeros_all _ _ _ _ (by decide) ?_).mono ?_; go_must (focus (intro j hj; rcases j with _ | _ | _ | _ | _ | j; all_goals (try (exfalso; omega)); all_goals go_simp)); rintro e w' ⟨rfl, rfl⟩)))
  go_returns
  exact ⟨rfl, by go_grown⟩

set_option maxHeartbeats 400000 in
theorem door_d (d : DS) (hid : d.id = 9) (ho : d.org = 2) (hv : ∀ w, Calls Tryz.prog 17 #[.agg d.cells] w fun e w' => e = .returned (.bool true) ∧ Below w.heap.size w w') (w : World) :
    Calls Tryz.prog 11 #[.agg d.cells] w fun e w' => e = .returned (.int .i64 0) ∧ Below w.heap.size w w' := by
  have Hv := Lib.hid hv
  clear hv
  have hg : (w.alloc (.cells d.cells 31)).heap[w.heap.size]? = some (.cells d.cells 31 (0, 0)) := heap_alloc_new _ _
  have HG := Lib.hid hg
  clear hg
  go_enter Tryz.func11, Tryz.ntmps11
  go_wp2_with (first | (refine load_ds d rfl _ rfl _ rfl _ _ HG.out ?_) | (go_at_call 17; refine (Hv.out _).mono ?_; rintro e w1 ⟨rfl, hb1⟩))
  go_returns
  exact ⟨rfl, ((Below.refl _ _).alloc (Nat.le_refl _) _).trans (hb1.mono (by simp))⟩
end Go.Proofs.YtjimglfeiceepaaGreatDoor
