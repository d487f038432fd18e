/-
  The walk of reorganize.Rebuild at a relative data set without entries; the theorems name the fields they ask.
-/
import Derived.Test.YtjimglfeiceepaaGreatDoorHead
import Derived.Test.YtjimglfeiceepaaGreatDoorMap
namespace Go.Proofs.YtjimglfeiceepaaGreatDoor
open Go.RowKit

set_option maxRecDepth 100000 in
set_option maxHeartbeats 1000000 in
theorem relative_d (d : DS) (hid : d.id = 9) (hin : d.interval = 128) (hl : d.length = 40) (w : World) :
    Calls Tryz.prog 14 #[.agg d.cells, .slice none 0 0, .int .i64 3] w fun e w' =>
      (∃ g s, s.size = 128 ∧ e = .returned (.tuple #[.slice (some ⟨g, 0, none⟩) 1 1, .int .i64 0]) ∧ w'.heap[g]? = some (.cells #[.int .i64 0, .string s] 25 (0, 0))) ∧ Below w.heap.size w w' := by
  have hmm := @run_makeMap Tryz.prog
  go_enter Tryz.func14, Tryz.ntmps14
  go_wp2_with (first | (go_at_call 24; refine (slotCount_conc _).mono ?_; rintro e w1 ⟨rfl, rfl⟩))
  refine wp_loop_rounds 1 ?_
  rw [rounds_succ]
  go_wp2_with fail
  have HG : Hid ((((w.alloc (.cells d.cells 31)).alloc (.cells #[.int .i64 3, .int .i64 0, .int .i64 0, .int .i64 0, .int .i64 0, .int .i64 0, .int .i64 0, .slice none 0 0] 59)).alloc (.map #[] 0)).heap[w.heap.size]? = some (.cells d.cells 31 (0, 0))) :=
    (Below.heap_alloc _ _ _ (by simp; omega)).trans ((Below.heap_alloc _ _ _ (by simp)).trans (heap_alloc_new _ _))
  refine wp_loop_rounds 1 ?_
  rw [rounds_succ]
  go_wp2_with (first | (refine load_ds d rfl _ rfl _ rfl _ _ HG.out ?_) | (go_at_call 23; refine (sectors_d d hid hin 3 0 (by omega) (by omega) (by omega) (by omega) _).mono ?_; rintro e w1 ⟨⟨g, s, hs, rfl, hg⟩, hb1⟩))
  go_returns
  exact ⟨⟨g, s, hs, rfl, hg⟩, ((((Below.refl _ w).alloc (Nat.le_refl _) _).alloc (by simp) _).alloc (by simp; omega) _).trans (hb1.mono (by simp; omega))⟩

/-- The table of builders. -/
def bld0 : Array MapEntry := #[]
def bld1 : Array MapEntry := #[⟨.int .i64 0, .func (.func 12) #[] #[], 0⟩]
def bld2 : Array MapEntry := #[⟨.int .i64 0, .func (.func 12) #[] #[], 0⟩, ⟨.int .i64 1, .func (.func 13) #[] #[], 1⟩]
def bld3 : Array MapEntry := #[⟨.int .i64 0, .func (.func 12) #[] #[], 0⟩, ⟨.int .i64 1, .func (.func 13) #[] #[], 1⟩, ⟨.int .i64 2, .func (.func 14) #[] #[], 2⟩]
def bld4 : Array MapEntry := #[⟨.int .i64 0, .func (.func 12) #[] #[], 0⟩, ⟨.int .i64 1, .func (.func 13) #[] #[], 1⟩, ⟨.int .i64 2, .func (.func 14) #[] #[], 2⟩, ⟨.int .i64 3, .func (.func 15) #[] #[], 3⟩]
theorem ins0 (w : World) : (Instr.mapUpdate 43 (.map (some w.heap.size)) (.int .i64 0) (.func (.func 12) #[] #[])).run Tryz.prog (w.alloc (.map bld0 0)) = .ok () (w.alloc (.map bld1 1)) :=
  insert_fresh Tryz.underlying43 Tryz.underlying3 _ _ rfl
theorem look0 (w : World) : (Instr.lookup 43 (.map (some w.heap.size)) (.int .i64 0) false).run Tryz.prog (w.alloc (.map bld4 4)) = .ok (.func (.func 12) #[] #[]) (w.alloc (.map bld4 4)) :=
  lookup_int Tryz.underlying43 Tryz.underlying3 (heap_alloc_new _ _) _ 0 _ rfl
theorem ins1 (w : World) : (Instr.mapUpdate 43 (.map (some w.heap.size)) (.int .i64 1) (.func (.func 13) #[] #[])).run Tryz.prog (w.alloc (.map bld1 1)) = .ok () (w.alloc (.map bld2 2)) :=
  insert_fresh Tryz.underlying43 Tryz.underlying3 _ _ rfl
theorem look1 (w : World) : (Instr.lookup 43 (.map (some w.heap.size)) (.int .i64 1) false).run Tryz.prog (w.alloc (.map bld4 4)) = .ok (.func (.func 13) #[] #[]) (w.alloc (.map bld4 4)) :=
  lookup_int Tryz.underlying43 Tryz.underlying3 (heap_alloc_new _ _) _ 1 _ rfl
theorem ins2 (w : World) : (Instr.mapUpdate 43 (.map (some w.heap.size)) (.int .i64 2) (.func (.func 14) #[] #[])).run Tryz.prog (w.alloc (.map bld2 2)) = .ok () (w.alloc (.map bld3 3)) :=
  insert_fresh Tryz.underlying43 Tryz.underlying3 _ _ rfl
theorem look2 (w : World) : (Instr.lookup 43 (.map (some w.heap.size)) (.int .i64 2) false).run Tryz.prog (w.alloc (.map bld4 4)) = .ok (.func (.func 14) #[] #[]) (w.alloc (.map bld4 4)) :=
  lookup_int Tryz.underlying43 Tryz.underlying3 (heap_alloc_new _ _) _ 2 _ rfl
theorem ins3 (w : World) : (Instr.mapUpdate 43 (.map (some w.heap.size)) (.int .i64 3) (.func (.func 15) #[] #[])).run Tryz.prog (w.alloc (.map bld3 3)) = .ok () (w.alloc (.map bld4 4)) :=
  insert_fresh Tryz.underlying43 Tryz.underlying3 _ _ rfl
theorem look3 (w : World) : (Instr.lookup 43 (.map (some w.heap.size)) (.int .i64 3) false).run Tryz.prog (w.alloc (.map bld4 4)) = .ok (.func (.func 15) #[] #[]) (w.alloc (.map bld4 4)) :=
  lookup_int Tryz.underlying43 Tryz.underlying3 (heap_alloc_new _ _) _ 3 _ rfl
set_option maxRecDepth 100000 in
set_option maxHeartbeats 1000000 in
theorem rebuild_d (d : DS) (hid : d.id = 9) (hin : d.interval = 128) (ho : d.org = 2) (hl : d.length = 40) (hf : d.format = 0) (hb : d.block = 0) (h5 : d.keyAt = 0) (h6 : d.keyLength = 0) (h8 : d.area = 0) (h9 : d.freeInterval = 0) (h10 : d.freeArea = 0) (w : World) :
    Calls Tryz.prog 8 #[.agg d.cells, .slice none 0 0, .int .i64 3] w fun e w' =>
      (∃ g s, s.size = 128 ∧ e = .returned (.tuple #[.slice (some ⟨g, 0, none⟩) 1 1, .int .i64 0]) ∧ w'.heap[g]? = some (.cells #[.int .i64 0, .string s] 25 (0, 0))) ∧ Below w.heap.size w w' := by
  have hv := valid_d d hin ho hl hf hb h5 h6 h8 h9 h10
  have Hdoor := Lib.hid (door_d d hid ho hv)
  have hmm : ∀ W : World, (Instr.makeMap 43 none).run Tryz.prog W = .ok (.map (some W.heap.size)) (W.alloc (.map bld0 0)) := fun W => @run_makeMap Tryz.prog 43 W
  have q0 := ins0
  have q1 := ins1
  have q2 := ins2
  have q3 := ins3
  have q4 := look2
  have HG0 : Hid ((w.alloc (.cells d.cells 31)).heap[w.heap.size]? = some (.cells d.cells 31 (0, 0))) := heap_alloc_new _ _
  clear hv
  go_enter Tryz.func8, Tryz.ntmps8
  go_wp2_with (first | (refine load_ds d rfl _ rfl _ rfl _ _ HG0.out ?_) | (go_at_call 11; refine (Hdoor.out _).mono ?_; rintro e w1 ⟨rfl, hb1⟩))
  have HG1 : Hid ((w1.alloc (.map bld4 4)).heap[w.heap.size]? = some (.cells d.cells 31 (0, 0))) :=
    (Below.heap_alloc _ _ _ (by have := hb1.size; simp at this; omega)).trans ((hb1.block _ (by simp)).trans HG0.out)
  have hc1 : (w1.alloc (.map bld4 4)).cell? ⟨w.heap.size, 1, none⟩ = some (.int .i64 2) := by
    rw [cell_of_row _ _ 1 _ _ _ HG1.out, DS.c1, ho]
  refine wp_loop_rounds 1 ?_
  rw [rounds_succ]
  go_wp2_with (first | (refine load_ds d rfl _ rfl _ rfl _ _ HG1.out ?_) | (go_at_call 14; refine (relative_d d hid hin hl _).mono ?_; rintro e w2 ⟨⟨g, s, hs, rfl, hg⟩, hb2⟩))
  go_returns
  exact ⟨⟨g, s, hs, rfl, hg⟩, ((((Below.refl _ w).alloc (Nat.le_refl _) _).trans (hb1.mono (by simp))).alloc (by have := hb1.size; simp at this; omega) _).trans (hb2.mono (by have := hb1.size; simp at this ⊢; omega))⟩
end Go.Proofs.YtjimglfeiceepaaGreatDoor
