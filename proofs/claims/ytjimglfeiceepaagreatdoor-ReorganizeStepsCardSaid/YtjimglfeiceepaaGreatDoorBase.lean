/-
  The facts of the program, its catalogue row in words of ours, loads and stores of that row, and small laws of the walk, for ReorganizeSteps.
-/
import Derived.Test.YtjimglfeiceepaaGreatDoorProg
import Derived.WalkKit
import Derived.WalkSpells
import Derived.WalkLawsBesides
import Derived.Deep.QuietTactic
import Derived.BigQuiet
import Derived.Handy
import Derived.Lib.Hide
import Derived.Deep.WholeRow
namespace Go.Proofs.YtjimglfeiceepaaGreatDoor
open Go.RowKit

/-- A description, each field a variable. -/
structure DS where
  id : Int
  org : Int
  format : Int
  length : Int
  block : Int
  keyAt : Int
  keyLength : Int
  interval : Int
  area : Int
  freeInterval : Int
  freeArea : Int
  base : Int
  altAt : Int
  altLength : Int
  unique : Bool
  cls : Int
  volume : ByteArray
  owner : ByteArray
  created : Int
  expires : Int
  archived : Bool
def DS.cells (d : DS) : Array Value := #[.int .i64 d.id, .int .i64 d.org, .int .i64 d.format, .int .i64 d.length, .int .i64 d.block, .int .i64 d.keyAt, .int .i64 d.keyLength, .int .i64 d.interval, .int .i64 d.area, .int .i64 d.freeInterval, .int .i64 d.freeArea, .int .i64 d.base, .int .i64 d.altAt, .int .i64 d.altLength, .bool d.unique, .int .i64 d.cls, .string d.volume, .string d.owner, .int .i64 d.created, .int .i64 d.expires, .bool d.archived]
theorem DS.size (d : DS) : d.cells.size = 21 := rfl
@[go_sem] theorem DS.c0 (d : DS) : d.cells[0]? = some (.int .i64 d.id) := rfl
@[go_sem] theorem DS.c1 (d : DS) : d.cells[1]? = some (.int .i64 d.org) := rfl
@[go_sem] theorem DS.c2 (d : DS) : d.cells[2]? = some (.int .i64 d.format) := rfl
@[go_sem] theorem DS.c3 (d : DS) : d.cells[3]? = some (.int .i64 d.length) := rfl
@[go_sem] theorem DS.c4 (d : DS) : d.cells[4]? = some (.int .i64 d.block) := rfl
@[go_sem] theorem DS.c5 (d : DS) : d.cells[5]? = some (.int .i64 d.keyAt) := rfl
@[go_sem] theorem DS.c6 (d : DS) : d.cells[6]? = some (.int .i64 d.keyLength) := rfl
@[go_sem] theorem DS.c7 (d : DS) : d.cells[7]? = some (.int .i64 d.interval) := rfl
@[go_sem] theorem DS.c8 (d : DS) : d.cells[8]? = some (.int .i64 d.area) := rfl
@[go_sem] theorem DS.c9 (d : DS) : d.cells[9]? = some (.int .i64 d.freeInterval) := rfl
@[go_sem] theorem DS.c10 (d : DS) : d.cells[10]? = some (.int .i64 d.freeArea) := rfl
@[go_sem] theorem DS.c11 (d : DS) : d.cells[11]? = some (.int .i64 d.base) := rfl
def i64 (x : Int) : Prop := -9223372036854775808 ≤ x ∧ x ≤ 9223372036854775807
structure DS.wf (d : DS) : Prop where
  id : i64 d.id
  org : i64 d.org
  format : i64 d.format
  length : i64 d.length
  block : i64 d.block
  keyAt : i64 d.keyAt
  keyLength : i64 d.keyLength
  interval : i64 d.interval
  area : i64 d.area
  freeInterval : i64 d.freeInterval
  freeArea : i64 d.freeArea

section
variable {P : Program} {ops : Array Oper} {rest : List Oper} {o : Oper} {a : Act} {w : World} {Q : Exit → Act → World → Prop}
/-- A whole struct loaded out of a block, guarded or not. -/
theorem wpList_load_g (hw : Region.wanted o (yielded ops a.tmps) = true) (ty : TypeId) (x : Operand) (ho : o.op = .load ty x)
    (g : Nat) (hx : a.eval x = .pointer (some ⟨g, 0, none⟩)) (t : TypeId) (cs : Array Value) (fr : Nat × Nat) (d : TypeDesc) (hg : w.heap[g]? = some (.cells cs t fr))
    (hu : P.underlying ty = some d) (hd : (match d with | .struct _ | .array _ _ => true | _ => false) = true) (hi : (P.info? ty).map (·.size) = some cs.size)
    (h : wpList P ops Q rest (a.put o.dst (.agg cs)) w) : wpList P ops Q (o :: rest) a w :=
  wpList_step fun K hK => by rw [if_pos hw]; exact wp_load_row ty x ho g hx t cs fr d hg hu hd hi (hK _ _ h)
end
/-- The same of a description. -/
theorem load_ds {ops : Array Oper} {rest : List Oper} {o : Oper} {a : Act} {w : World} {Q : Exit → Act → World → Prop} (d : DS) (hw : Region.wanted o (yielded ops a.tmps) = true) (x : Operand) (ho : o.op = .load 31 x)
    (g : Nat) (hx : a.eval x = .pointer (some ⟨g, 0, none⟩)) (t : TypeId) (fr : Nat × Nat) (hg : w.heap[g]? = some (.cells d.cells t fr))
    (h : wpList Tryz.prog ops Q rest (a.put o.dst (.agg d.cells)) w) : wpList Tryz.prog ops Q (o :: rest) a w :=
  wpList_load_g hw _ x ho g hx t d.cells fr _ hg Tryz.underlying31 rfl (by rw [DS.size]; kernel_rfl) h

/-- A whole struct stored into the block that was made just now. -/
theorem wpList_store_new {P : Program} {ops : Array Oper} {rest : List Oper} {o : Oper} {a : Act} {Q : Exit → Act → World → Prop} (W : World) (hgd : o.guard = none) (ty : TypeId) (x y : Operand) (ho : o.op = .store ty x y)
    (hx : a.eval x = .pointer (some ⟨W.heap.size, 0, none⟩)) (c c' : Array Value) (hy : a.eval y = .agg c') (hi : (P.info? ty).map (·.size) = some c'.size) (hc : c.size = c'.size) (h1 : c'.all (·.oneCell') = true)
    (h : wpList P ops Q rest (a.put o.dst undef) (W.alloc (.cells c' ty))) : wpList P ops Q (o :: rest) a (W.alloc (.cells c ty)) := by
  refine wpList_store_row hgd ty x y ho W.heap.size c' hx hy ty c (heap_alloc_last W _) hi hc h1 ?_
  rw [World.setRow_alloc_new]
  exact h
theorem DS.one (d : DS) : d.cells.all (·.oneCell') = true := by simp [DS.cells, Value.oneCell']
theorem store_ds {ops : Array Oper} {rest : List Oper} {o : Oper} {a : Act} {Q : Exit → Act → World → Prop} (d : DS) (W : World) (hgd : o.guard = none) (x y : Operand) (ho : o.op = .store 31 x y)
    (hx : a.eval x = .pointer (some ⟨W.heap.size, 0, none⟩)) (c : Array Value) (hc : c.size = 21) (hy : a.eval y = .agg d.cells)
    (h : wpList Tryz.prog ops Q rest (a.put o.dst undef) (W.alloc (.cells d.cells 31))) : wpList Tryz.prog ops Q (o :: rest) a (W.alloc (.cells c 31)) :=
  wpList_store_new W hgd _ x y ho hx c d.cells hy (by rw [DS.size]; kernel_rfl) (by rw [hc, DS.size]) d.one h

set_option maxHeartbeats 400000 in
theorem within_any (a b c : Int) (w : World) :
    Calls Tryz.prog 29 #[.int .i64 a, .int .i64 b, .int .i64 c] w fun e w' => e = .returned (.bool (decide (b ≤ a) && decide (a ≤ c))) ∧ w = w' := by
  by_cases h1 : b ≤ a
  · by_cases h2 : a ≤ c
    · go_enter Tryz.func29, Tryz.ntmps29
      go_wp2
      go_ret
      exact ⟨by simp; omega, rfl⟩
    · go_enter Tryz.func29, Tryz.ntmps29
      go_wp2
      go_ret
      exact ⟨by simp; omega, rfl⟩
  · go_enter Tryz.func29, Tryz.ntmps29
    go_wp2
    go_ret
    exact ⟨by simp; omega, rfl⟩

theorem isSize_no (a : Int) (w : World) (h1 : (a == 128) = false) (h2 : (a == 256) = false) (h3 : (a == 512) = false) :
    Calls Tryz.prog 44 #[.int .i64 a] w fun e w' => e = .returned (.bool false) ∧ w = w' := by
  go_enter Tryz.func44, Tryz.ntmps44
  go_wp2
  go_ret
  exact ⟨rfl, rfl⟩
theorem isSize_yes (a : Int) (w : World) (h : a = 128 ∨ a = 256 ∨ a = 512) :
    Calls Tryz.prog 44 #[.int .i64 a] w fun e w' => e = .returned (.bool true) ∧ w = w' := by
  rcases h with rfl | rfl | rfl
  all_goals
    go_enter Tryz.func44, Tryz.ntmps44
    go_wp2
    go_ret
    exact ⟨rfl, rfl⟩

set_option maxHeartbeats 400000 in
theorem zeros_all (n cap : Nat) (w : World) (B : Nat) (hn : n ≤ 1000) (hc : ∀ j, j < n → w.cell? ⟨B, j, none⟩ = some (.int .i64 0)) :
    Calls Tryz.prog 30 #[.slice (some ⟨B, 0, none⟩) n cap] w fun e w' => e = .returned (.bool true) ∧ w = w' := by
  go_enter Tryz.func30, Tryz.ntmps30
  go_wp2
  go_loop [4, 7, 8, 9, 10, 11, 12, 13] (fun _ i _ _ _ _ _ _ => ∃ k : Nat, k ≤ n ∧ i = .int .i64 k) (fun _ i _ _ _ _ _ _ => n - (intOf i).toNat)
  case atStart => exact ⟨0, Nat.zero_le _, rfl⟩
  case round =>
    obtain ⟨k, hk, rfl⟩ := hrel
    by_cases hlt : k < n
    · have h := hc k hlt
      go_wp2
      go_round
      case rel => exact ⟨k + 1, by omega, by go_num⟩
      case measure => simp [intOf]; omega
    · go_wp2
      go_ret
      exact ⟨rfl, rfl⟩

set_option maxHeartbeats 400000 in
theorem perPage_any (d : DS) (w : World) (h0 : 0 ≤ d.interval) (h1 : d.interval ≤ 9223372036854775807) :
    Calls Tryz.prog 43 #[.agg d.cells] w fun e w' => e = .returned (.int .i64 (d.interval / 128)) ∧ Below w.heap.size w w' := by
  go_enter Tryz.func43, Tryz.ntmps43
  go_wp2
  go_ret
  exact ⟨rfl, (Below.refl _ _).alloc (Nat.le_refl _) _⟩

theorem slotCount_conc (w : World) :
    Calls Tryz.prog 24 #[.int .i64 128, .int .i64 40] w fun e w' => e = .returned (.int .i64 2) ∧ w = w' := by
  go_enter Tryz.func24, Tryz.ntmps24
  go_wp2
  go_ret
  exact ⟨rfl, rfl⟩

/-- key.Valid at a Relative description. -/
def relOk (d : DS) : Prop := (d.interval = 128 ∨ d.interval = 256 ∨ d.interval = 512) ∧ d.org = 2 ∧ 1 ≤ d.length ∧ d.length ≤ 200 ∧ d.length ≤ d.interval - 7 ∧ d.format = 0 ∧ d.block = 0 ∧ d.keyAt = 0 ∧ d.keyLength = 0 ∧ d.area = 0 ∧ d.freeInterval = 0 ∧ d.freeArea = 0
end Go.Proofs.YtjimglfeiceepaaGreatDoor
