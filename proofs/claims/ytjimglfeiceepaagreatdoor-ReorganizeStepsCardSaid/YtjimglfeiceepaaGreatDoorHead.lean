/-
  The walk of the sectors that a catalogue row with no pages lays; its counts lie between 0 and 1099511627776.
-/
import Derived.Test.YtjimglfeiceepaaGreatDoorDoor
import Derived.Test.YtjimglfeiceepaaGreatDoorShelf
namespace Go.Proofs.YtjimglfeiceepaaGreatDoor
open Go.RowKit

/-- The bytes of a number as a key. -/
def slotL (n : Int) : List Int := [n / 72057594037927936 % 256, n / 281474976710656 % 256, n / 1099511627776 % 256, n / 4294967296 % 256, n / 16777216 % 256, n / 65536 % 256, n / 256 % 256, n % 256]
def slotS (n : Int) : ByteArray := strOfNums (slotL n)
theorem slotS_size (n : Int) : (slotS n).size = 8 := by rw [slotS, strOfNums_size]; rfl
/-- A fresh block of bytes as a string. -/
theorem conv_block {w : World} {g : Nat} {cap : Nat} (xs : List Int) {t : TypeId} {fr : Nat × Nat} (hg : w.heap[g]? = some (.cells (xs.map (Value.int .u8)).toArray t fr)) :
    (convert 82 9 (.slice (some ⟨g, 0, none⟩) xs.length cap)).run Tryz.prog w = .ok (.string (strOfNums xs)) w :=
  run_convert_bytes_arg w _ _ Tryz.underlying82 Tryz.underlying5 g 0 xs.length cap xs rfl (fun i hi => by rw [cell_of_row w g _ _ t fr hg]; simp [List.getElem?_eq_getElem hi, List.getD_eq_getElem?_getD]) _ Tryz.underlying9

theorem conv8 (w : World) (t : TypeId) (x0 x1 x2 x3 x4 x5 x6 x7 : Int) :
    (convert 82 9 (.slice (some ⟨w.heap.size, 0, none⟩) 8 8)).run Tryz.prog (w.alloc (.cells #[.int .u8 x0, .int .u8 x1, .int .u8 x2, .int .u8 x3, .int .u8 x4, .int .u8 x5, .int .u8 x6, .int .u8 x7] t)) =
      .ok (.string (strOfNums [x0, x1, x2, x3, x4, x5, x6, x7])) (w.alloc (.cells #[.int .u8 x0, .int .u8 x1, .int .u8 x2, .int .u8 x3, .int .u8 x4, .int .u8 x5, .int .u8 x6, .int .u8 x7] t)) :=
  conv_block (w := w.alloc (.cells #[.int .u8 x0, .int .u8 x1, .int .u8 x2, .int .u8 x3, .int .u8 x4, .int .u8 x5, .int .u8 x6, .int .u8 x7] t)) [x0, x1, x2, x3, x4, x5, x6, x7] (heap_alloc_new _ _)

set_option maxRecDepth 100000 in
set_option maxHeartbeats 1000000 in
theorem slot_any (n : Int) (h0 : 0 ≤ n) (h1 : n ≤ 1099511627776) (w : World) :
    Calls Tryz.prog 19 #[.int .i64 n] w fun e w' => e = .returned (.string (slotS n)) ∧ Below w.heap.size w w' := by
  have H : Hid (slotS n = strOfNums [n / 72057594037927936, n / 281474976710656, n / 1099511627776, n / 4294967296 % 256, n / 16777216 % 256, n / 65536 % 256, n / 256 % 256, n % 256]) := by
    show slotS n = _
    unfold slotS slotL
    rw [show n / 72057594037927936 % 256 = n / 72057594037927936 by omega, show n / 281474976710656 % 256 = n / 281474976710656 by omega, show n / 1099511627776 % 256 = n / 1099511627776 by omega]
  go_enter Tryz.func19, Tryz.ntmps19
  go_wp2_with (first | (go_at_call 29; refine (within_any _ _ _ _).mono ?_; rintro e w1 ⟨rfl, rfl⟩))
  refine wp_loop_rounds 9 ?_
  repeat (rw [rounds_succ]; go_wp2)
  rw [conv8]
  go_wp2
  go_returns
  exact ⟨by rw [H.out]; rfl, by go_grown⟩

/-- The world in which sectors begins its first loop. -/
def secW (w : World) (a c : Int) (dc : Array Value) : World := (((w.alloc (.cells #[.int .i64 a, .int .i64 c, .int .i64 0, .int .i64 0, .int .i64 0, .int .i64 0, .int .i64 0, .slice none 0 0] 59)).alloc (.cells dc 31)).alloc
      (.cells #[.int .i64 a, .int .i64 c, .int .i64 0, .int .i64 0, .int .i64 0, .int .i64 0, .int .i64 0] 52)).alloc (.cells #[.int .i64 9, .int .i64 a, .int .i64 c, .int .i64 0, .int .i64 0, .int .i64 0, .int .i64 0, .int .i64 0] 3)
theorem secW_size (w : World) (a c : Int) (dc : Array Value) : (secW w a c dc).heap.size = w.heap.size + 4 := by simp [secW]
theorem secW_below (w : World) (a c : Int) (dc : Array Value) : Below w.heap.size w (secW w a c dc) := by unfold secW; go_grown
theorem secW_ds (w : World) (a c : Int) (dc : Array Value) : (secW w a c dc).heap[w.heap.size + 1]? = some (.cells dc 31 (0, 0)) := by
  unfold secW
  refine (Below.heap_alloc _ _ _ (by simp)).trans ((Below.heap_alloc _ _ _ (by simp)).trans ?_)
  have h := heap_alloc_new (w.alloc (.cells #[.int .i64 a, .int .i64 c, .int .i64 0, .int .i64 0, .int .i64 0, .int .i64 0, .int .i64 0, .slice none 0 0] 59)) (.cells dc 31)
  rwa [World.size_alloc] at h
theorem secW_pages (w : World) (a c : Int) (dc : Array Value) : (secW w a c dc).cell? ⟨w.heap.size, 7, none⟩ = some (.slice none 0 0) := by
  unfold secW
  go_simp
theorem secW_nums (w : World) (a c : Int) (dc : Array Value) (ha : 0 ≤ a) (ha1 : a ≤ 1099511627776) (hc : 0 ≤ c) (hc1 : c ≤ 1099511627776) (k : Nat) (hk : k < 8) : ∃ x : Int, 0 ≤ x ∧ x ≤ 1099511627776 ∧ (secW w a c dc).cell? ⟨w.heap.size + 1 + 1 + 1, k, none⟩ = some (.int .i64 x) := by
  unfold secW
  rcases k with _ | _ | _ | _ | _ | _ | _ | _ | k
  all_goals (first | omega | skip)
  · exact ⟨9, by omega, by omega, by go_simp⟩
  · exact ⟨a, by omega, by omega, by go_simp⟩
  · exact ⟨c, by omega, by omega, by go_simp⟩
  all_goals exact ⟨0, by omega, by omega, by go_simp⟩

theorem slotS_le (n : Int) : (slotS n).size ≤ 8 := Nat.le_of_eq (slotS_size n)
theorem conc_size (a b : ByteArray) : (a ++ b).size = a.size + b.size := by simp

set_option maxRecDepth 100000 in
set_option maxHeartbeats 1000000 in
/-- The sectors of a built cluster without pages: one sector of 128 bytes. -/
theorem sectors_d (d : DS) (hid : d.id = 9) (hin : d.interval = 128) (a c : Int) (ha : 0 ≤ a) (ha1 : a ≤ 1099511627776) (hc : 0 ≤ c) (hc1 : c ≤ 1099511627776) (w : World) :
    Calls Tryz.prog 23 #[.agg #[.int .i64 a, .int .i64 c, .int .i64 0, .int .i64 0, .int .i64 0, .int .i64 0, .int .i64 0, .slice none 0 0], .agg d.cells] w fun e w' =>
      (∃ g s, s.size = 128 ∧ e = .returned (.slice (some ⟨g, 0, none⟩) 1 1) ∧ w'.heap[g]? = some (.cells #[.int .i64 0, .string s] 25 (0, 0))) ∧ Below w.heap.size w w' := by
  go_enter Tryz.func23, Tryz.ntmps23
  go_wp2_with fail
  have HS := Lib.hid (secW_size w a c d.cells)
  have hbx := secW_below w a c d.cells
  have HD := Lib.hid (secW_ds w a c d.cells)
  have HP := Lib.hid (secW_pages w a c d.cells)
  have HC := Lib.hid (secW_nums w a c d.cells ha ha1 hc hc1)
  show Code.wp _ _ _ _ (secW w a c d.cells)
  generalize secW w a c d.cells = W0 at *
  go_loopw [6, 34] (fun s i wr => ∃ (k : Nat) (b : ByteArray), k ≤ 8 ∧ i = .int .i64 k ∧ s = .string b ∧ b.size = 8 * k ∧ Below W0.heap.size W0 wr) (fun _ i _ => 8 - (intOf i).toNat)
  case atStart => exact ⟨0, _, by omega, rfl, rfl, rfl, Below.refl _ _⟩
  case round =>
    obtain ⟨k, b, hk, rfl, rfl, hb, hbw⟩ := hrel
    have HB := Lib.hid hb
    have hbl : b.size ≤ 64 := by omega
    clear hb
    by_cases hlt : k < 8
    · obtain ⟨x, hx0, hx1, hcx⟩ := HC.out k hlt
      have hcx' := (hbw.cell (p := ⟨w.heap.size + 1 + 1 + 1, k, none⟩) (by have := HS.out; show w.heap.size + 1 + 1 + 1 < _; omega)).trans hcx
      have hsl := slotS_le x
      clear hcx
      go_wp2_with (first | (go_at_call 19; go_must (refine (slot_any _ hx0 hx1 _).mono ?_; rintro e w1 ⟨rfl, hb1⟩)))
      go_roundw
      case rel => exact ⟨k + 1, _, by omega, by go_num, rfl, by have := HB.out; rw [conc_size, slotS_size]; omega, hbw.trans (hb1.mono hbw.size)⟩
      case measure => simp [intOf]; omega
    · obtain rfl : k = 8 := by omega
      go_wp2_with fail
      have hb64 : (128 - (b.size : Int)) = ((64 : Nat) : Int) := by have := HB.out; omega
      rw [hb64]
      clear hb64
      refine (Go.Proofs.Tryz.strings_Repeat ⟨#[0]⟩ 64 wr (by omega) (by decide)).mono ?_
      rintro e w2 ⟨rfl, hb2⟩
      generalize hr : (⟨(Lib.repeatL (⟨#[0]⟩ : ByteArray).data.toList 64).toArray⟩ : ByteArray) = r
      have HR : Hid (r.size = 64) := by
        show r.size = 64
        rw [← hr, ByteArray.size, List.size_toArray, Lib.repeatL_length]
        rfl
      have hrl : r.size ≤ 64 := by have := HR.out; omega
      clear hr
      have hszw : w.heap.size + 4 ≤ wr.heap.size := by have := HS.out; have := hbw.size; omega
      have hszr : w.heap.size + 4 ≤ w2.heap.size := by have := hb2.size; omega
      have HD2 : Hid ((w2.alloc (.cells #[.int .i64 0, .string (b ++ r)] 25)).heap[w.heap.size + 1]? = some (.cells d.cells 31 (0, 0))) :=
        (Below.heap_alloc _ _ _ (by omega)).trans ((hb2.block _ (by omega)).trans ((hbw.block _ (by have := HS.out; omega)).trans HD.out))
      have HP2 : Hid (w2.cell? ⟨w.heap.size, 7, none⟩ = some (.slice none 0 0)) :=
        (hb2.cell (p := ⟨w.heap.size, 7, none⟩) (by show w.heap.size < _; omega)).trans ((hbw.cell (p := ⟨w.heap.size, 7, none⟩) (by have := HS.out; show w.heap.size < _; omega)).trans HP.out)
      go_wp2_with (first | (refine load_ds d rfl _ rfl _ rfl _ _ HD2.out ?_))
      refine (perPage_any d _ (by omega) (by omega)).mono ?_
      rintro e w3 ⟨rfl, hb3⟩
      have hcp : w3.cell? ⟨w.heap.size, 7, none⟩ = some (.slice none 0 0) :=
        (hb3.cell (p := ⟨w.heap.size, 7, none⟩) (by simp; omega)).trans ((World.cell?_alloc_lt _ _ _ (by show w.heap.size < _; omega)).trans HP2.out)
      have HG : Hid (w3.heap[w2.heap.size]? = some (.cells #[.int .i64 0, .string (b ++ r)] 25 (0, 0))) :=
        (hb3.block _ (by simp)).trans (heap_alloc_new _ _)
      go_wp2_with fail
      refine wp_loop_rounds 1 ?_
      rw [rounds_succ]
      go_wp2
      go_returns
      exact ⟨⟨w2.heap.size, b ++ r, by have := HB.out; have := HR.out; rw [conc_size]; omega, rfl, HG.out⟩, (hbx.trans ((hbw.trans (hb2.mono hbw.size)).mono hbx.size)).trans ((((Below.refl _ w2).alloc (Nat.le_refl _) _).trans (hb3.mono (by simp))).mono (by omega))⟩
end Go.Proofs.YtjimglfeiceepaaGreatDoor
