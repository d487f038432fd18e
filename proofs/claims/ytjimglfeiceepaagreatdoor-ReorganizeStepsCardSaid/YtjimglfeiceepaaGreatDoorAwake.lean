/-
  The walk of dasdlaw29.awake: in every world it returns true and leaves what was there.
-/
import Derived.Test.YtjimglfeiceepaaGreatDoorSame
import Derived.Test.YtjimglfeiceepaaGreatDoorRel
import Derived.Test.YtjimglfeiceepaaGreatDoorSteps
import Derived.Test.YtjimglfeiceepaaGreatDoorRefSteps
namespace Go.Proofs.YtjimglfeiceepaaGreatDoor
open Go.RowKit Go.Shelf

/-- The example's writes. -/
def lA (k : Nat) : List SW := (List.range k).map fun (i : Nat) => ((i : Int), (⟨#[]⟩ : ByteArray))
theorem lA_succ (k : Nat) : lA (k + 1) = lA k ++ [((k : Int), ⟨#[]⟩)] := by simp [lA, List.range_succ]
theorem lA_length (k : Nat) : (lA k).length = k := by simp [lA]

def LA : List (List SW) := stepsL (heads (lA 130)) (others (lA 130))
theorem LA_len : LA.length = 3 := by decide +kernel
theorem LA0 : (LA[0]'(by rw [LA_len]; omega)).length = 64 := by decide +kernel
theorem LA1 : (LA[1]'(by rw [LA_len]; omega)).length = 64 := by decide +kernel
theorem LA2 : (LA[2]'(by rw [LA_len]; omega)).length = 2 := by decide +kernel
theorem LA00 : ((LA[0]'(by rw [LA_len]; omega))[0]'(by rw [LA0]; omega)).1 = 1 := by decide +kernel
theorem LA20 : ((LA[2]'(by rw [LA_len]; omega))[0]'(by rw [LA2]; omega)).1 = 0 := by decide +kernel
theorem LA21 : ((LA[2]'(by rw [LA_len]; omega))[1]'(by rw [LA2]; omega)).1 = 129 := by decide +kernel
/-- What the example reads of the lists. -/
theorem LA_read {W : World} {v : Value} (h : ReadsLL W v LA) : ∃ b off c b0 o0 c0 A1 c1 b2 o2 c2, v = .slice (some ⟨b, off, none⟩) 3 c ∧ W.cell? ⟨b, off, none⟩ = some (.slice (some ⟨b0, o0, none⟩) 64 c0) ∧ W.cell? ⟨b, off + 1, none⟩ = some (.slice A1 64 c1) ∧
    W.cell? ⟨b, off + 2, none⟩ = some (.slice (some ⟨b2, o2, none⟩) 2 c2) ∧ W.cell? ⟨b0, o0, none⟩ = some (.int .i64 1) ∧ W.cell? ⟨b2, o2, none⟩ = some (.int .i64 0) ∧ W.cell? ⟨b2, o2 + 2, none⟩ = some (.int .i64 129) := by
  obtain ⟨b, off, c, rfl, _, hj⟩ := h.opened (by rw [LA_len]; omega)
  obtain ⟨A0, c0, h0, i0⟩ := hj 0 (by rw [LA_len]; omega)
  obtain ⟨A1, c1, h1, _⟩ := hj 1 (by rw [LA_len]; omega)
  obtain ⟨A2, c2, h2, i2⟩ := hj 2 (by rw [LA_len]; omega)
  obtain ⟨b0, o0, rfl, _, k0⟩ := i0.2 (by rw [LA0]; omega)
  obtain ⟨b2, o2, rfl, _, k2⟩ := i2.2 (by rw [LA2]; omega)
  have e0 := (k0 0 (by rw [LA0]; omega)).1
  have e2 := (k2 0 (by rw [LA2]; omega)).1
  have e3 := (k2 1 (by rw [LA2]; omega)).1
  rw [LA0] at h0
  rw [LA1] at h1
  rw [LA2] at h2
  rw [LA00] at e0
  rw [LA20] at e2
  rw [LA21] at e3
  rw [LA_len]
  exact ⟨b, off, c, b0, o0, c0, A1, c1, b2, o2, c2, rfl, h0, h1, h2, e0, e2, e3⟩

set_option maxRecDepth 100000 in
set_option maxHeartbeats 2000000 in
theorem awake_any (w : World) : Calls Tryz.prog 4 #[] w fun e w' => e = .returned (.bool true) ∧ Below w.heap.size w w' := by
  obtain ⟨i0, hi, hz0, hz1, hz2⟩ := info_parts infoSW
  have HI : Hid (Tryz.prog.info? 25 = some i0) := hi
  clear hi
  go_enter Tryz.func4, Tryz.ntmps4
  go_wp2_with fail
  go_loopw [1, 2] (fun l i wr => ∃ k : Nat, k ≤ 130 ∧ i = .int .i64 k ∧ wr.ownsRow w.heap.size 25 2 l k (swc (lA k)) ∧ Below w.heap.size w wr) (fun _ i _ => 130 - (intOf i).toNat)
  case atStart => exact ⟨0, by omega, rfl, by exact World.ownsRow_lit (base := w.heap.size) (e := 25) (size := 2) w #[] 0 (Nat.le_refl _) (by simp [maxLen]) (by simp), (Below.refl _ _).alloc (Nat.le_refl _) _⟩
  case round =>
    obtain ⟨k, hk, rfl, hO, hB⟩ := hrel
    have HO := Lib.hid hO
    have HB := Lib.hid hB
    have hsz := hB.size
    clear hO hB
    by_cases hlt : k < 130
    · have HOW := Lib.hid (HO.out.alloc (.cells #[.int .i64 (k : Int), .string ⟨#[]⟩] 25))
      have HN := Lib.hid (Reads.new wr [.int .i64 (k : Int), .string ⟨#[]⟩] 25 2 1 rfl)
      have H1 := Lib.hid (swc_one [((k : Int), (⟨#[]⟩ : ByteArray))])
      go_wp2_with (at_builtin; go_must (refine wpList_append_any _ rfl _ _ 22 rfl w.heap.size 25 i0 _ 2 24 Tryz.underlying22 HI.out hz0 hz1 hz2 rfl (by decide) _ k (swc (lA k)) rfl HOW.out _ (some ⟨wr.heap.size, 0, none⟩) 1 1 [.int .i64 (k : Int), .string ⟨#[]⟩] rfl HN.out H1.out (by simp only [maxLen]; omega) (by omega) (by simp; omega) ?_; intro v1 w1 ho1 hg1 _))
      go_roundw
      case rel => exact ⟨k + 1, by omega, by go_num, by rw [lA_succ, swc_append]; exact ho1, (HB.out.alloc hsz _).grown hg1 (by simp; omega) (fun g e => (HO.out.lt g e).1)⟩
      case measure => simp [intOf]; omega
    · obtain rfl : k = 130 := by omega
      obtain ⟨Al, cl, rfl⟩ := own_slice HO.out
      have HIn : Hid (InSW wr wr.heap.size Al 130 (lA 130)) := InSW.of_reads (Reads.of_own HO.out) (lA_length 130)
      go_wp2_with (first | (refine store_ds d0 _ rfl _ _ rfl rfl _ rfl rfl ?_) | (refine load_ds d0 rfl _ rfl _ rfl _ _ (heap_alloc_new _ _) ?_) | (go_at_call 5; refine (steps_any Al 130 cl (lA 130) wr HIn.out (by omega)).mono ?_; rintro e w1 ⟨v, rfl, hv, hb1⟩))
      refine (rebuild_d d0 rfl rfl rfl rfl rfl rfl rfl rfl rfl rfl rfl _).mono ?_
      rintro e w2 ⟨⟨g, s, hs, rfl, hg⟩, hb2⟩
      have hb12 : Below w1.heap.size w1 w2 := ((Below.refl _ _).alloc (Nat.le_refl _) _).trans (hb2.mono (by simp))
      obtain ⟨b, off, c, b0, o0, c0, A1, c1, b2, o2, c2, rfl, r0, r1, r2, r3, r4, r5⟩ := LA_read (show ReadsLL w2 v LA from hv.below hb12)
      have hcs : w2.cell? ⟨g, 1, none⟩ = some (.string s) := by rw [cell_of_row w2 g 1 _ _ _ hg]; rfl
      have hsl : ((s.size : Int) == 128) = true := by rw [hs]; rfl
      have HS := Lib.hid hs
      have HBB := Lib.hid (HB.out.trans ((hb1.trans (hb12.mono hb1.size)).mono HB.out.size))
      clear hs hb1 hb2 hb12 hg hv
      go_wp2
      go_returns
      exact ⟨rfl, HBB.out⟩
end Go.Proofs.YtjimglfeiceepaaGreatDoor
