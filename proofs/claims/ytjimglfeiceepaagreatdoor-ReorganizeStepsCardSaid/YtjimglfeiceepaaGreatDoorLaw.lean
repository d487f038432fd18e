/-
  The walk of dasdlaw29.ReorganizeSteps: for every list of at most 140737488351232 bytes it returns true and leaves what was there.
-/
import Derived.Test.YtjimglfeiceepaaGreatDoorAwake
namespace Go.Proofs.YtjimglfeiceepaaGreatDoor
open Go.RowKit Go.Shelf

theorem stepsL_small (zs rs : List SW) : (stepsL zs rs).length ≤ chN rs.length + 1 ∧ ∀ x ∈ stepsL zs rs, x.length ≤ 64 + zs.length := by
  have hch : ∀ x ∈ chunks rs, x.length ≤ 64 + zs.length := by
    intro x hx
    obtain ⟨k, _, rfl⟩ := List.mem_map.1 hx
    rw [chL_length]; omega
  have hcz : ∀ x ∈ chunks rs ++ [zs], x.length ≤ 64 + zs.length := by
    intro x hx
    rcases List.mem_append.1 hx with hx | hx
    · exact hch x hx
    · rw [List.mem_singleton] at hx; subst hx; omega
  by_cases hz : zs.length = 0
  · rw [stepsL, if_pos hz, chunks_length]
    exact ⟨by omega, hch⟩
  · by_cases hr : chN rs.length = 0
    · rw [stepsL_first zs rs hz hr]
      exact ⟨by simp, hcz⟩
    · by_cases h : 64 < (chL rs (chN rs.length - 1)).length + zs.length
      · rw [stepsL_full zs rs hz hr h]
        exact ⟨by simp, hcz⟩
      · rw [stepsL_join zs rs hz hr h]
        refine ⟨by simp, fun x hx => ?_⟩
        rcases List.mem_or_eq_of_mem_set hx with hx | rfl
        · exact hch x hx
        · rw [List.length_append]; omega
theorem law_in {w w' : World} {B n : Nat} {A : Option Addr} {l : List SW} (h : InSW w' B A n l) (_hb : Below B w w') : InSW w' w'.heap.size A n l :=
  ⟨h.1, fun hn => by
    obtain ⟨b, off, e, hlt, hc⟩ := h.2 hn
    refine ⟨b, off, e, ?_, hc⟩
    exact World.block_lt_of_cell? w' ⟨b, off + 0 * 2, none⟩ (hc 0 (by rw [h.1]; exact hn)).1⟩

theorem in_drewN {w : World} {n : Nat} {A : Option Addr} {l : List SW} (h : InSW w w.heap.size A n l) (k : Nat) : InSW (w.drewN k) (w.drewN k).heap.size A n l := h

set_option maxRecDepth 100000 in
set_option maxHeartbeats 2000000 in
theorem law_any (A : Option Addr) (n c : Nat) (l : List SW) (w : World) (hin : InSW w w.heap.size A n l) (hn : n * 24 ≤ 140737488351232) :
    Calls Tryz.prog 3 #[.slice A n c] w fun e w' => e = .returned (.bool true) ∧ Below w.heap.size w w' := by
  have HIn := Lib.hid hin
  clear hin
  go_enter Tryz.func3, Tryz.ntmps3
  by_cases h400 : (400 : Int) < (n : Int)
  · go_wp2_with (first | (go_at_call 4; refine (awake_any _).mono ?_; rintro e w1 ⟨rfl, hb1⟩))
    go_returns
    exact ⟨rfl, hb1⟩
  · have h400' : (n : Int) ≤ 400 := by omega
    go_wp2_with (first | (go_at_call 4; refine (awake_any _).mono ?_; rintro e w1 ⟨rfl, hb1⟩))
    have HI1 := Lib.hid (HIn.out.below hb1)
    go_loopw [3, 4] (fun h i wr => ∃ k q : Nat, k ≤ n ∧ q ≤ k ∧ i = .int .i64 k ∧ h = .int .i64 q ∧ wr = w1) (fun _ i _ => n - (intOf i).toNat)
    case atStart => exact ⟨0, 0, Nat.zero_le _, Nat.le_refl _, rfl, rfl, rfl⟩
    case round =>
      obtain ⟨k, q, hk, hq, rfl, rfl, rfl⟩ := hrel
      by_cases hlt : k < n
      · have hkl : k < l.length := by rw [HI1.out.1]; exact hlt
        obtain ⟨b, off, rfl, hbB, hcells⟩ := HI1.out.2 (by omega)
        have hc0 := (hcells k hkl).1
        have hc1 := (hcells k hkl).2
        clear hcells
        generalize l[k] = x at *
        go_wp2
        all_goals first | (go_returns; exact ⟨rfl, hb1⟩) | exact ⟨⟨k + 1, q + 1, by omega, by omega, by go_num, by go_num, trivial⟩, by simp [intOf]; omega⟩ | exact ⟨⟨k + 1, q, by omega, by omega, by go_num, rfl, trivial⟩, by simp [intOf]; omega⟩
      · go_wp2_with fail
        refine (steps_any A n c l _ (law_in HI1.out hb1) hn).mono ?_
        rintro e w2 ⟨va, rfl, ha, hb2⟩
        go_wp2_with fail
        refine (refsteps_any A n c l _ (law_in ((law_in HI1.out hb1).below hb2) hb2) hn).mono ?_
        rintro e w3 ⟨vb, rfl, hb, hb3⟩
        have ha3 := ha.below hb3
        have HA := Lib.hid ha3
        have HB := Lib.hid hb
        have HBel := Lib.hid (hb1.trans ((hb2.trans (hb3.mono hb2.size)).mono hb1.size))
        clear ha ha3 hb hb1 hb2 hb3
        have hsm := stepsL_small (heads l) (others l)
        have hhl : (heads l).length ≤ 400 := by have h1 := List.length_filter_le (fun x : SW => x.1 == 0) l; have h2 := HIn.out.1; unfold heads; omega
        have hol : (others l).length ≤ 400 := by have h1 := List.length_filter_le (fun x : SW => !(x.1 == 0)) l; have h2 := HIn.out.1; unfold others; omega
        have hL1 : (stepsL (heads l) (others l)).length ≤ 1000 := by have := hsm.1; unfold chN at this; omega
        have HL2 : Hid (∀ x ∈ stepsL (heads l) (others l), x.length ≤ 1000) := fun x hx => by have := hsm.2 x hx; omega
        clear hsm hhl hol
        generalize stepsL (heads l) (others l) = L at *
        obtain ⟨Aa, ca, valsa, rfl, _⟩ := HA.out
        obtain ⟨Ab, cb, valsb, rfl, _⟩ := HB.out
        go_wp2_with fail
        go_loopw [49] (fun i wr => ∃ j r : Nat, j ≤ L.length ∧ i = .int .i64 j ∧ wr = w3.drewN r) (fun i _ => L.length - (intOf i).toNat)
        case atStart => exact ⟨0, 0, Nat.zero_le _, rfl, rfl⟩
        case round =>
          obtain ⟨j, r, hj, rfl, rfl⟩ := hrel
          by_cases hjl : j < L.length
          · obtain ⟨ba, oa, xa, hva, _, hja⟩ := HA.out.opened (by omega)
            obtain ⟨bb, ob, xb, hvb, _, hjb⟩ := HB.out.opened (by omega)
            obtain rfl : Aa = some ⟨ba, oa, none⟩ := by injection hva
            obtain rfl : Ab = some ⟨bb, ob, none⟩ := by injection hvb
            obtain ⟨Pa, ya, hca, hia⟩ := hja j hjl
            obtain ⟨Pb, yb, hcb, hib⟩ := hjb j hjl
            have HIA := Lib.hid hia
            have HIB := Lib.hid hib
            have hi1 : (j : Int) < (L.length : Int) := by omega
            have HLL : Hid (L[j].length ≤ 140737488351232) := Nat.le_trans (HL2.out _ (List.getElem_mem hjl)) (by omega)
            clear hja hjb hia hib hva hvb
            generalize L[j] = x at *
            have HCALL : Hid (∀ m, Calls Tryz.prog 7 #[.slice Pa x.length ya, .slice Pb x.length yb] (w3.drewN (r + m)) fun e w'' => e = .returned (.bool true) ∧ ∃ k, w'' = w3.drewN (r + k)) :=
              fun m => (same_yes Pa Pb x.length ya yb x _ (in_drewN HIA.out _) (in_drewN HIB.out _) HLL.out).mono fun _ _ ⟨he, k, hk⟩ => ⟨he, m + k, by rw [hk, World.drewN_drewN, Nat.add_assoc]⟩
            go_wp2
            go_quiet ((go_at_call 7; go_must (exact HCALL.out _)))
            go_wp2
            exact ⟨⟨j + 1, r + nq, by omega, by go_num, rfl⟩, by simp [intOf]; omega⟩
          · go_wp2
            go_returns
            exact ⟨rfl, pw_drewN HBel.out r⟩
end Go.Proofs.YtjimglfeiceepaaGreatDoor
