/-
  The walk of dasdref28.Same: two lists of sectors that hold the same cells are told to be the same.
-/
import Derived.Test.YtjimglfeiceepaaGreatDoorIn
import Derived.Laws.StructEq
namespace Go.Proofs.YtjimglfeiceepaaGreatDoor
open Go.RowKit Go.Shelf

set_option maxRecDepth 100000 in
set_option maxHeartbeats 1000000 in
theorem same_yes (A1 A2 : Option Addr) (n c1 c2 : Nat) (l : List SW) (w : World) (h1 : InSW w w.heap.size A1 n l) (h2 : InSW w w.heap.size A2 n l) (hn : n ≤ 140737488351232) :
    Calls Tryz.prog 7 #[.slice A1 n c1, .slice A2 n c2] w fun e w' => e = .returned (.bool true) ∧ ∃ k, w' = w.drewN k := by
  have H1 := Lib.hid h1
  have H2 := Lib.hid h2
  clear h1 h2
  have hp : Tryz.prog.stoodInHeld 25 = false := by kernel_rfl
  go_enter Tryz.func7, Tryz.ntmps7
  have hne : ((n : Int) != (n : Int)) = false := by simp
  go_wp2_with fail
  go_loopw [5] (fun i wr => ∃ k q : Nat, k ≤ n ∧ i = .int .i64 k ∧ wr = w.drewN q) (fun i _ => n - (intOf i).toNat)
  case atStart => exact ⟨0, 0, Nat.zero_le _, rfl, rfl⟩
  case round =>
    obtain ⟨k, q, hk, rfl, rfl⟩ := hrel
    by_cases hlt : k < n
    · have hkl : k < l.length := by rw [H1.out.1]; exact hlt
      obtain ⟨b1, o1, rfl, hb1, hc1⟩ := H1.out.2 (by omega)
      obtain ⟨b2, o2, rfl, hb2, hc2⟩ := H2.out.2 (by omega)
      have c10 := (hc1 k hkl).1
      have c11 := (hc1 k hkl).2
      have c20 := (hc2 k hkl).1
      have c21 := (hc2 k hkl).2
      clear hc1 hc2
      generalize l[k] = x at *
      have hi0 : (0 : Int) ≤ (k : Int) := by omega
      have hi1 : (k : Int) < (n : Int) := by omega
      go_wp2
      go_quiet (fail)
      go_wp2
      exact ⟨⟨k + 1, q + nq, by omega, by go_num, rfl⟩, by simp [intOf]; omega⟩
    · go_wp2
      go_returns
      exact ⟨rfl, q, rfl⟩
theorem spot_none {W : World} {a : Addr} {v : Value} (h : W.cell? a = some v) : a.spot = none := by
  unfold World.cell? at h
  split at h
  · split at h
    · cases h
    · rename_i hsp
      simpa using hsp
  · cases h
/-- A slice of slices, opened. -/
theorem ReadsLL.opened {W : World} {v : Value} {L : List (List SW)} (h : ReadsLL W v L) (hL : 0 < L.length) : ∃ b off c, v = .slice (some ⟨b, off, none⟩) L.length c ∧ b < W.heap.size ∧
    ∀ j (hj : j < L.length), ∃ A' c', W.cell? ⟨b, off + j, none⟩ = some (.slice A' (L[j]'hj).length c') ∧ InSW W W.heap.size A' (L[j]'hj).length (L[j]'hj) := by
  obtain ⟨A, c, vals, rfl, hl, hr, hi⟩ := h
  obtain ⟨ad, rfl, hb, hc⟩ := hr.2 hL
  have h0 := hc 0 (vals[0]'(by omega)) (List.getElem?_eq_getElem _)
  have hs : ad.spot = none := by
    have := spot_none h0
    unfold Addr.add at this
    simpa using this
  obtain ⟨b, off, sp⟩ := ad
  simp only at hs
  subst hs
  refine ⟨b, off, c, rfl, hb, fun j hj => ?_⟩
  obtain ⟨A', c', hx, hrd⟩ := hi j (vals[j]'(by omega)) (L[j]'hj) (List.getElem?_eq_getElem _) (List.getElem?_eq_getElem _)
  refine ⟨A', c', ?_, InSW.of_reads hrd rfl⟩
  have h1 := hc j _ (List.getElem?_eq_getElem (by omega))
  have e1 : (⟨b, off, none⟩ : Addr).add j = ⟨b, off + j, none⟩ := by unfold Addr.add; split <;> simp_all
  rw [e1, hx] at h1
  exact h1

end Go.Proofs.YtjimglfeiceepaaGreatDoor
