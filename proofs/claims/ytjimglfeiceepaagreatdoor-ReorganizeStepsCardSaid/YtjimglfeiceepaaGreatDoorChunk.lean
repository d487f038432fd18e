/-
  The walk of slices.Chunk over a list of sectors: what its loop body is handed, round by round; no condition but the sizes that the theorems name.
-/
import Derived.Test.YtjimglfeiceepaaGreatDoorWords
import Derived.RangeFuncNested
import Derived.RangeFuncBound
import Derived.RangeFuncCalls
import Derived.RangeFuncLeaves
import Derived.RangeFuncBox
import Derived.RangeFuncFrom
import Derived.Shelf.Abstract
import Derived.Shelf.RegionOpen
import Derived.OwnWalkIn
import Derived.TacticsInMore
import Derived.LoopNIn
import Derived.LoopIn
import Derived.Lib.SliceRun
import Derived.Sort.QuietIn
namespace Go.Proofs.YtjimglfeiceepaaGreatDoor
open Go.RowKit Go.Shelf
attribute [local go_sem] Oper.semAt_some

set_option maxRecDepth 100000 in
set_option maxHeartbeats 1000000 in
/-- slices.Clone at a slice that is not nil: a row of its own with the same cells. -/
theorem clone_some (ad : Addr) (n c : Nat) (xs : List Value) (w : World) (B : Nat) (hr : Reads w B 2 (some ad) n xs) (hB : B ≤ w.heap.size) (h1 : ∀ u ∈ xs, u.oneCell' = true) (hn : n * 24 ≤ 140737488355328) :
    Calls Tryz.prog 10 #[.slice (some ad) n c] w fun e w' =>
      (∃ v, e = .returned v ∧ w'.ownsRow w.heap.size 25 2 v n xs) ∧ Below w.heap.size w w' := by
  obtain ⟨i0, hi, hz0, hz1, hz2⟩ := info_parts infoSW
  have heq := fun W : World => Lib.run_eql_slice_nil (P := Tryz.prog) W 22 _ (some ad) n c 0 0 Tryz.underlying22
  have hown : Hid ((w.alloc (.cells #[] 25)).ownsRow w.heap.size 25 2 (.slice (some ⟨w.heap.size, 0, none⟩) 0 0) 0 []) := by
    have h := World.ownsRow_lit (base := w.heap.size) (e := 25) (size := 2) w #[] 0 (Nat.le_refl _) (by simp [maxLen]) (by simp)
    rw [show (#[] : Array Value).toList = [] from rfl] at h
    exact h
  have HR : Hid (Reads (w.alloc (.cells #[] 25)) B 2 (some ad) n xs) := hr.alloc hB _
  have H1 := Lib.hid h1
  have HI : Hid (Tryz.prog.info? 25 = some i0) := hi
  clear h1 hi hr
  go_enter Tryz.func10, Tryz.ntmps10
  go_wp2_with (at_builtin; refine wpList_append_any _ rfl _ _ 22 rfl w.heap.size 25 i0 _ 2 24 Tryz.underlying22 HI.out hz0 hz1 hz2 rfl (by decide) _ 0 [] rfl hown.out B (some ad) n c xs rfl HR.out H1.out (by simp only [maxLen]; omega) (by omega) (by simp) ?_; intro v1 w1 ho1 hg1 _)
  go_returns
  rw [Nat.zero_add, List.nil_append] at ho1
  exact ⟨⟨v1, rfl, ho1⟩, ((Below.refl _ w).alloc (Nat.le_refl _) _).grown hg1 (by simp) (fun k e => by cases e; exact Nat.le_refl _)⟩

/-- slices.Chunk: the slice and the number are boxed. -/
theorem chunk_any (A : Option Addr) (n c : Nat) (m : Int) (hm : 1 ≤ m) (w : World) :
    Calls Tryz.prog 9 #[.slice A n c, .int .i64 m] w fun e w' =>
      e = .returned (.func (.func 16) #[] #[.pointer (some ⟨w.heap.size, 0, none⟩), .pointer (some ⟨w.heap.size + 1, 0, none⟩)]) ∧
      (w.alloc (.cells #[.slice A n c] 22)).alloc (.cells #[.int .i64 m] 3) = w' := by
  go_enter Tryz.func9, Tryz.ntmps9
  go_wp2
  go_returns
  exact ⟨rfl, rfl⟩

theorem pw_drewN {B : Nat} {w W : World} (h : Below B w W) (n : Nat) : Below B w (W.drewN n) := ⟨h.os, h.tape, h.output, h.size, h.block⟩
/-- What the iterator asks of a round: its two boxes hold what they held. -/
def KpC (Bs Bm : Nat) (W W' : World) : Prop := W'.cell? ⟨Bs, 0, none⟩ = W.cell? ⟨Bs, 0, none⟩ ∧ W'.cell? ⟨Bm, 0, none⟩ = W.cell? ⟨Bm, 0, none⟩
theorem KpC.refl (Bs Bm : Nat) (W : World) : KpC Bs Bm W W := ⟨rfl, rfl⟩
theorem KpC.trans {Bs Bm : Nat} {A B C : World} (h : KpC Bs Bm A B) (k : KpC Bs Bm B C) : KpC Bs Bm A C := ⟨k.1.trans h.1, k.2.trans h.2⟩
theorem KpC.below {Bs Bm n₀ : Nat} {A B : World} (h : Below n₀ A B) (hs : Bs < n₀) (hm : Bm < n₀) : KpC Bs Bm A B := ⟨h.cell (p := ⟨Bs, 0, none⟩) hs, h.cell (p := ⟨Bm, 0, none⟩) hm⟩
/-- The k-th chunk of 64. -/
def chv (g n : Nat) (k : Nat) : Value := .slice (some ⟨g, 64 * k * 2, none⟩) (min 64 (n - 64 * k)) (min 64 (n - 64 * k))
def chN (n : Nat) : Nat := (n + 63) / 64

set_option maxRecDepth 100000 in
set_option maxHeartbeats 2000000 in
theorem chunk1_some (nn : Nat) (hn1 : 1 ≤ nn) (l Bs Bm g n c : Nat) (hn : 0 < n) (hc : n ≤ c) (hlen : n * 24 ≤ 140737488355328) (J Jx : List Nat → World → Prop) (hJd : ∀ pre W, J pre W → ∀ q, J pre (W.drewN q))
    (hY : ∀ pre x W, J pre W → pre.length < chN n → YieldAt Fence.wide (nn - 1) Tryz.prog l #[chv g n x] W fun e W' =>
      (e = .returned (.bool true) ∧ J (pre ++ [x]) W' ∧ KpC Bs Bm W W') ∨ (e = .returned (.bool false) ∧ Jx (pre ++ [x]) W'))
    (W : World) (hs : W.cell? ⟨Bs, 0, none⟩ = some (.slice (some ⟨g, 0, none⟩) n c)) (hm : W.cell? ⟨Bm, 0, none⟩ = some (.int .i64 64)) (h0 : J [] W) :
    CallsIn Fence.wide nn Tryz.prog 16 #[.func (.yield l) #[] #[], .pointer (some ⟨Bs, 0, none⟩), .pointer (some ⟨Bm, 0, none⟩)] W fun e W' => (∃ v, e = .returned v) ∧
      ((∃ ys, ys = List.range (chN n) ∧ J ys W') ∨ (∃ pre, True ∧ Jx pre W')) := by
  refine callsIn_of_wp Tryz.func16 rfl trivial ?_ rfl
  simp only [Tryz.ntmps16, List.size_toArray, List.length_cons, List.length_nil, Nat.reduceAdd, Nat.reduceSub, Array.replicate_succ, Array.replicate_zero, List.push_toArray, List.append_toArray, List.nil_append, List.cons_append]
  gi_wp2
  gi_loopw [4] (fun i wr => ∃ k : Nat, k ≤ chN n ∧ i = .int .i64 ((64 * k : Nat) : Int) ∧ J (List.range k) wr ∧ KpC Bs Bm W wr)
    (fun i _ => 64 * chN n - (intOf i).toNat)
  case atStart => exact ⟨0, Nat.zero_le _, rfl, h0, KpC.refl _ _ _⟩
  case round =>
    obtain ⟨k, hk, rfl, hJs, hnx⟩ := hrel
    have hs' := hnx.1.trans hs
    have hm' := hnx.2.trans hm
    have HX := Lib.hid hnx
    clear hnx
    by_cases hlt : k < chN n
    · have hlt' : 64 * k < n := by unfold chN at hlt; omega
      by_cases hq : 64 ≤ n - 64 * k
      · have hq' : (64 : Int) ≤ ((n - 64 * k : Nat) : Int) := by omega
        gi_wp2
        gi_quiet (fail)
        obtain ⟨fn, tmps, assign, body, hy, hR⟩ := hY _ k (wr.drewN nq) (hJd _ _ hJs nq) (by rw [List.length_range]; exact hlt)
        unfold chv at hy
        rw [Nat.min_eq_left (by omega)] at hy
        gi_wp2
        refine hR.mono ?_
        rintro e W3 (⟨rfl, hJ3, hk3⟩ | ⟨rfl, hJx3⟩)
        · have hm3 : W3.cell? ⟨Bm, 0, none⟩ = some (.int .i64 64) := hk3.2.trans hm'
          have HK3 := Lib.hid hk3
          clear hk3
          gi_wp2
          go_roundw
          case rel => exact ⟨k + 1, by omega, by go_num, by rw [List.range_succ]; exact hJ3, HX.out.trans HK3.out⟩
          case measure => simp [intOf]; omega
        · gi_wp2
          refine bodyPost_ret (results_none rfl _ _ _) rfl ?_
          exact ⟨⟨_, rfl⟩, .inr ⟨_, trivial, hJx3⟩⟩
      · have hq' : ((n - 64 * k : Nat) : Int) < 64 := by omega
        gi_wp2
        gi_quiet (fail)
        obtain ⟨fn, tmps, assign, body, hy, hR⟩ := hY _ k (wr.drewN nq) (hJd _ _ hJs nq) (by rw [List.length_range]; exact hlt)
        unfold chv at hy
        rw [Nat.min_eq_right (by omega)] at hy
        gi_wp2
        refine hR.mono ?_
        rintro e W3 (⟨rfl, hJ3, hk3⟩ | ⟨rfl, hJx3⟩)
        · have hm3 : W3.cell? ⟨Bm, 0, none⟩ = some (.int .i64 64) := hk3.2.trans hm'
          have HK3 := Lib.hid hk3
          clear hk3
          gi_wp2
          go_roundw
          case rel => exact ⟨k + 1, by omega, by go_num, by rw [List.range_succ]; exact hJ3, HX.out.trans HK3.out⟩
          case measure => simp [intOf]; omega
        · gi_wp2
          refine bodyPost_ret (results_none rfl _ _ _) rfl ?_
          exact ⟨⟨_, rfl⟩, .inr ⟨_, trivial, hJx3⟩⟩
    · have hge : n ≤ 64 * k := by unfold chN at hlt; omega
      obtain rfl : k = chN n := by omega
      gi_wp2
      go_end0
      exact ⟨⟨_, rfl⟩, .inl ⟨_, rfl, hJs⟩⟩
set_option maxRecDepth 100000 in
set_option maxHeartbeats 1000000 in
theorem chunk1_nil (nn : Nat) (l Bs Bm : Nat) (A : Option Addr) (c : Nat) (J : List Nat → World → Prop) (W : World) (hs : W.cell? ⟨Bs, 0, none⟩ = some (.slice A 0 c)) (h0 : J [] W) :
    CallsIn Fence.wide nn Tryz.prog 16 #[.func (.yield l) #[] #[], .pointer (some ⟨Bs, 0, none⟩), .pointer (some ⟨Bm, 0, none⟩)] W fun e W' => (∃ v, e = .returned v) ∧ J [] W' := by
  refine callsIn_of_wp Tryz.func16 rfl trivial ?_ rfl
  simp only [Tryz.ntmps16, List.size_toArray, List.length_cons, List.length_nil, Nat.reduceAdd, Nat.reduceSub, Array.replicate_succ, Array.replicate_zero, List.push_toArray, List.append_toArray, List.nil_append, List.cons_append]
  gi_wp2
  gi_loopw [4] (fun i wr => i = .int .i64 0 ∧ wr.cell? ⟨Bs, 0, none⟩ = some (.slice A 0 c) ∧ J [] wr) (fun _ _ => 0)
  case atStart => exact ⟨rfl, hs, h0⟩
  case round =>
    obtain ⟨rfl, hs', hJs⟩ := hrel
    gi_wp2
    go_end0
    exact ⟨⟨_, rfl⟩, hJs⟩

/-- The k-th chunk of a row of the call's own. -/
def chw (v : Value) (n k : Nat) : Value := match v with
  | .slice (some a) _ _ => chv a.block n k
  | _ => .slice none 0 0
theorem chunk_stops (nn : Nat) (hn1 : 1 ≤ nn) (Bs Bm base : Nat) (v : Value) (n : Nat) (xs : List Value) (w : World) (hown : w.ownsRow base 25 2 v n xs) (hlen : n * 24 ≤ 140737488355328) (hBs : Bs < w.heap.size) (hBm : Bm < w.heap.size)
    (hs : w.cell? ⟨Bs, 0, none⟩ = some v) (hm : w.cell? ⟨Bm, 0, none⟩ = some (.int .i64 64)) :
    SeqStopsK Fence.wide nn Tryz.prog 16 #[.pointer (some ⟨Bs, 0, none⟩), .pointer (some ⟨Bm, 0, none⟩)] (fun k : Nat => #[chw v n k]) (KpC Bs Bm) (fun ys => ys = List.range (chN n)) (fun _ => True) (chN n) w := fun l J Jx W hW hJ hJx hY h0 => by
  have hs' := (hW.cell (p := ⟨Bs, 0, none⟩) hBs).trans hs
  have hm' := (hW.cell (p := ⟨Bm, 0, none⟩) hBm).trans hm
  have nil : ∀ A c, v = .slice A 0 c → n = 0 → CallsIn Fence.wide nn Tryz.prog 16 (#[.func (.yield l) #[] #[]] ++ #[.pointer (some ⟨Bs, 0, none⟩), .pointer (some ⟨Bm, 0, none⟩)]) W fun e W' => (∃ v, e = .returned v) ∧ ((∃ ys, ys = List.range (chN n) ∧ J ys W') ∨ (∃ pre, True ∧ Jx pre W')) := by
    rintro A c rfl rfl
    exact (chunk1_nil nn l Bs Bm A c J W hs' h0).mono fun e W' ⟨he, hj⟩ => ⟨he, .inl ⟨_, rfl, hj⟩⟩
  rcases hown.2 with ⟨h, hz⟩ | ⟨g, cap, cur, rfl, _, _, hnc, _⟩
  · exact nil _ _ h hz
  · by_cases hn : 0 < n
    · exact chunk1_some nn hn1 l Bs Bm g n cap hn hnc hlen J Jx (fun pre W1 h q => hJ pre W1 (W1.drewN q) none h ⟨rfl, rfl, rfl, Nat.le_refl _, fun _ _ _ => rfl⟩ (fun r e => by cases e)) hY W hs' hm' h0
    · obtain rfl : n = 0 := by omega
      exact nil _ _ rfl rfl

end Go.Proofs.YtjimglfeiceepaaGreatDoor
