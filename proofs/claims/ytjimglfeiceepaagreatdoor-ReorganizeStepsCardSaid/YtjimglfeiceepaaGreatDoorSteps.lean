/-
  The walk of reorganize.Steps: for every list of at most 140737488351232 bytes it gives the lists that the plain function stepsL names.
-/
import Derived.Test.YtjimglfeiceepaaGreatDoorIn
import Derived.Deep.RegionLaw
namespace Go.Proofs.YtjimglfeiceepaaGreatDoor
open Go.RowKit Go.Shelf
attribute [local go_sem] Oper.semAt_some

theorem keeps_of_below {W w1 : World} (h : Below W.heap.size W w1) : KeepsOthers W w1 :=
  KeepsOthers.of_grownBy (row := none) ⟨h.os, h.tape, h.output, h.size, fun i hi _ => h.block i hi⟩ (fun j o e => by cases e)
theorem outs_start {w wr : World} {vz vr : Value} {zs rs : List SW} (h : Parted w w.heap.size wr vz vr zs rs) :
    Outs w wr.heap.size vz vr zs rs (.slice none 0 0) [] (((wr.alloc (.cells #[.slice none 0 0] 26)).alloc (.cells #[vr] 22)).alloc (.cells #[.int .i64 64] 3)) [] := by
  have hs := h.b.size
  refine ⟨((Boxed.new wr _ _).alloc _).alloc _, World.ownsRow_nil _ _ _ _, rfl, fun j x p hx => by simp at hx, ((h.z.alloc _).alloc _).alloc _, ((h.r.alloc _).alloc _).alloc _, fun k e => (h.z.lt k e).2, ((h.b.alloc hs _).alloc (by simp; omega) _).alloc (by simp; omega) _, hs, by simp⟩
theorem start_cells (wr : World) (v0 vr : Value) (t0 t1 t2 : TypeId) (m : Value) :
    (((wr.alloc (.cells #[v0] t0)).alloc (.cells #[vr] t1)).alloc (.cells #[m] t2)).cell? ⟨wr.heap.size + 1, 0, none⟩ = some vr ∧
    (((wr.alloc (.cells #[v0] t0)).alloc (.cells #[vr] t1)).alloc (.cells #[m] t2)).cell? ⟨wr.heap.size + 1 + 1, 0, none⟩ = some m := by
  have h1 := (Boxed.new (wr.alloc (.cells #[v0] t0)) t1 vr).alloc (.cells #[m] t2)
  have h2 := Boxed.new ((wr.alloc (.cells #[v0] t0)).alloc (.cells #[vr] t1)) t2 m
  rw [World.size_alloc] at h1
  rw [World.size_alloc, World.size_alloc] at h2
  exact ⟨h1.cell, h2.cell⟩

set_option maxRecDepth 100000 in
set_option maxHeartbeats 2000000 in
theorem steps_any (A : Option Addr) (n c : Nat) (l : List SW) (w : World) (hin : InSW w w.heap.size A n l) (hn : n * 24 ≤ 140737488351232) :
    Calls Tryz.prog 5 #[.slice A n c] w fun e w' => ∃ v, e = .returned v ∧ ReadsLL w' v (stepsL (heads l) (others l)) ∧ Below w.heap.size w w' := by
  obtain ⟨i0, hi, hz0, hz1, hz2⟩ := info_parts infoSW
  obtain ⟨j0, hj, hy0, hy1, hy2⟩ := info_parts infoSL
  have HJ : Hid (Tryz.prog.info? 22 = some j0) := hj
  clear hj
  have HI : Hid (Tryz.prog.info? 25 = some i0) := hi
  have HIn := Lib.hid hin
  have hnl : l.length = n := hin.1
  have HL := Lib.hid hnl
  clear hin hi hnl
  refine (callsIn_wide (n := 9)).1 ?_
  refine callsIn_of_wp_marks Tryz.func5 rfl trivial ?_ rfl
  simp only [Tryz.ntmps5, List.size_toArray, List.length_cons, List.length_nil, Nat.reduceAdd, Nat.reduceSub, Array.replicate_succ, Array.replicate_zero, List.push_toArray, List.append_toArray, List.nil_append, List.cons_append]
  refine wpIn_wide.2 ?_
  go_wp2_with fail
  go_loopw [3, 4, 12] (fun z r i wr => ∃ k : Nat, k ≤ n ∧ i = .int .i64 k ∧ Parted w w.heap.size wr z r (heads (l.take k)) (others (l.take k))) (fun _ _ i _ => n - (intOf i).toNat)
  case atStart => exact ⟨0, Nat.zero_le _, rfl, World.ownsRow_nil _ _ _ _, World.ownsRow_nil _ _ _ _, .inl rfl, Below.refl _ _⟩
  case round =>
    obtain ⟨k, hk, rfl, hP⟩ := hrel
    by_cases hlt : k < n
    · have hkl : k < l.length := by rw [HL.out]; exact hlt
      obtain ⟨b, off, rfl, hbB, hcells⟩ := HIn.out.2 (by omega)
      have hc0 := (hP.b.cell (p := ⟨b, off + k * 2, none⟩) hbB).trans (hcells k hkl).1
      have hc1 := (hP.b.cell (p := ⟨b, off + k * 2 + 1, none⟩) hbB).trans (hcells k hkl).2
      have HC := Lib.hid hcells
      have HZ := Lib.hid (heads_snoc l k hkl)
      have HO := Lib.hid (others_snoc l k hkl)
      have hzl := heads_le l k
      have hol := others_le l k
      clear hcells
      have HPP := Lib.hid hP
      have hsz := hP.b.size
      clear hP
      generalize heads (l.take k) = zs at *
      generalize others (l.take k) = rs at *
      generalize l[k] = x at *
      have HP2 := Lib.hid ((HPP.out.alloc hsz (.cells #[.int .i64 x.1, .string x.2] 25)).alloc (by simp; omega) (.cells #[.int .i64 x.1, .string x.2] 25))
      have HN0 := Reads.new (wr.alloc (.cells #[.int .i64 x.1, .string x.2] 25)) [.int .i64 x.1, .string x.2] 25 2 1 rfl
      rw [World.size_alloc] at HN0
      have HN := Lib.hid HN0
      clear HN0
      have H1 : Hid (∀ u ∈ [Value.int .i64 x.1, .string x.2], u.oneCell' = true) := by
        intro u hu
        rcases List.mem_cons.1 hu with rfl | hu
        · rfl
        · rw [List.mem_singleton] at hu; subst hu; rfl
      by_cases hx : (x.1 == 0) = true
      · have hx' : (x.1 == 0) = true := hx
        go_wp2_with (at_builtin; go_must (refine wpList_append_any _ rfl _ _ 22 rfl w.heap.size 25 i0 _ 2 24 Tryz.underlying22 HI.out hz0 hz1 hz2 rfl (by decide) _ zs.length (swc zs) rfl HP2.out.z _ (some ⟨wr.heap.size + 1, 0, none⟩) 1 1 [.int .i64 x.1, .string x.2] rfl HN.out H1.out (by simp only [maxLen]; omega) (by omega) (by have := hsz; simp; omega) ?_; intro v1 w1 ho1 hg1 hat1))
        go_roundw
        case rel => exact ⟨k + 1, by omega, by go_num, by rw [HZ.out, HO.out, if_pos hx, if_pos hx, List.append_nil]; exact HP2.out.putz (by simp; omega) ho1 hg1 hat1⟩
        case measure => simp [intOf]; omega
      · have hx' : (x.1 == 0) = false := by simpa using hx
        go_wp2_with (at_builtin; go_must (refine wpList_append_any _ rfl _ _ 22 rfl w.heap.size 25 i0 _ 2 24 Tryz.underlying22 HI.out hz0 hz1 hz2 rfl (by decide) _ rs.length (swc rs) rfl HP2.out.r _ (some ⟨wr.heap.size + 1, 0, none⟩) 1 1 [.int .i64 x.1, .string x.2] rfl HN.out H1.out (by simp only [maxLen]; omega) (by omega) (by have := hsz; simp; omega) ?_; intro v1 w1 ho1 hg1 hat1))
        go_roundw
        case rel => exact ⟨k + 1, by omega, by go_num, by rw [HZ.out, HO.out, if_neg hx, if_neg hx, List.append_nil]; exact HP2.out.putr (by simp; omega) ho1 hg1 hat1⟩
        case measure => simp [intOf]; omega
    · obtain rfl : k = n := by omega
      have e0 : l.take k = l := List.take_of_length_le (by rw [HL.out]; exact Nat.le_refl _)
      rw [e0] at hP
      clear e0 hk hlt HIn
      have hzl : (heads l).length ≤ k := by have := List.length_filter_le (fun x : SW => x.1 == 0) l; rw [HL.out] at this; exact this
      have hol : (others l).length ≤ k := by have := List.length_filter_le (fun x : SW => !(x.1 == 0)) l; rw [HL.out] at this; exact this
      generalize hzs : heads l = zs at *
      generalize hrs : others l = rs at *
      have HZS := Lib.hid hzs
      have HRS := Lib.hid hrs
      clear hzs hrs
      obtain ⟨A', cr, rfl⟩ : ∃ A' cr, u4 = .slice A' rs.length cr := by
        rcases hP.r.2 with ⟨h, h0⟩ | ⟨g, cap, cur, h, _⟩
        · exact ⟨none, 0, by rw [h, h0]⟩
        · exact ⟨_, cap, h⟩
      obtain ⟨Az, cz, rfl⟩ : ∃ Az cz, u3 = .slice Az zs.length cz := by
        rcases hP.z.2 with ⟨h, h0⟩ | ⟨g, cap, cur, h, _⟩
        · exact ⟨none, 0, by rw [h, h0]⟩
        · exact ⟨_, cap, h⟩
      have HP := Lib.hid hP
      have hsz := hP.b.size
      clear hP HL
      go_wp2_with (first | (go_at_call 9; refine (chunk_any _ _ _ _ (by omega) _).mono ?_; rintro e w1 ⟨rfl, rfl⟩))
      have hO0 := outs_start HP.out
      have hcs := start_cells wr (.slice none 0 0) (.slice A' rs.length cr) 26 22 3 (.int .i64 64)
      have hs0 : (((wr.alloc (.cells #[.slice none 0 0] 26)).alloc (.cells #[.slice A' rs.length cr] 22)).alloc (.cells #[.int .i64 64] 3)).heap.size = wr.heap.size + 3 := by simp
      generalize (((wr.alloc (.cells #[.slice none 0 0] 26)).alloc (.cells #[.slice A' rs.length cr] 22)).alloc (.cells #[.int .i64 64] 3)) = W0 at *
      refine (wpIn_wide (n := 9)).1 ?_
      refine wpIn_rangeFunc_ownF rfl (by omega) (gf := 16) (lb := #[.pointer (some ⟨wr.heap.size + 1, 0, none⟩), .pointer (some ⟨wr.heap.size + 1 + 1, 0, none⟩)]) rfl trivial (enters_of Tryz.func16 (by kernel_rfl) rfl)
        (chunk_stops (9 - 1) (by omega) (wr.heap.size + 1) (wr.heap.size + 1 + 1) w.heap.size (.slice A' rs.length cr) rs.length (swc rs) W0 hO0.r (by omega) (by omega) (by omega) hcs.1 hcs.2)
        (fun h k => h.trans k) (fun W l o o' hl h ho _ => ?kb) (Below.refl _ _) (fun _ => rfl)
        (fun pre W => ∃ v vals, Outs w wr.heap.size (.slice Az zs.length cz) (.slice A' rs.length cr) zs rs v vals W pre)
        (fun _ _ _ => False)
        ?own (fun _ _ _ _ _ hs _ _ => hs)
        ⟨_, _, hO0⟩
        (fun x => { tmps := #[.slice A k c, undef, .slice none 0 0, .slice Az zs.length cz, .slice A' rs.length cr, undef, u6, .pointer (some ⟨wr.heap.size, 0, none⟩), chw (.slice A' rs.length cr) rs.length x, undef, .slice A k c, .int .i64 k, .int .i64 k, .bool false, u14, u15, u16, u17, u18, u19, u20, u21, u22, u23, u24, u25, u26, u27, .slice A' rs.length cr, .func (.func 16) #[] #[.pointer (some ⟨wr.heap.size + 1, 0, none⟩), .pointer (some ⟨wr.heap.size + 1 + 1, 0, none⟩)], chw (.slice A' rs.length cr) rs.length x, undef, undef, undef, undef, undef, undef, undef, undef, undef, undef, undef, undef, undef, undef, undef, undef, undef, undef, undef, undef, undef, undef, undef, undef, undef, undef, undef, undef, undef, undef, undef, undef, undef, undef, undef, undef, undef, undef, undef, undef], defers := [] }) ?assign ?body ?done ?stop
      case kb =>
        exact ⟨World.cell?_of_block (a := ⟨wr.heap.size + 1, 0, none⟩) (World.putObj_heap_other (by show wr.heap.size + 1 ≠ l; omega)), World.cell?_of_block (a := ⟨wr.heap.size + 1 + 1, 0, none⟩) (World.putObj_heap_other (by show wr.heap.size + 1 + 1 ≠ l; omega))⟩
      case own => rw [hs0]; exact outs_own _ _ _ _ _ _
      case assign =>
        intro l x W K hK
        gi_wp2
        exact hK
      case body =>
        rintro l pre x W ⟨v, vals, hO⟩ hlt
        have hrl : 0 < rs.length := by unfold chN at hlt; omega
        obtain ⟨g, cap, hv, _⟩ := hO.r.form hrl
        obtain rfl : A' = some ⟨g, 0, none⟩ := by injection hv
        clear hv
        have hch : chw (.slice (some ⟨g, 0, none⟩) rs.length cr) rs.length x = .slice (some ⟨g, 64 * x * 2, none⟩) (min 64 (rs.length - 64 * x)) (min 64 (rs.length - 64 * x)) := rfl
        have HRd := Lib.hid (chunk_reads hO.r x)
        have hvl : vals.length ≤ rs.length := by have h1 := hO.len; have h2 := hlt; unfold chN at h2; omega
        have hcb : W.cell? ⟨wr.heap.size, 0, none⟩ = some v := hO.box.cell
        have hfb : W.frozen? ⟨wr.heap.size, 0, none⟩ = false := hO.box.frozen
        have hNW := hO.hN
        have HOO := Lib.hid hO
        clear hO hcs hlt
        rw [hch]
        clear hch
        have hm64 : min 64 (rs.length - 64 * x) ≤ 64 := Nat.min_le_left _ _
        generalize hmm : min 64 (rs.length - 64 * x) = m at *
        have HCL : Hid ((chL rs x).length = m) := by
          show (chL rs x).length = m
          rw [chL_length]; exact hmm
        clear hmm
        have hmx : Tryz.prog.follows .mixedOrders = true := by kernel_rfl
        gi_wp2
        refine wpIn_region_any hmx ?_
        change wpAnyIn _ _ _ _ _ _ _ _ _ (World.drew _)
        refine wpAnyIn_ready (rs := [0, 1]) (by kernel_rfl) (by simp) ?_
        refine AllReadyIn.cons rfl (fun K hK => ?_) (AllReadyIn.cons rfl (fun K hK => ?_) AllReadyIn.nil)
        · skip
          go_simp
          refine hK _ _ ?_
          clear hK K
          refine wpAnyIn_ready (rs := [1]) (by kernel_rfl) (by simp) ?_
          refine AllReadyIn.cons rfl (fun K hK => ?_) AllReadyIn.nil
          · skip
            go_simp
            refine hK _ _ ?_
            clear hK K
            refine wpAnyIn_ready (rs := [2]) (by kernel_rfl) (by simp) ?_
            refine AllReadyIn.cons rfl (fun K hK => ?_) AllReadyIn.nil
            · skip
              go_simp
              refine ⟨trivial, ?_⟩
              refine (CallsIn.inRound l (callsIn_wide.2 (clone_some ⟨g, 64 * x * 2, none⟩ m m (swc (chL rs x)) W.drew W.heap.size HRd.out (Nat.le_refl _) (swc_one _) (by omega)))).mono ?_
              rintro e w1 ⟨⟨v1, rfl, ho1⟩, hb1⟩
              obtain ⟨A1, c1, rfl⟩ := own_slice ho1
              have hc1 := (hb1.cell (p := ⟨wr.heap.size, 0, none⟩) (by show wr.heap.size < W.heap.size; omega)).trans hcb
              have hl1 : wr.heap.size < w1.heap.size := by have := hb1.size; simp at this; omega
              have hca : ∀ o, (w1.alloc o).cell? ⟨wr.heap.size, 0, none⟩ = some v := fun o => (World.cell?_alloc_lt w1 o _ hl1).trans hc1
              refine hK _ _ ?_
              clear hK K
              refine wpAnyIn_ready (rs := [3]) (by kernel_rfl) (by simp) ?_
              refine AllReadyIn.cons rfl (fun K hK => ?_) AllReadyIn.nil
              · skip
                go_simp
                refine hK _ _ ?_
                clear hK K
                refine wpAnyIn_ready (rs := [4]) (by kernel_rfl) (by simp) ?_
                refine AllReadyIn.cons rfl (fun K hK => ?_) AllReadyIn.nil
                · skip
                  refine stepIn_append_own _ rfl _ _ 26 rfl (wr.heap.size + 3) 22 j0 _ 1 24 Tryz.underlying26 HJ.out hy0 hy1 hy2 rfl (by decide) v vals.length vals rfl ((own_below HOO.out.out ((Below.refl _ _).drew.trans hb1)).alloc _) ⟨w1.heap.size, 0, none⟩ 1 1 [.slice A1 m c1] rfl rfl (cell_one_new _ _ _) (by simp [Value.oneCell']) (by simp only [maxLen]; omega) (by omega) (by have := hb1.size; simp at this ⊢; omega) ?_
                  intro v2 w2 ho2 hg2
                  obtain ⟨hbx, hko, hkp, hou⟩ := HOO.out.collected x ((Below.refl _ _).drew.trans hb1) ((KeepsOthers.drew W).trans (keeps_of_below hb1)) (by rw [HCL.out]; exact ho1) ho2 hg2
                  have hc2 := hbx.cell
                  have hf2 := hbx.frozen
                  obtain ⟨g2, cap2, rfl⟩ := ownsRow_succ ho2
                  refine hK _ _ ?_
                  clear hK K
                  refine wpAnyIn_ready (rs := [5]) (by kernel_rfl) (by simp) ?_
                  refine AllReadyIn.cons rfl (fun K hK => ?_) AllReadyIn.nil
                  · skip
                    go_simp
                    refine hK _ _ ?_
                    clear hK K
                    refine wpAnyIn_done (by kernel_rfl) ?_ _
                    exact ⟨hko, hkp, _, _, hou⟩
        · skip
          go_simp
          refine hK _ _ ?_
          clear hK K
          refine wpAnyIn_ready (rs := [0, 2]) (by kernel_rfl) (by simp) ?_
          refine AllReadyIn.cons rfl (fun K hK => ?_) (AllReadyIn.cons rfl (fun K hK => ?_) AllReadyIn.nil)
          · skip
            go_simp
            refine hK _ _ ?_
            clear hK K
            refine wpAnyIn_ready (rs := [2]) (by kernel_rfl) (by simp) ?_
            refine AllReadyIn.cons rfl (fun K hK => ?_) AllReadyIn.nil
            · skip
              go_simp
              refine ⟨trivial, ?_⟩
              refine (CallsIn.inRound l (callsIn_wide.2 (clone_some ⟨g, 64 * x * 2, none⟩ m m (swc (chL rs x)) W.drew W.heap.size HRd.out (Nat.le_refl _) (swc_one _) (by omega)))).mono ?_
              rintro e w1 ⟨⟨v1, rfl, ho1⟩, hb1⟩
              obtain ⟨A1, c1, rfl⟩ := own_slice ho1
              have hc1 := (hb1.cell (p := ⟨wr.heap.size, 0, none⟩) (by show wr.heap.size < W.heap.size; omega)).trans hcb
              have hl1 : wr.heap.size < w1.heap.size := by have := hb1.size; simp at this; omega
              have hca : ∀ o, (w1.alloc o).cell? ⟨wr.heap.size, 0, none⟩ = some v := fun o => (World.cell?_alloc_lt w1 o _ hl1).trans hc1
              refine hK _ _ ?_
              clear hK K
              refine wpAnyIn_ready (rs := [3]) (by kernel_rfl) (by simp) ?_
              refine AllReadyIn.cons rfl (fun K hK => ?_) AllReadyIn.nil
              · skip
                go_simp
                refine hK _ _ ?_
                clear hK K
                refine wpAnyIn_ready (rs := [4]) (by kernel_rfl) (by simp) ?_
                refine AllReadyIn.cons rfl (fun K hK => ?_) AllReadyIn.nil
                · skip
                  refine stepIn_append_own _ rfl _ _ 26 rfl (wr.heap.size + 3) 22 j0 _ 1 24 Tryz.underlying26 HJ.out hy0 hy1 hy2 rfl (by decide) v vals.length vals rfl ((own_below HOO.out.out ((Below.refl _ _).drew.trans hb1)).alloc _) ⟨w1.heap.size, 0, none⟩ 1 1 [.slice A1 m c1] rfl rfl (cell_one_new _ _ _) (by simp [Value.oneCell']) (by simp only [maxLen]; omega) (by omega) (by have := hb1.size; simp at this ⊢; omega) ?_
                  intro v2 w2 ho2 hg2
                  obtain ⟨hbx, hko, hkp, hou⟩ := HOO.out.collected x ((Below.refl _ _).drew.trans hb1) ((KeepsOthers.drew W).trans (keeps_of_below hb1)) (by rw [HCL.out]; exact ho1) ho2 hg2
                  have hc2 := hbx.cell
                  have hf2 := hbx.frozen
                  obtain ⟨g2, cap2, rfl⟩ := ownsRow_succ ho2
                  refine hK _ _ ?_
                  clear hK K
                  refine wpAnyIn_ready (rs := [5]) (by kernel_rfl) (by simp) ?_
                  refine AllReadyIn.cons rfl (fun K hK => ?_) AllReadyIn.nil
                  · skip
                    go_simp
                    refine hK _ _ ?_
                    clear hK K
                    refine wpAnyIn_done (by kernel_rfl) ?_ _
                    exact ⟨hko, hkp, _, _, hou⟩
          · skip
            go_simp
            refine ⟨trivial, ?_⟩
            refine (CallsIn.inRound l (callsIn_wide.2 (clone_some ⟨g, 64 * x * 2, none⟩ m m (swc (chL rs x)) W.drew W.heap.size HRd.out (Nat.le_refl _) (swc_one _) (by omega)))).mono ?_
            rintro e w1 ⟨⟨v1, rfl, ho1⟩, hb1⟩
            obtain ⟨A1, c1, rfl⟩ := own_slice ho1
            have hc1 := (hb1.cell (p := ⟨wr.heap.size, 0, none⟩) (by show wr.heap.size < W.heap.size; omega)).trans hcb
            have hl1 : wr.heap.size < w1.heap.size := by have := hb1.size; simp at this; omega
            have hca : ∀ o, (w1.alloc o).cell? ⟨wr.heap.size, 0, none⟩ = some v := fun o => (World.cell?_alloc_lt w1 o _ hl1).trans hc1
            refine hK _ _ ?_
            clear hK K
            refine wpAnyIn_ready (rs := [0, 3]) (by kernel_rfl) (by simp) ?_
            refine AllReadyIn.cons rfl (fun K hK => ?_) (AllReadyIn.cons rfl (fun K hK => ?_) AllReadyIn.nil)
            · skip
              go_simp
              refine hK _ _ ?_
              clear hK K
              refine wpAnyIn_ready (rs := [3]) (by kernel_rfl) (by simp) ?_
              refine AllReadyIn.cons rfl (fun K hK => ?_) AllReadyIn.nil
              · skip
                go_simp
                refine hK _ _ ?_
                clear hK K
                refine wpAnyIn_ready (rs := [4]) (by kernel_rfl) (by simp) ?_
                refine AllReadyIn.cons rfl (fun K hK => ?_) AllReadyIn.nil
                · skip
                  refine stepIn_append_own _ rfl _ _ 26 rfl (wr.heap.size + 3) 22 j0 _ 1 24 Tryz.underlying26 HJ.out hy0 hy1 hy2 rfl (by decide) v vals.length vals rfl ((own_below HOO.out.out ((Below.refl _ _).drew.trans hb1)).alloc _) ⟨w1.heap.size, 0, none⟩ 1 1 [.slice A1 m c1] rfl rfl (cell_one_new _ _ _) (by simp [Value.oneCell']) (by simp only [maxLen]; omega) (by omega) (by have := hb1.size; simp at this ⊢; omega) ?_
                  intro v2 w2 ho2 hg2
                  obtain ⟨hbx, hko, hkp, hou⟩ := HOO.out.collected x ((Below.refl _ _).drew.trans hb1) ((KeepsOthers.drew W).trans (keeps_of_below hb1)) (by rw [HCL.out]; exact ho1) ho2 hg2
                  have hc2 := hbx.cell
                  have hf2 := hbx.frozen
                  obtain ⟨g2, cap2, rfl⟩ := ownsRow_succ ho2
                  refine hK _ _ ?_
                  clear hK K
                  refine wpAnyIn_ready (rs := [5]) (by kernel_rfl) (by simp) ?_
                  refine AllReadyIn.cons rfl (fun K hK => ?_) AllReadyIn.nil
                  · skip
                    go_simp
                    refine hK _ _ ?_
                    clear hK K
                    refine wpAnyIn_done (by kernel_rfl) ?_ _
                    exact ⟨hko, hkp, _, _, hou⟩
            · skip
              go_simp
              refine hK _ _ ?_
              clear hK K
              refine wpAnyIn_ready (rs := [0]) (by kernel_rfl) (by simp) ?_
              refine AllReadyIn.cons rfl (fun K hK => ?_) AllReadyIn.nil
              · skip
                go_simp
                refine hK _ _ ?_
                clear hK K
                refine wpAnyIn_ready (rs := [4]) (by kernel_rfl) (by simp) ?_
                refine AllReadyIn.cons rfl (fun K hK => ?_) AllReadyIn.nil
                · skip
                  refine stepIn_append_own _ rfl _ _ 26 rfl (wr.heap.size + 3) 22 j0 _ 1 24 Tryz.underlying26 HJ.out hy0 hy1 hy2 rfl (by decide) v vals.length vals rfl ((own_below HOO.out.out ((Below.refl _ _).drew.trans hb1)).alloc _) ⟨w1.heap.size, 0, none⟩ 1 1 [.slice A1 m c1] rfl rfl (cell_one_new _ _ _) (by simp [Value.oneCell']) (by simp only [maxLen]; omega) (by omega) (by have := hb1.size; simp at this ⊢; omega) ?_
                  intro v2 w2 ho2 hg2
                  obtain ⟨hbx, hko, hkp, hou⟩ := HOO.out.collected x ((Below.refl _ _).drew.trans hb1) ((KeepsOthers.drew W).trans (keeps_of_below hb1)) (by rw [HCL.out]; exact ho1) ho2 hg2
                  have hc2 := hbx.cell
                  have hf2 := hbx.frozen
                  obtain ⟨g2, cap2, rfl⟩ := ownsRow_succ ho2
                  refine hK _ _ ?_
                  clear hK K
                  refine wpAnyIn_ready (rs := [5]) (by kernel_rfl) (by simp) ?_
                  refine AllReadyIn.cons rfl (fun K hK => ?_) AllReadyIn.nil
                  · skip
                    go_simp
                    refine hK _ _ ?_
                    clear hK K
                    refine wpAnyIn_done (by kernel_rfl) ?_ _
                    exact ⟨hko, hkp, _, _, hou⟩
      case done =>
        rintro D ys W hD rfl ⟨v, vals, hO⟩ hKD
        obtain ⟨Av, cv, rfl⟩ := own_slice hO.out
        have hvl : vals.length ≤ rs.length + 1 := by have h1 := hO.len; rw [List.length_range] at h1; unfold chN at h1; omega
        have hcb : W.cell? ⟨wr.heap.size, 0, none⟩ = some (.slice Av vals.length cv) := hO.box.cell
        have hfb : W.frozen? ⟨wr.heap.size, 0, none⟩ = false := hO.box.frozen
        have HO := Lib.hid hO
        have HD := Lib.hid hD
        have HKD := Lib.hid hKD
        clear hO hcs hD hKD hO0
        by_cases hz0' : zs.length = 0
        · have hzb : ((zs.length : Int) == 0) = true := by rw [hz0']; rfl
          have HZ0 := Lib.hid hz0'
          clear hz0'
          go_wp2
          refine ⟨by simp, .inl ⟨_, _, rfl, run_takeDeferred HKD.out, ?_⟩⟩
          have hg := grownBy_putObj' W D (.deferred none)
          have hnc : ∀ r, some D = some r → ∃ o : Obj, W.heap[r]? = some o ∧ o.isCells = false := fun r e => by cases e; exact ⟨_, HKD.out, rfl⟩
          refine ⟨_, results_tmp rfl _ _ _, _, rfl, ?_, ?_⟩
          · rw [HZS.out, HRS.out, stepsL, if_pos HZ0.out]
            exact (HO.out.rows.nc hg hnc).reads
          · exact HO.out.b.grown hg HO.out.b.size (fun k e => by cases e; have := HD.out; have := HO.out.wN; omega)
        · have hzb : ((zs.length : Int) == 0) = false := by rw [beq_eq_false_iff_ne]; omega
          have HPLUS := Lib.hid (fun w1 v1 ho hg => Outs.plus (w1 := w1) (v1 := v1) (D := D) HO.out ho hg (by have := HD.out; omega) HKD.out)
          have hNW := HO.out.hN
          have HRO := Lib.hid (HO.out.out.alloc (.cells #[.slice Az zs.length cz] 22))
          have HN := Lib.hid (Reads.new W [.slice Az zs.length cz] 22 1 1 rfl)
          have H1 : Hid (∀ u ∈ [Value.slice Az zs.length cz], u.oneCell' = true) := by
            intro u hu
            rw [List.mem_singleton] at hu; subst hu; rfl
          by_cases hv0 : vals.length = 0
          · have hlb : decide ((vals.length : Int) - 1 < 0) = true := by simp; omega
            have hv1 : vals.length ≤ 0 := by omega
            have HV0 := Lib.hid hv0
            clear hv0
            go_wp2_with (at_builtin; go_must (refine wpList_append_any _ rfl _ _ 26 rfl (wr.heap.size + 3) 22 j0 _ 1 24 Tryz.underlying26 HJ.out hy0 hy1 hy2 rfl (by decide) _ vals.length vals rfl HRO.out _ (some ⟨W.heap.size, 0, none⟩) 1 1 [.slice Az zs.length cz] rfl HN.out H1.out (by simp only [maxLen]; omega) (by omega) (by simp; omega) ?_; intro v1 w1 ho1 hg1 _; obtain ⟨hbx, hrw, hbl, hdd⟩ := HPLUS.out w1 v1 ho1 hg1; have hc2 := hbx.cell; have hf2 := hbx.frozen; obtain ⟨g2, cap2, rfl⟩ := ownsRow_succ ho1))
            refine ⟨by simp, .inl ⟨_, _, rfl, run_takeDeferred hdd, ?_⟩⟩
            have hgD := grownBy_putObj' (w1.setCell ⟨wr.heap.size, 0, none⟩ (.slice (some ⟨g2, 0, none⟩) (vals.length + 1) cap2)) D (.deferred none)
            refine ⟨_, results_tmp rfl _ _ _, _, rfl, ?_, ?_⟩
            · rw [HZS.out, HRS.out, stepsL_first _ _ (by omega) (by have := HV0.out; have := HO.out.len; rw [List.length_range] at this; omega)]
              exact (hrw.nc hgD (fun r e => by cases e; exact ⟨_, hdd, rfl⟩)).reads
            · exact hbl.grown hgD hbl.size (fun k e => by cases e; have := HD.out; have := HO.out.wN; omega)
          · have hlb : decide ((vals.length : Int) - 1 < 0) = false := by simp; omega
            obtain ⟨gv, capv, hv', _⟩ := HO.out.out.form (by omega)
            obtain rfl : Av = some ⟨gv, 0, none⟩ := by injection hv'
            clear hv'
            have hvN : vals.length = chN rs.length := by rw [HO.out.len, List.length_range]
            have HNZ : Hid (chN rs.length ≠ 0) := by show chN rs.length ≠ 0; omega
            have hlastlt : vals.length - 1 < vals.length := by omega
            obtain ⟨xl, hxl⟩ : ∃ xl, vals[vals.length - 1]? = some xl := ⟨_, List.getElem?_eq_getElem hlastlt⟩
            have hrl := HO.out.inner (vals.length - 1) xl (vals.length - 1) hxl (by rw [List.getElem?_range (by omega)])
            obtain ⟨Al, cl, rfl⟩ := own_slice hrl
            have hcl : W.cell? ⟨gv, vals.length - 1, none⟩ = some (.slice Al (chL rs (vals.length - 1)).length cl) := by
              rw [HO.out.out.cellAt (vals.length - 1) (by omega)]; exact hxl
            have hll : (chL rs (vals.length - 1)).length ≤ 64 := by rw [chL_length]; exact Nat.min_le_left _ _
            have HRL := Lib.hid hrl
            have HXL := Lib.hid hxl
            have HVN := Lib.hid hvN
            have hvp : 1 ≤ vals.length := by omega
            clear hrl hxl hvN hv0 hlastlt
            by_cases hb : 64 < (chL rs (vals.length - 1)).length + zs.length
            · have hbb : decide ((64 : Int) < ((chL rs (vals.length - 1)).length : Int) + (zs.length : Int)) = true := by simp; omega
              have HB : Hid (64 < (chL rs (chN rs.length - 1)).length + zs.length) := by show 64 < _; rw [← HVN.out]; exact hb
              clear hb
              go_wp2_with (at_builtin; go_must (refine wpList_append_any _ rfl _ _ 26 rfl (wr.heap.size + 3) 22 j0 _ 1 24 Tryz.underlying26 HJ.out hy0 hy1 hy2 rfl (by decide) _ vals.length vals rfl HRO.out _ (some ⟨W.heap.size, 0, none⟩) 1 1 [.slice Az zs.length cz] rfl HN.out H1.out (by simp only [maxLen]; omega) (by omega) (by simp; omega) ?_; intro v1 w1 ho1 hg1 _; obtain ⟨hbx, hrw, hbl, hdd⟩ := HPLUS.out w1 v1 ho1 hg1; have hc2 := hbx.cell; have hf2 := hbx.frozen; obtain ⟨g2, cap2, rfl⟩ := ownsRow_succ ho1))
              refine ⟨by simp, .inl ⟨_, _, rfl, run_takeDeferred hdd, ?_⟩⟩
              have hgD := grownBy_putObj' (w1.setCell ⟨wr.heap.size, 0, none⟩ (.slice (some ⟨g2, 0, none⟩) (vals.length + 1) cap2)) D (.deferred none)
              refine ⟨_, results_tmp rfl _ _ _, _, rfl, ?_, ?_⟩
              · rw [HZS.out, HRS.out, stepsL_full _ _ (by omega) HNZ.out HB.out]
                exact (hrw.nc hgD (fun r e => by cases e; exact ⟨_, hdd, rfl⟩)).reads
              · exact hbl.grown hgD hbl.size (fun k e => by cases e; have := HD.out; have := HO.out.wN; omega)
            · have hbb : decide ((64 : Int) < ((chL rs (vals.length - 1)).length : Int) + (zs.length : Int)) = false := by simp; omega
              have HB : Hid (¬ 64 < (chL rs (chN rs.length - 1)).length + zs.length) := by show ¬ 64 < _; rw [← HVN.out]; exact hb
              have hb' : (chL rs (vals.length - 1)).length + zs.length ≤ 64 := by omega
              clear hb
              have HJOIN := Lib.hid (fun w1 v1 ho hg => Outs.join (w1 := w1) (v1 := v1) (D := D) HO.out (by omega) HXL.out (vals.length - 1) (by rw [List.getElem?_range (by have := HVN.out; omega)]) ho hg HKD.out)
              have HZW : Hid (W.drew.ownsRow w.heap.size 25 2 (.slice Az zs.length cz) zs.length (swc zs)) := HO.out.z
              have HRW : Hid (Reads W.drew W.heap.size 2 Al (chL rs (vals.length - 1)).length (swc (chL rs (vals.length - 1)))) := Reads.of_own HRL.out
              have hsw := HO.out.b.size
              have hi1 : (1 : Int) ≤ (vals.length : Int) := by omega
              have hi2 : (vals.length : Int) - 1 < (vals.length : Int) := by omega
              go_wp2
              refine wp_normal ?_
              go_region_law (refine step_append_any _ rfl _ _ 22 rfl w.heap.size 25 i0 _ 2 24 Tryz.underlying22 HI.out hz0 hz1 hz2 rfl (by decide) _ zs.length (swc zs) rfl HZW.out W.heap.size Al (chL rs (vals.length - 1)).length cl (swc (chL rs (vals.length - 1))) rfl HRW.out (swc_one _) (by simp only [maxLen]; omega) (by omega) hsw ?_; intro v1 w1 ho1 hg1 hat1; obtain ⟨A1, c1, rfl⟩ := own_slice ho1; obtain ⟨hj0, hj1, hj2, hj3, hj4, hj5, hj6⟩ := HJOIN.out w1 _ ho1 ⟨hg1.os, hg1.tape, hg1.output, hg1.size, hg1.block⟩)
              all_goals
                simp only [onlyNormal]
                go_wp2
                refine ⟨by simp, .inl ⟨_, _, rfl, run_takeDeferred hj6, ?_⟩⟩
                have hgD := grownBy_putObj' (w1.setCell ⟨gv, vals.length - 1, none⟩ (.slice A1 (zs.length + (chL rs (vals.length - 1)).length) c1)) D (.deferred none)
                refine ⟨_, results_tmp rfl _ _ _, _, rfl, ?_, ?_⟩
                · rw [HZS.out, HRS.out, stepsL_join' _ _ (vals.length - 1) (by rw [HVN.out]) (by omega) HNZ.out HB.out]
                  exact (hj4.nc hgD (fun r e => by cases e; exact ⟨_, hj6, rfl⟩)).reads
                · exact hj5.grown hgD hj5.size (fun k e => by cases e; have := HD.out; have := HO.out.wN; omega)
      case stop =>
        rintro D q pre W _ _ h _
        exact h.elim
end Go.Proofs.YtjimglfeiceepaaGreatDoor
