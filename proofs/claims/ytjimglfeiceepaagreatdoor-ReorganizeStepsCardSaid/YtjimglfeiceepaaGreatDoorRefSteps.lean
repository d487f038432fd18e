/-
  The walk of dasdref29.Steps: for every list of at most 140737488351232 bytes it gives the same lists that stepsL names.
-/
import Derived.Test.YtjimglfeiceepaaGreatDoorIn
namespace Go.Proofs.YtjimglfeiceepaaGreatDoor
open Go.RowKit Go.Shelf

/-- Two empty rows. -/
theorem parted_start (w : World) : Parted w w.heap.size ((w.alloc (.cells #[] 25)).alloc (.cells #[] 25)) (.slice (some ⟨w.heap.size, 0, none⟩) 0 0) (.slice (some ⟨w.heap.size + 1, 0, none⟩) 0 0) [] [] := by
  have h0 := World.ownsRow_lit (base := w.heap.size) (e := 25) (size := 2) w #[] 0 (Nat.le_refl _) (by simp [maxLen]) (by simp)
  have h1 := World.ownsRow_lit (base := w.heap.size) (e := 25) (size := 2) (w.alloc (.cells #[] 25)) #[] 0 (by simp) (by simp [maxLen]) (by simp)
  rw [World.size_alloc] at h1
  exact ⟨h0.alloc _, h1, .inr (by simp [Value.ownBlock]), ((Below.refl _ _).alloc (Nat.le_refl _) _).alloc (by simp) _⟩

theorem Reads.pre {w : World} {B size n : Nat} {A : Option Addr} {xs : List Value} (h : Reads w B size A n xs) {m : Nat} (hm : m ≤ n) : Reads w B size A m (xs.take (m * size)) := by
  refine ⟨?_, fun h0 => ?_⟩
  · rw [List.length_take, h.1, Nat.min_eq_left (Nat.mul_le_mul_right _ hm)]
  · obtain ⟨ad, e, hb, hc⟩ := h.2 (by omega)
    refine ⟨ad, e, hb, fun j u hu => hc j u ?_⟩
    rw [List.getElem?_take] at hu
    split at hu
    · exact hu
    · cases hu

theorem one_slice (A : Option Addr) (n c : Nat) : ∀ u ∈ [Value.slice A n c], u.oneCell' = true := by
  intro u hu
  rw [List.mem_singleton] at hu
  subst hu
  rfl
/-- A row lives on where what turns is the block that was laid just now; and under one block more. -/
theorem ownsRow_other_block {wr : World} {b : Nat} {e : TypeId} {s n : Nat} {v : Value} {xs : List Value} {o : Obj} (h : wr.ownsRow b e s v n xs) (w1 : World) (x : Value) (hg : (wr.alloc o).grownBy w1 (some wr.heap.size)) :
    (w1.alloc (.cells #[x] 22)).ownsRow b e s v n xs := by
  refine ((h.alloc o).kept hg ?_).alloc _
  cases hv : v.ownBlock with
  | none => exact .inl rfl
  | some g => refine .inr fun e => ?_; have := (h.lt g hv).2; injection e with e; omega
def lenOf : Value → Nat
  | .slice _ n _ => n
  | _ => 0
/-- The state of the reference's second loop, k chunks cut off. -/
structure Cutting (w : World) (B2 : Nat) (zs rs : List SW) (Az : Option Addr) (wr : World) (k : Nat) (vo : Value) (vals : List Value) (Ar : Option Addr) : Prop where
  rd : Reads wr B2 2 Ar (rs.length - 64 * k) (swc (rs.drop (64 * k)))
  z : Reads wr B2 2 Az zs.length (swc zs)
  rows : Rows2 wr B2 vo vals ((List.range k).map (chL rs))
  b : Below w.heap.size w wr
  wB : w.heap.size ≤ B2
  hB : B2 ≤ wr.heap.size
  cond : ∀ j, j < k → 64 < rs.length - 64 * j + zs.length ∧ 0 < rs.length - 64 * j

theorem Cutting.step {w : World} {B2 : Nat} {zs rs : List SW} {Az : Option Addr} {wr w1 w2 : World} {k : Nat} {vo v1 v2 : Value} {vals : List Value} {Ar : Option Addr} (h : Cutting w B2 zs rs Az wr k vo vals Ar)
    (hc : 64 < rs.length - 64 * k + zs.length ∧ 0 < rs.length - 64 * k) {m c : Nat} (hm : m = min (rs.length - 64 * k) 64) (hcap : rs.length - 64 * k ≤ c)
    (ho1 : w1.ownsRow wr.heap.size 25 2 v1 m ((swc (rs.drop (64 * k))).take (m * 2))) (hg1 : (wr.alloc (.cells #[] 25)).grownBy w1 (some wr.heap.size))
    (ho2 : w2.ownsRow B2 22 1 v2 (vals.length + 1) (vals ++ [v1])) (hg2 : (w1.alloc (.cells #[v1] 22)).grownBy w2 vo.ownBlock) :
    Cutting w B2 zs rs Az w2 (k + 1) v2 (vals ++ [v1]) (if c = m then Ar else Ar.map (·.add (m * 2))) := by
  have hs := h.hB
  have hga : wr.grownBy w1 (some wr.heap.size) := World.grownBy.trans (World.grownBy_alloc wr _ _) hg1
  have hgb : w1.grownBy w2 vo.ownBlock := World.grownBy.trans (World.grownBy_alloc w1 _ _) hg2
  have hout1 : w1.ownsRow B2 22 1 vo vals.length vals := h.rows.out.kept hga (by
    cases hv : vo.ownBlock with
    | none => exact .inl rfl
    | some g => refine .inr fun e => ?_; have := (h.rows.out.lt g hv).2; injection e with e; omega)
  have hlow : ∀ g, vo.ownBlock = some g → B2 ≤ g := fun g e => (h.rows.out.lt g e).1
  have read : ∀ {A : Option Addr} {n : Nat} {xs : List Value}, Reads wr B2 2 A n xs → Reads w2 B2 2 A n xs := fun hr =>
    (hr.grown hga hs (fun g e => by injection e with e; omega)).grown hgb (by have := hga.size; omega) hlow
  have hlen : (chL rs k).length = m := by rw [chL_length, hm]; omega
  have hsw : (swc (rs.drop (64 * k))).take (m * 2) = swc (chL rs k) := by
    rw [show m * 2 = 2 * m by omega, swc_take, chL]
    congr 1
    rcases Nat.le_total (rs.length - 64 * k) 64 with h1 | h1
    · rw [List.take_of_length_le (by rw [List.length_drop]; omega), List.take_of_length_le (by rw [List.length_drop]; omega)]
    · rw [show m = 64 by omega]
  refine ⟨?_, read h.z, ⟨by rw [List.length_append]; exact ho2, by simp [h.rows.len], ?_⟩, ?_, h.wB, by have := hga.size; have := hgb.size; omega, ?_⟩
  · have hcut := (h.rd.cut (k := m) (by omega) hcap)
    rw [show m * 2 = 2 * m by omega, swc_drop, List.drop_drop] at hcut
    rcases Nat.le_total (rs.length - 64 * k) 64 with h1 | h1
    · have e1 : rs.length - 64 * (k + 1) = rs.length - 64 * k - m := by omega
      have e2 : rs.drop (64 * (k + 1)) = [] := List.drop_eq_nil_of_le (by omega)
      have e3 : rs.drop (64 * k + m) = [] := List.drop_eq_nil_of_le (by omega)
      rw [e3] at hcut
      rw [e1, e2, show m * 2 = 2 * m by omega]
      exact read hcut
    · have e1 : rs.length - 64 * (k + 1) = rs.length - 64 * k - m := by omega
      have e2 : 64 * (k + 1) = 64 * k + m := by omega
      rw [e1, e2, show m * 2 = 2 * m by omega]
      exact read hcut
  · intro j x l hx hl
    rw [List.range_succ, List.map_append, List.map_cons, List.map_nil] at hl
    have keep : ∀ {b : Nat} {u : Value} {n : Nat} {xs : List Value}, w1.ownsRow b 25 2 u n xs → w2.ownsRow b 25 2 u n xs :=
      fun hr => hr.kept hgb (own_types hr hout1 (by decide))
    rcases Nat.lt_or_ge j vals.length with hlt | hge
    · rw [List.getElem?_append_left hlt] at hx
      rw [List.getElem?_append_left (by rw [← h.rows.len]; exact hlt)] at hl
      have hi := h.rows.inner j x l hx hl
      refine keep (hi.kept hga ?_)
      cases hv : x.ownBlock with
      | none => exact .inl rfl
      | some g => refine .inr fun e => ?_; have := (hi.lt g hv).2; injection e with e; omega
    · rw [List.getElem?_append_right hge] at hx
      rw [List.getElem?_append_right (by rw [← h.rows.len]; exact hge)] at hl
      obtain ⟨hj1, rfl⟩ : j - vals.length = 0 ∧ v1 = x := by
        cases hq : j - vals.length with
        | zero => rw [hq] at hx; simp at hx; exact ⟨rfl, hx⟩
        | succ q => rw [hq] at hx; simp at hx
      rw [← h.rows.len, hj1] at hl
      obtain rfl : chL rs k = l := by simpa using hl
      rw [hsw] at ho1
      rw [hlen]
      exact keep (own_base ho1 hs)
  · exact (h.b.grown hga (by have := h.b.size; omega) (fun g e => by injection e with e; have := h.b.size; omega)).grown hgb (by have := h.b.size; have := hga.size; omega) (fun g e => by have := hlow g e; have := h.wB; omega)
  · intro j hj
    rcases Nat.lt_or_ge j k with h1 | h1
    · exact h.cond j h1
    · obtain rfl : j = k := by omega
      exact hc

theorem Cutting.outAt {w : World} {B2 : Nat} {zs rs : List SW} {Az : Option Addr} {wr w1 w2 : World} {k : Nat} {vo : Value} {vals : List Value} {Ar : Option Addr} (h : Cutting w B2 zs rs Az wr k vo vals Ar)
    {va vb : Option Nat} (hg1 : (wr.alloc (.cells #[] 25)).grownBy w1 va) (hg2 : w1.grownBy w2 vb) (ha : ∀ g, va = some g → wr.heap.size ≤ g) (hb : ∀ g, vb = some g → wr.heap.size ≤ g) (x : Value) :
    (w2.alloc (.cells #[x] 22)).ownsRow B2 22 1 vo vals.length vals := by
  have ne : ∀ {r : Option Nat}, (∀ g, r = some g → wr.heap.size ≤ g) → vo.ownBlock = none ∨ vo.ownBlock ≠ r := by
    intro r hr
    cases hv : vo.ownBlock with
    | none => exact .inl rfl
    | some g => refine .inr fun e => ?_; have := (h.rows.out.lt g hv).2; have := hr g e.symm; omega
  exact (((h.rows.out.alloc _).kept hg1 (ne ha)).kept hg2 (ne hb)).alloc _

theorem Cutting.finish {w : World} {B2 : Nat} {zs rs : List SW} {Az : Option Addr} {wr w1 w2 w3 : World} {k : Nat} {vo : Value} {vals : List Value} {Ar : Option Addr} (h : Cutting w B2 zs rs Az wr k vo vals Ar)
    {va vb : Option Nat} (hg1 : (wr.alloc (.cells #[] 25)).grownBy w1 va) (hg2 : w1.grownBy w2 vb) (ha : ∀ g, va = some g → wr.heap.size ≤ g) (hb : ∀ g, vb = some g → wr.heap.size ≤ g) {v2 v3 : Value}
    (ho2 : w2.ownsRow wr.heap.size 25 2 v2 (zs.length + (rs.length - 64 * k)) (swc zs ++ swc (rs.drop (64 * k))))
    (ho3 : w3.ownsRow B2 22 1 v3 (vals.length + 1) (vals ++ [v2])) (hg3 : (w2.alloc (.cells #[v2] 22)).grownBy w3 vo.ownBlock) :
    Rows2 w3 B2 v3 (vals ++ [v2]) ((List.range k).map (chL rs) ++ [zs ++ rs.drop (64 * k)]) ∧ Below w.heap.size w w3 := by
  have hs := h.hB
  have ga : wr.grownBy w1 va := World.grownBy.trans (World.grownBy_alloc wr _ _) hg1
  have gc : w2.grownBy w3 vo.ownBlock := World.grownBy.trans (World.grownBy_alloc w2 _ _) hg3
  have hout2 := h.outAt hg1 hg2 ha hb (.slice none 0 0)
  have hlow : ∀ g, vo.ownBlock = some g → B2 ≤ g := fun g e => (h.rows.out.lt g e).1
  have ne : ∀ {u : Value} {b n : Nat} {xs : List Value} {r : Option Nat}, wr.ownsRow b 25 2 u n xs → (∀ g, r = some g → wr.heap.size ≤ g) → u.ownBlock = none ∨ u.ownBlock ≠ r := by
    intro u b n xs r hu hr
    cases hv : u.ownBlock with
    | none => exact .inl rfl
    | some g => refine .inr fun e => ?_; have := (hu.lt g hv).2; have := hr g e.symm; omega
  have neo : ∀ {r : Option Nat}, (∀ g, r = some g → wr.heap.size ≤ g) → vo.ownBlock = none ∨ vo.ownBlock ≠ r := by
    intro r hr
    cases hv : vo.ownBlock with
    | none => exact .inl rfl
    | some g => refine .inr fun e => ?_; have := (h.rows.out.lt g hv).2; have := hr g e.symm; omega
  have ho : w2.ownsRow B2 22 1 vo vals.length vals := (h.rows.out.kept ga (neo ha)).kept hg2 (neo hb)
  refine ⟨⟨by rw [List.length_append]; exact ho3, by simp [h.rows.len], ?_⟩, ?_⟩
  · intro j x l hx hl
    rcases Nat.lt_or_ge j vals.length with hlt | hge
    · rw [List.getElem?_append_left hlt] at hx
      rw [List.getElem?_append_left (by rw [← h.rows.len]; exact hlt)] at hl
      have hi := h.rows.inner j x l hx hl
      have hi2 := (hi.kept ga (ne hi ha)).kept hg2 (ne hi hb)
      exact hi2.kept gc (own_types hi2 ho (by decide))
    · rw [List.getElem?_append_right hge] at hx
      rw [List.getElem?_append_right (by rw [← h.rows.len]; exact hge)] at hl
      obtain ⟨hj1, rfl⟩ : j - vals.length = 0 ∧ v2 = x := by
        cases hq : j - vals.length with
        | zero => rw [hq] at hx; simp at hx; exact ⟨rfl, hx⟩
        | succ q => rw [hq] at hx; simp at hx
      rw [← h.rows.len, hj1] at hl
      obtain rfl : zs ++ rs.drop (64 * k) = l := by simpa using hl
      rw [List.length_append, List.length_drop, swc_append]
      exact own_base (ho2.kept gc (own_types ho2 ho (by decide))) hs
  · have h1 := h.b.grown ga (by have := h.b.size; omega) (fun g e => by have := ha g e; have := h.b.size; omega)
    have h2 := h1.grown hg2 (by have := h1.size; omega) (fun g e => by have := hb g e; have := h.b.size; omega)
    exact h2.grown gc (by have := h2.size; omega) (fun g e => by have := hlow g e; have := h.wB; omega)

set_option maxRecDepth 100000 in
set_option maxHeartbeats 2000000 in
theorem refsteps_any (A : Option Addr) (n c : Nat) (l : List SW) (w : World) (hin : InSW w w.heap.size A n l) (hn : n * 24 ≤ 140737488351232) :
    Calls Tryz.prog 6 #[.slice A n c] w fun e w' => ∃ v, e = .returned v ∧ ReadsLL w' v (stepsL (heads l) (others l)) ∧ Below w.heap.size w w' := by
  obtain ⟨i0, hi, hz0, hz1, hz2⟩ := info_parts infoSW
  obtain ⟨j0, hj, hy0, hy1, hy2⟩ := info_parts infoSL
  have HJ : Hid (Tryz.prog.info? 22 = some j0) := hj
  clear hj
  have HI : Hid (Tryz.prog.info? 25 = some i0) := hi
  have HIn := Lib.hid hin
  have hnl : l.length = n := hin.1
  have HL := Lib.hid hnl
  clear hin hi hnl
  go_enter Tryz.func6, Tryz.ntmps6
  go_wp2_with fail
  go_loopw [3, 4, 5] (fun z r i wr => ∃ k : Nat, k ≤ n ∧ i = .int .i64 k ∧ Parted w w.heap.size wr z r (heads (l.take k)) (others (l.take k))) (fun _ _ i _ => n - (intOf i).toNat)
  case atStart => exact ⟨0, Nat.zero_le _, rfl, parted_start w⟩
  case round =>
    obtain ⟨k, hk, rfl, hP⟩ := hrel
    by_cases hlt : k < n
    · have hkl : k < l.length := by rw [HL.out]; exact hlt
      obtain ⟨b, off, rfl, hbB, hcells⟩ := HIn.out.2 (by omega)
      have hc0 := (hP.b.cell (p := ⟨b, off + k * 2, none⟩) hbB).trans (hcells k hkl).1
      have hc1 := (hP.b.cell (p := ⟨b, off + k * 2 + 1, none⟩) hbB).trans (hcells k hkl).2
      have HC := Lib.hid hcells
      have HZ := Lib.hid (heads_snoc l k hkl)
      have HO := Lib.hid (others_snoc l k hkl)
      have hzl := heads_le l k
      have hol := others_le l k
      clear hcells
      have HPP := Lib.hid hP
      have hsz := hP.b.size
      clear hP
      generalize heads (l.take k) = zs at *
      generalize others (l.take k) = rs at *
      generalize l[k] = x at *
      have HP2 := Lib.hid (HPP.out.alloc hsz (.cells #[.int .i64 x.1, .string x.2] 25))
      have HN := Lib.hid (Reads.new wr [.int .i64 x.1, .string x.2] 25 2 1 rfl)
      have H1 : Hid (∀ u ∈ [Value.int .i64 x.1, .string x.2], u.oneCell' = true) := by
        intro u hu
        rcases List.mem_cons.1 hu with rfl | hu
        · rfl
        · rw [List.mem_singleton] at hu; subst hu; rfl
      by_cases hx : (x.1 == 0) = true
      · have hx' : (x.1 == 0) = true := hx
        go_wp2_with (at_builtin; go_must (refine wpList_append_any _ rfl _ _ 22 rfl w.heap.size 25 i0 _ 2 24 Tryz.underlying22 HI.out hz0 hz1 hz2 rfl (by decide) _ zs.length (swc zs) rfl HP2.out.z _ (some ⟨wr.heap.size, 0, none⟩) 1 1 [.int .i64 x.1, .string x.2] rfl HN.out H1.out (by simp only [maxLen]; omega) (by omega) (by have := hsz; simp; omega) ?_; intro v1 w1 ho1 hg1 hat1))
        go_roundw
        case rel => exact ⟨k + 1, by omega, by go_num, by rw [HZ.out, HO.out, if_pos hx, if_pos hx, List.append_nil]; exact HP2.out.putz (by simp; omega) ho1 hg1 hat1⟩
        case measure => simp [intOf]; omega
      · have hx' : (x.1 == 0) = false := by simpa using hx
        go_wp2_with (at_builtin; go_must (refine wpList_append_any _ rfl _ _ 22 rfl w.heap.size 25 i0 _ 2 24 Tryz.underlying22 HI.out hz0 hz1 hz2 rfl (by decide) _ rs.length (swc rs) rfl HP2.out.r _ (some ⟨wr.heap.size, 0, none⟩) 1 1 [.int .i64 x.1, .string x.2] rfl HN.out H1.out (by simp only [maxLen]; omega) (by omega) (by have := hsz; simp; omega) ?_; intro v1 w1 ho1 hg1 hat1))
        go_roundw
        case rel => exact ⟨k + 1, by omega, by go_num, by rw [HZ.out, HO.out, if_neg hx, if_neg hx, List.append_nil]; exact HP2.out.putr (by simp; omega) ho1 hg1 hat1⟩
        case measure => simp [intOf]; omega
    · obtain rfl : k = n := by omega
      have e0 : l.take k = l := List.take_of_length_le (by rw [HL.out]; exact Nat.le_refl _)
      rw [e0] at hP
      clear e0 hk hlt HIn
      have hzl : (heads l).length ≤ k := by have := List.length_filter_le (fun x : SW => x.1 == 0) l; rw [HL.out] at this; exact this
      have hol : (others l).length ≤ k := by have := List.length_filter_le (fun x : SW => !(x.1 == 0)) l; rw [HL.out] at this; exact this
      generalize hzs : heads l = zs at *
      generalize hrs : others l = rs at *
      have HZS := Lib.hid hzs
      have HRS := Lib.hid hrs
      clear hzs hrs
      obtain ⟨A', cr, rfl⟩ := own_slice hP.r
      obtain ⟨Az, cz, rfl⟩ := own_slice hP.z
      have hsz := hP.b.size
      have hcr : rs.length ≤ cr := by
        rcases hP.r.2 with ⟨e, h0⟩ | ⟨g, cap, cur, e, _, _, hnc, _⟩
        · omega
        · injection e with e1 e2 e3; omega
      have HS : Hid (Cutting w wr.heap.size zs rs Az (wr.alloc (.cells #[] 22)) 0 (.slice (some ⟨wr.heap.size, 0, none⟩) 0 0) [] A') := by
        refine ⟨?_, (Reads.of_own hP.z).alloc (Nat.le_refl _) _, ⟨?_, rfl, fun j x l hx => by simp at hx⟩, hP.b.alloc hsz _, hsz, by simp, fun j hj => by omega⟩
        · have := (Reads.of_own hP.r).alloc (Nat.le_refl _) (.cells #[] 22)
          simpa using this
        · exact World.ownsRow_lit (base := wr.heap.size) (e := 22) (size := 1) wr #[] 0 (Nat.le_refl _) (by simp [maxLen]) (by simp)
      clear hP HL
      go_wp2_with fail
      obtain ⟨wo, rfl⟩ : ∃ wo : World, wo = wr := ⟨_, rfl⟩
      go_loopw [4, 6] (fun r o wr2 => ∃ (q : Nat) (vals : List Value) (Ar : Option Addr) (c : Nat), r = .slice Ar (rs.length - 64 * q) c ∧ rs.length - 64 * q ≤ c ∧ Cutting w wo.heap.size zs rs Az wr2 q o vals Ar) (fun r _ _ => lenOf r)
      case atStart => exact ⟨0, [], A', cr, rfl, hcr, HS.out⟩
      case round =>
        obtain ⟨q, vals, Ar, c2, rfl, hc2, hC⟩ := hrel
        obtain ⟨Av, cv, rfl⟩ := own_slice hC.rows.out
        have hql : vals.length = q := by rw [hC.rows.len, List.length_map, List.length_range]
        have hqb : q ≤ rs.length := by
          rcases Nat.eq_zero_or_pos q with h0 | h0
          · omega
          · have := (hC.cond (q - 1) (by omega)).2; omega
        have hvb : vals.length ≤ rs.length := by omega
        have HQL := Lib.hid hql
        clear hql
        have HC := Lib.hid hC
        have hsb := hC.hB
        clear hC
        by_cases hgo : 64 < rs.length - 64 * q + zs.length ∧ 0 < rs.length - 64 * q
        · have HGO := Lib.hid hgo
          obtain ⟨hg1, hg2⟩ := hgo
          obtain ⟨ad, rfl, hadb, hadc⟩ := HC.out.rd.2 hg2
          have HAC := Lib.hid hadc
          clear hadc
          have HGE := Lib.hid (rfl : rs.length - 64 * q = rs.length - 64 * q)
          have hb1 : decide ((64 : Int) < ((rs.length - 64 * q : Nat) : Int) + (zs.length : Int)) = true := by simp; omega
          have hb2 : decide ((0 : Int) < ((rs.length - 64 * q : Nat) : Int)) = true := by simp; omega
          have HE : Hid ((wr.alloc (.cells #[] 25)).ownsRow wr.heap.size 25 2 (.slice (some ⟨wr.heap.size, 0, none⟩) 0 0) 0 []) :=
            World.ownsRow_lit (base := wr.heap.size) (e := 25) (size := 2) wr #[] 0 (Nat.le_refl _) (by simp [maxLen]) (by simp)
          have HB2 := Lib.hid (ownsRow_other_block (o := .cells #[] 25) HC.out.rows.out)
          by_cases hq : 64 < rs.length - 64 * q
          · skip
            have hq' : (64 : Int) < ((rs.length - 64 * q : Nat) : Int) := by omega
            have HPre := Lib.hid ((HC.out.rd.pre (m := 64) (by omega)).alloc hsb (.cells #[] 25))
            have HOne : Hid (∀ u ∈ (swc (rs.drop (64 * q))).take (64 * 2), u.oneCell' = true) := fun u hu => swc_one _ u (List.mem_of_mem_take hu)
            go_wp2_with (first | (at_builtin; (refine wpList_append_any _ rfl _ _ 22 rfl wr.heap.size 25 i0 _ 2 24 Tryz.underlying22 HI.out hz0 hz1 hz2 rfl (by decide) _ 0 [] rfl HE.out wo.heap.size (some ad) 64 c2 ((swc (rs.drop (64 * q))).take (64 * 2)) rfl HPre.out HOne.out (by simp only [maxLen]; omega) (by omega) (by simp) ?_; intro v1 w1 ho1 hg1 _; rw [Nat.zero_add, List.nil_append] at ho1; obtain ⟨A1, c1, rfl⟩ := own_slice ho1; have HO2 := Lib.hid (HB2.out w1 (.slice A1 64 c1) hg1); have HN2 := Lib.hid (Reads.new w1 [.slice A1 64 c1] 22 1 1 rfl); have hs1 := hg1.size; rw [World.size_alloc] at hs1)) | (at_builtin; go_must (refine wpList_append_any _ rfl _ _ 26 rfl wo.heap.size 22 j0 _ 1 24 Tryz.underlying26 HJ.out hy0 hy1 hy2 rfl (by decide) _ vals.length vals rfl HO2.out _ (some ⟨w1.heap.size, 0, none⟩) 1 1 [.slice A1 64 c1] rfl HN2.out (one_slice _ _ _) (by simp only [maxLen]; omega) (by omega) (by simp; omega) ?_; intro v2 w2 ho2 hg2 _; obtain ⟨A2, c22, rfl⟩ := own_slice ho2)))
            have hst := HC.out.step HGO.out (m := 64) (c := c2) (by omega) hc2 ho1 hg1 ho2 hg2
            rw [if_neg (by omega)] at hst
            refine ⟨⟨q + 1, _, _, c2 - 64, ?_, by omega, hst⟩, by simp only [lenOf]; omega⟩
            rw [show rs.length - 64 * (q + 1) = rs.length - 64 * q - 64 by omega]
            rfl
          · by_cases hcc : c2 = rs.length - 64 * q
            · obtain rfl := hcc
              have hq' : ((rs.length - 64 * q : Nat) : Int) ≤ 64 := by omega
              have HPre := Lib.hid ((HC.out.rd.pre (m := (rs.length - 64 * q)) (by omega)).alloc hsb (.cells #[] 25))
              have HOne : Hid (∀ u ∈ (swc (rs.drop (64 * q))).take ((rs.length - 64 * q) * 2), u.oneCell' = true) := fun u hu => swc_one _ u (List.mem_of_mem_take hu)
              go_wp2_with (first | (at_builtin; (refine wpList_append_any _ rfl _ _ 22 rfl wr.heap.size 25 i0 _ 2 24 Tryz.underlying22 HI.out hz0 hz1 hz2 rfl (by decide) _ 0 [] rfl HE.out wo.heap.size (some ad) (rs.length - 64 * q) (rs.length - 64 * q) ((swc (rs.drop (64 * q))).take ((rs.length - 64 * q) * 2)) rfl HPre.out HOne.out (by simp only [maxLen]; omega) (by omega) (by simp) ?_; intro v1 w1 ho1 hg1 _; rw [Nat.zero_add, List.nil_append] at ho1; obtain ⟨A1, c1, rfl⟩ := own_slice ho1; have HO2 := Lib.hid (HB2.out w1 (.slice A1 (rs.length - 64 * q) c1) hg1); have HN2 := Lib.hid (Reads.new w1 [.slice A1 (rs.length - 64 * q) c1] 22 1 1 rfl); have hs1 := hg1.size; rw [World.size_alloc] at hs1)) | (at_builtin; go_must (refine wpList_append_any _ rfl _ _ 26 rfl wo.heap.size 22 j0 _ 1 24 Tryz.underlying26 HJ.out hy0 hy1 hy2 rfl (by decide) _ vals.length vals rfl HO2.out _ (some ⟨w1.heap.size, 0, none⟩) 1 1 [.slice A1 (rs.length - 64 * q) c1] rfl HN2.out (one_slice _ _ _) (by simp only [maxLen]; omega) (by omega) (by simp; omega) ?_; intro v2 w2 ho2 hg2 _; obtain ⟨A2, c22, rfl⟩ := own_slice ho2)))
              have hst := HC.out.step HGO.out (m := rs.length - 64 * q) (c := rs.length - 64 * q) (by omega) (Nat.le_refl _) ho1 hg1 ho2 hg2
              rw [if_pos rfl] at hst
              refine ⟨⟨q + 1, _, _, 0, ?_, by omega, hst⟩, by simp only [lenOf]; omega⟩
              rw [show rs.length - 64 * (q + 1) = 0 by omega]
            · skip
              have hq' : ((rs.length - 64 * q : Nat) : Int) ≤ 64 := by omega
              have HPre := Lib.hid ((HC.out.rd.pre (m := (rs.length - 64 * q)) (by omega)).alloc hsb (.cells #[] 25))
              have HOne : Hid (∀ u ∈ (swc (rs.drop (64 * q))).take ((rs.length - 64 * q) * 2), u.oneCell' = true) := fun u hu => swc_one _ u (List.mem_of_mem_take hu)
              go_wp2_with (first | (at_builtin; (refine wpList_append_any _ rfl _ _ 22 rfl wr.heap.size 25 i0 _ 2 24 Tryz.underlying22 HI.out hz0 hz1 hz2 rfl (by decide) _ 0 [] rfl HE.out wo.heap.size (some ad) (rs.length - 64 * q) c2 ((swc (rs.drop (64 * q))).take ((rs.length - 64 * q) * 2)) rfl HPre.out HOne.out (by simp only [maxLen]; omega) (by omega) (by simp) ?_; intro v1 w1 ho1 hg1 _; rw [Nat.zero_add, List.nil_append] at ho1; obtain ⟨A1, c1, rfl⟩ := own_slice ho1; have HO2 := Lib.hid (HB2.out w1 (.slice A1 (rs.length - 64 * q) c1) hg1); have HN2 := Lib.hid (Reads.new w1 [.slice A1 (rs.length - 64 * q) c1] 22 1 1 rfl); have hs1 := hg1.size; rw [World.size_alloc] at hs1)) | (at_builtin; go_must (refine wpList_append_any _ rfl _ _ 26 rfl wo.heap.size 22 j0 _ 1 24 Tryz.underlying26 HJ.out hy0 hy1 hy2 rfl (by decide) _ vals.length vals rfl HO2.out _ (some ⟨w1.heap.size, 0, none⟩) 1 1 [.slice A1 (rs.length - 64 * q) c1] rfl HN2.out (one_slice _ _ _) (by simp only [maxLen]; omega) (by omega) (by simp; omega) ?_; intro v2 w2 ho2 hg2 _; obtain ⟨A2, c22, rfl⟩ := own_slice ho2)))
              have hst := HC.out.step HGO.out (m := rs.length - 64 * q) (c := c2) (by omega) hc2 ho1 hg1 ho2 hg2
              rw [if_neg hcc] at hst
              refine ⟨⟨q + 1, _, _, c2 - (rs.length - 64 * q), ?_, by omega, hst⟩, by simp only [lenOf]; omega⟩
              rw [show rs.length - 64 * (q + 1) = 0 by omega]
              rfl
        · have HGO := Lib.hid hgo
          have hqq : Hid (64 < rs.length - 64 * q + zs.length → rs.length - 64 * q = 0) := by
            show _ → _
            intro h; omega
          clear hgo
          by_cases h0 : 0 < rs.length - 64 * q + zs.length
          · have HE : Hid ((wr.alloc (.cells #[] 25)).ownsRow wr.heap.size 25 2 (.slice (some ⟨wr.heap.size, 0, none⟩) 0 0) 0 []) :=
              World.ownsRow_lit (base := wr.heap.size) (e := 25) (size := 2) wr #[] 0 (Nat.le_refl _) (by simp [maxLen]) (by simp)
            have HZr := Lib.hid (HC.out.z.alloc hsb (.cells #[] 25))
            have HJO := Lib.hid (fun w1 w2 a b h1 h2 h3 x => Cutting.outAt HC.out (w1 := w1) (w2 := w2) (va := a) (vb := b) h1 h2 h3 x)
            by_cases h1 : 64 < rs.length - 64 * q + zs.length
            · have hle : rs.length - 64 * q ≤ 0 := by have := hqq.out h1; omega
              go_wp2_with (first | (at_builtin; refine wpList_append_any _ rfl (.tmp 69) (.tmp 70) 22 rfl wr.heap.size 25 i0 _ 2 24 Tryz.underlying22 HI.out hz0 hz1 hz2 rfl (by decide) _ 0 [] rfl HE.out wo.heap.size Az zs.length cz (swc zs) rfl HZr.out (swc_one _) (by simp only [maxLen]; omega) (by omega) (by simp) ?_; intro v1 w1 ho1 hg1 _; rw [Nat.zero_add, List.nil_append] at ho1; have HO1 := Lib.hid ho1; obtain ⟨A1, c1, rfl⟩ := own_slice ho1; clear ho1; have HR1 := Lib.hid ((HC.out.rd.alloc hsb (.cells #[] 25)).grown hg1 (by simp; omega) (fun g e => by cases e; exact hsb)); have HG1 := Lib.hid hg1; have hs1 := hg1.size; rw [World.size_alloc] at hs1) | (at_builtin; refine wpList_append_any _ rfl (.tmp 68) (.tmp 74) 26 rfl wo.heap.size 22 j0 _ 1 24 Tryz.underlying26 HJ.out hy0 hy1 hy2 rfl (by decide) _ vals.length vals rfl HOut.out _ (some ⟨w2.heap.size, 0, none⟩) 1 1 [.slice A2 (zs.length + (rs.length - 64 * q)) c22] rfl HN2.out (one_slice _ _ _) (by simp only [maxLen]; omega) (by omega) (by simp; omega) ?_; intro v3 w3 ho3 hg3 _) | (at_builtin; go_must (refine wpList_append_any _ rfl (.tmp 71) (.tmp 72) 22 rfl wr.heap.size 25 i0 _ 2 24 Tryz.underlying22 HI.out hz0 hz1 hz2 rfl (by decide) _ zs.length (swc zs) rfl HO1.out wo.heap.size Ar (rs.length - 64 * q) c2 (swc (rs.drop (64 * q))) rfl HR1.out (swc_one _) (by simp only [maxLen]; omega) (by omega) (by omega) ?_; intro v2 w2 ho2 hg2 hat2; have HO2 := Lib.hid ho2; obtain ⟨A2, c22, rfl⟩ := own_slice ho2; clear ho2; have HG2 := Lib.hid hg2; have hs2 := hg2.size; have HOut := Lib.hid (HJO.out w1 w2 _ _ HG1.out HG2.out (fun g e => by cases e; exact Nat.le_refl _) (fun g e => (HO1.out.lt g e).1) (.slice A2 (zs.length + (rs.length - 64 * q)) c22)); have HN2 := Lib.hid (Reads.new w2 [.slice A2 (zs.length + (rs.length - 64 * q)) c22] 22 1 1 rfl))))
              have hfin := Cutting.finish HC.out (HG1.out) (HG2.out) (fun g e => by cases e; exact Nat.le_refl _) (fun g e => (HO1.out.lt g e).1) HO2.out ho3 hg3
              go_returns
              refine ⟨_, rfl, ?_, hfin.2⟩
              rw [HZS.out, HRS.out, refs_eq zs rs q HC.out.cond HGO.out, if_pos h0]
              exact hfin.1.reads
            · have hle1 : rs.length - 64 * q + zs.length ≤ 64 := by omega
              go_wp2_with (first | (at_builtin; refine wpList_append_any _ rfl (.tmp 69) (.tmp 70) 22 rfl wr.heap.size 25 i0 _ 2 24 Tryz.underlying22 HI.out hz0 hz1 hz2 rfl (by decide) _ 0 [] rfl HE.out wo.heap.size Az zs.length cz (swc zs) rfl HZr.out (swc_one _) (by simp only [maxLen]; omega) (by omega) (by simp) ?_; intro v1 w1 ho1 hg1 _; rw [Nat.zero_add, List.nil_append] at ho1; have HO1 := Lib.hid ho1; obtain ⟨A1, c1, rfl⟩ := own_slice ho1; clear ho1; have HR1 := Lib.hid ((HC.out.rd.alloc hsb (.cells #[] 25)).grown hg1 (by simp; omega) (fun g e => by cases e; exact hsb)); have HG1 := Lib.hid hg1; have hs1 := hg1.size; rw [World.size_alloc] at hs1) | (at_builtin; refine wpList_append_any _ rfl (.tmp 68) (.tmp 74) 26 rfl wo.heap.size 22 j0 _ 1 24 Tryz.underlying26 HJ.out hy0 hy1 hy2 rfl (by decide) _ vals.length vals rfl HOut.out _ (some ⟨w2.heap.size, 0, none⟩) 1 1 [.slice A2 (zs.length + (rs.length - 64 * q)) c22] rfl HN2.out (one_slice _ _ _) (by simp only [maxLen]; omega) (by omega) (by simp; omega) ?_; intro v3 w3 ho3 hg3 _) | (at_builtin; go_must (refine wpList_append_any _ rfl (.tmp 71) (.tmp 72) 22 rfl wr.heap.size 25 i0 _ 2 24 Tryz.underlying22 HI.out hz0 hz1 hz2 rfl (by decide) _ zs.length (swc zs) rfl HO1.out wo.heap.size Ar (rs.length - 64 * q) c2 (swc (rs.drop (64 * q))) rfl HR1.out (swc_one _) (by simp only [maxLen]; omega) (by omega) (by omega) ?_; intro v2 w2 ho2 hg2 hat2; have HO2 := Lib.hid ho2; obtain ⟨A2, c22, rfl⟩ := own_slice ho2; clear ho2; have HG2 := Lib.hid hg2; have hs2 := hg2.size; have HOut := Lib.hid (HJO.out w1 w2 _ _ HG1.out HG2.out (fun g e => by cases e; exact Nat.le_refl _) (fun g e => (HO1.out.lt g e).1) (.slice A2 (zs.length + (rs.length - 64 * q)) c22)); have HN2 := Lib.hid (Reads.new w2 [.slice A2 (zs.length + (rs.length - 64 * q)) c22] 22 1 1 rfl))))
              have hfin := Cutting.finish HC.out (HG1.out) (HG2.out) (fun g e => by cases e; exact Nat.le_refl _) (fun g e => (HO1.out.lt g e).1) HO2.out ho3 hg3
              go_returns
              refine ⟨_, rfl, ?_, hfin.2⟩
              rw [HZS.out, HRS.out, refs_eq zs rs q HC.out.cond HGO.out, if_pos h0]
              exact hfin.1.reads
          · have hle0 : rs.length - 64 * q + zs.length ≤ 0 := by omega
            go_wp2_with fail
            go_returns
            refine ⟨_, rfl, ?_, HC.out.b⟩
            rw [HZS.out, HRS.out, refs_eq zs rs q HC.out.cond HGO.out, if_neg h0, List.append_nil]
            exact HC.out.rows.reads
end Go.Proofs.YtjimglfeiceepaaGreatDoor
