/-
  A slice of slices of sectors that a call has made: what it holds, what an append leaves of it.
-/
import Derived.Test.YtjimglfeiceepaaGreatDoorChunk
namespace Go.Proofs.YtjimglfeiceepaaGreatDoor
open Go.RowKit Go.Shelf

/-- A piece of code that comes to its end. -/
def onlyNormal (K : Act → World → Prop) : Exit → Act → World → Prop
  | .normal, a, w => K a w
  | _, _, _ => False
theorem wp_normal {P : Program} {c : Code} {Q : Exit → Act → World → Prop} {a : Act} {w : World} (h : c.wp P (onlyNormal (Q .normal)) a w) : c.wp P Q a w :=
  wp_mono h fun e a w hq => by
    cases e with
    | normal => exact hq
    | _ => exact hq.elim

/-- append onto a row of the call's own, as a step of a region that draws, inside a fence. -/
theorem stepIn_append_own {F : Fence} {n : Nat} {P : Program} (w : World) {ops : Array Oper} {o : Oper} {a : Act} {K : Act → World → Prop} {Q : Exit → Act → World → Prop} {E : Prop}
    (hg : o.guard = none) (s x : Operand) (t : TypeId) (hop : o.op = Op.call { callee := Callee.builtin Builtin.append, args := #[s, x], argTypes := #[t, t] })
    (base : Nat) (e : TypeId) (i : TypeInfo) (z : Value) (size bytes : Nat) (h1 : P.underlying t = some (.slice e)) (h2 : P.info? e = some i) (h3 : i.zero = some z) (h4 : i.size = size) (h5 : i.bytes = bytes) (h6 : z.cells.size = size) (h7 : 0 < size)
    (v : Value) (k : Nat) (xs : List Value) (hs : a.eval s = v) (hown : w.ownsRow base e size v k xs) (ad : Addr) (m c : Nat) (news : List Value) (hx : a.eval x = .slice (some ad) m c) (hn : news.length = m * size)
    (hc : ∀ j u, news[j]? = some u → w.cell? (ad.add j) = some u) (h1c : ∀ u ∈ news, u.oneCell' = true) (b1 : k + m ≤ maxLen) (b2 : (k + m) * bytes ≤ 140737488355328) (b3 : base ≤ w.heap.size)
    (hK : ∀ v' w', w'.ownsRow base e size v' (k + m) (xs ++ news) → w.grownBy w' v.ownBlock → K (a.put o.dst v') w') :
    if Region.wanted o (yielded ops a.tmps) = true then Oper.wpIn F n P o a w K Q else E := by
  have hw : Region.wanted o (yielded ops a.tmps) = true := by simp [Region.wanted, hg]
  rw [if_pos hw]
  obtain ⟨v', w', hrun, r1, r2, r3⟩ := run_append_own (P := P) w base t o.type e i z size bytes h1 h2 h3 h4 h5 h6 h7 v k xs hown ad m c news hn hc h1c b1 b2 b3
  unfold Oper.wpIn
  refine ⟨?_, ?_⟩
  · simp [Oper.about, hop, resolve, Target.leads, Sem.run_pure]
  · rw [Oper.semAt_plain F _ _ (by rw [hop]; intro c hc'; cases hc')]
    simp [execOp, hop, resolve, invoke, builtin, hs, hx, hrun, Result.andThen]
    exact hK v' w' r1 r2
theorem infoSL : (Tryz.prog.info? 22).map (fun i => (i.zero, i.size, i.bytes)) = some (some (.slice none 0 0), 1, 24) := by kernel_rfl

/-- A chunk of a list. -/
def chL (rs : List SW) (k : Nat) : List SW := (rs.drop (64 * k)).take 64
theorem chL_length (rs : List SW) (k : Nat) : (chL rs k).length = min 64 (rs.length - 64 * k) := by simp [chL]

theorem own_base {w : World} {b b' : Nat} {e : TypeId} {s n : Nat} {v : Value} {xs : List Value} (h : w.ownsRow b e s v n xs) (hb : b' ≤ b) : w.ownsRow b' e s v n xs := by
  refine ⟨h.1, ?_⟩
  rcases h.2 with h' | ⟨g, cap, cur, h1, h2, h3⟩
  · exact .inl h'
  · exact .inr ⟨g, cap, cur, h1, by omega, h3⟩
/-- A row lives on where what turns is no block of cells. -/
theorem own_nc {W W' : World} {b : Nat} {e : TypeId} {s n : Nat} {v : Value} {xs : List Value} {row : Option Nat} (h : W.ownsRow b e s v n xs) (hg : W.grownBy W' row)
    (hr : ∀ r, row = some r → ∃ o : Obj, W.heap[r]? = some o ∧ o.isCells = false) : W'.ownsRow b e s v n xs := by
  refine h.kept hg ?_
  rcases h.2 with ⟨rfl, _⟩ | ⟨g, cap, cur, rfl, _, hh, _⟩
  · exact .inl rfl
  · refine .inr fun e' => ?_
    obtain ⟨o, ho, hc⟩ := hr g (by simpa [Value.ownBlock] using e'.symm)
    rw [hh] at ho; cases ho; cases hc
/-- Rows of two element types lie apart. -/
theorem own_types {w : World} {b b' : Nat} {e e' : TypeId} {s s' n n' : Nat} {v v' : Value} {xs xs' : List Value} (h : w.ownsRow b e s v n xs) (h' : w.ownsRow b' e' s' v' n' xs') (hne : e ≠ e') : v.ownBlock = none ∨ v.ownBlock ≠ v'.ownBlock := by
  rcases h.2 with ⟨rfl, _⟩ | ⟨g, cap, cur, rfl, _, hh, _⟩
  · exact .inl rfl
  · refine .inr fun hk => ?_
    rcases h'.2 with ⟨rfl, _⟩ | ⟨g', cap', cur', rfl, _, hh', _⟩
    · simp [Value.ownBlock] at hk
    · have : g = g' := by simpa [Value.ownBlock] using hk
      subst this
      rw [hh] at hh'
      injection hh' with hh'
      injection hh' with _ ht
      exact hne ht
theorem own_slice {w : World} {b : Nat} {e : TypeId} {s n : Nat} {v : Value} {xs : List Value} (h : w.ownsRow b e s v n xs) : ∃ A c, v = .slice A n c := by
  rcases h.2 with ⟨rfl, rfl⟩ | ⟨g, cap, cur, rfl, _⟩
  · exact ⟨none, 0, rfl⟩
  · exact ⟨_, cap, rfl⟩
theorem own_below {w w1 : World} {b : Nat} {e : TypeId} {s n : Nat} {v : Value} {xs : List Value} (h : w.ownsRow b e s v n xs) (hb : Below w.heap.size w w1) : w1.ownsRow b e s v n xs :=
  h.kept (row := none) ⟨hb.os, hb.tape, hb.output, hb.size, fun i hi _ => hb.block i hi⟩ (by cases v.ownBlock <;> simp)

theorem chunk_reads {W : World} {b g cr : Nat} {rs : List SW} (h : W.ownsRow b 25 2 (.slice (some ⟨g, 0, none⟩) rs.length cr) rs.length (swc rs)) (x : Nat) :
    Reads W W.heap.size 2 (some ⟨g, 64 * x * 2, none⟩) (min 64 (rs.length - 64 * x)) (swc (chL rs x)) := by
  refine ⟨by rw [swc_length, chL_length], fun hn => ?_⟩
  have hlt : g < W.heap.size := (h.lt g rfl).2
  refine ⟨_, rfl, hlt, fun j u hu => ?_⟩
  have e1 : (⟨g, 64 * x * 2, none⟩ : Addr).add j = (⟨g, 0, none⟩ : Addr).add (64 * x * 2 + j) := by
    unfold Addr.add
    by_cases hj : j = 0
    · subst hj
      rw [if_pos rfl]
      split
      · rename_i h0; simp at h0 ⊢; try omega
      · simp
    · rw [if_neg hj, if_neg (by omega)]
      simp
  rw [e1]
  refine h.cells (g := g) rfl _ u ?_
  rw [chL, ← swc_take, ← swc_drop, List.getElem?_take] at hu
  split at hu
  · rw [List.getElem?_drop] at hu
    rw [← hu]
    congr 1
    omega
  · cases hu

/-- What the loop over the chunks has collected: the box N holds v, whose row holds vals; each is a row of its own; the two parts lie where they lay. -/
structure Outs (w : World) (N : Nat) (vz vr : Value) (zs rs : List SW) (v : Value) (vals : List Value) (W : World) (pre : List Nat) : Prop where
  box : Boxed W N 26 v
  out : W.ownsRow (N + 3) 22 1 v vals.length vals
  len : vals.length = pre.length
  inner : ∀ (j : Nat) (x : Value) (p : Nat), vals[j]? = some x → pre[j]? = some p → W.ownsRow (N + 3) 25 2 x (chL rs p).length (swc (chL rs p))
  z : W.ownsRow w.heap.size 25 2 vz zs.length (swc zs)
  r : W.ownsRow w.heap.size 25 2 vr rs.length (swc rs)
  zN : ∀ k, vz.ownBlock = some k → k < N
  b : Below w.heap.size w W
  wN : w.heap.size ≤ N
  hN : N + 3 ≤ W.heap.size

theorem outs_own (w : World) (N : Nat) (vz vr : Value) (zs rs : List SW) : OwnFrom (N + 3) (fun pre W => ∃ v vals, Outs w N vz vr zs rs v vals W pre) := by
  rintro pre W W' row ⟨v, vals, h⟩ hg hr
  have hr' : ∀ r, row = some r → ∃ o : Obj, W.heap[r]? = some o ∧ o.isCells = false := fun r e => (hr r e).2
  refine ⟨v, vals, h.box.kept hg (fun e => ?_), own_nc h.out hg hr', h.len, fun j x p hx hp => own_nc (h.inner j x p hx hp) hg hr', own_nc h.z hg hr', own_nc h.r hg hr', h.zN, h.b.grown hg (Nat.le_trans h.wN (Nat.le_trans (Nat.le_add_right _ _) h.hN)) (fun k e => by have := (hr k e).1; have := h.wN; omega), h.wN, Nat.le_trans h.hN hg.size⟩
  obtain ⟨o, ho, hc⟩ := hr' N e.symm
  rw [show W.heap[N]? = _ from h.box] at ho
  cases ho
  cases hc

theorem Outs.collected {w : World} {N : Nat} {vz vr : Value} {zs rs : List SW} {v : Value} {vals : List Value} {W w1 w2 : World} {pre : List Nat} (h : Outs w N vz vr zs rs v vals W pre) (x : Nat) {v1 v' : Value}
    (hb : Below W.heap.size W w1) (hko : KeepsOthers W w1) (ho1 : w1.ownsRow W.heap.size 25 2 v1 (chL rs x).length (swc (chL rs x)))
    (hown : w2.ownsRow (N + 3) 22 1 v' (vals.length + 1) (vals ++ [v1])) (hg : (w1.alloc (.cells #[v1] 22)).grownBy w2 v.ownBlock) :
    Boxed w2 N 26 v ∧ KeepsOthers W (w2.setCell ⟨N, 0, none⟩ v') ∧ KpC (N + 1) (N + 2) W (w2.setCell ⟨N, 0, none⟩ v') ∧ Outs w N vz vr zs rs v' (vals ++ [v1]) (w2.setCell ⟨N, 0, none⟩ v') (pre ++ [x]) := by
  have hs1 := hb.size
  have hN := h.hN
  have hw := h.wN
  have hbx1 : Boxed w1 N 26 v := (hb.block N (by omega)).trans h.box
  have hout1 := own_below h.out hb
  have hbx2 : Boxed w2 N 26 v := (hbx1.alloc _).kept hg (hbx1.not_row (by decide) hout1)
  have hg1 : w1.grownBy w2 v.ownBlock := World.grownBy.trans (World.grownBy_alloc w1 _ _) hg
  have hgs := grownBy_setCell' w2 N v'
  have hlow : ∀ k, v.ownBlock = some k → N + 3 ≤ k := fun k e => (h.out.lt k e).1
  have hcell : ∀ B, B < N + 3 → B ≠ N → (w2.setCell ⟨N, 0, none⟩ v').cell? ⟨B, 0, none⟩ = W.cell? ⟨B, 0, none⟩ := by
    intro B h1 h2
    refine (World.cell?_of_block (a := ⟨B, 0, none⟩) (hgs.block B (by have := hg1.size; omega) (fun e => h2 (by injection e)))).trans ?_
    refine (World.cell?_of_block (a := ⟨B, 0, none⟩) (hg1.block B (by omega) (fun e => by have := hlow B e.symm; omega))).trans ?_
    exact hb.cell (p := ⟨B, 0, none⟩) (by show B < _; omega)
  -- a row of sectors lives on
  have keep : ∀ {b : Nat} {u : Value} {n : Nat} {xs : List Value}, w1.ownsRow b 25 2 u n xs → (w2.setCell ⟨N, 0, none⟩ v').ownsRow b 25 2 u n xs := by
    intro b u n xs hr
    have h2 : w2.ownsRow b 25 2 u n xs := hr.kept hg1 (own_types hr hout1 (by decide))
    exact h2.kept hgs (.inr (hbx2.not_row (by decide) h2).symm)
  refine ⟨hbx2, ?_, ⟨hcell (N + 1) (by omega) (by omega), hcell (N + 2) (by omega) (by omega)⟩, ?_⟩
  · refine (hko.trans ((KeepsOthers.alloc w1 _).trans (KeepsOthers.of_grownBy hg fun j o ej hj => ?_))).trans (KeepsOthers.setCell _ _ _)
    rcases (hout1.alloc (.cells #[v1] 22)).2 with ⟨rfl, _⟩ | ⟨g, cap, cur, rfl, _, hgb, _⟩
    · simp [Value.ownBlock] at ej
    · obtain rfl : g = j := by simpa [Value.ownBlock] using ej
      rw [hgb] at hj; cases hj; rfl
  · refine ⟨hbx2.set v', ?_, by simp [h.len], ?_, keep (own_below h.z hb), keep (own_below h.r hb), h.zN, ?_, hw, ?_⟩
    · rw [List.length_append]
      exact hown.kept hgs (.inr (hbx2.not_row (by decide) hown).symm)
    · intro j y p hy hp
      rcases Nat.lt_or_ge j vals.length with hlt | hge
      · rw [List.getElem?_append_left hlt] at hy
        rw [List.getElem?_append_left (by rw [← h.len]; exact hlt)] at hp
        exact keep (own_below (h.inner j y p hy hp) hb)
      · rw [List.getElem?_append_right hge] at hy
        rw [List.getElem?_append_right (by rw [← h.len]; exact hge)] at hp
        obtain ⟨hj1, rfl⟩ : j - vals.length = 0 ∧ v1 = y := by
          cases hq : j - vals.length with
          | zero => rw [hq] at hy; simp at hy; exact ⟨rfl, hy⟩
          | succ q => rw [hq] at hy; simp at hy
        have hj2 : j - pre.length = 0 := by rw [← h.len]; exact hj1
        rw [hj2] at hp
        obtain rfl : x = p := by simpa using hp
        exact keep (own_base ho1 (by omega))
    · exact ((h.b.trans (hb.mono h.b.size)).grown hg1 (by have := h.b.size; omega) (fun k e => by have := hlow k e; omega)).setCell (p := ⟨N, 0, none⟩) hw v'
    · have := hg1.size
      have : (w2.setCell ⟨N, 0, none⟩ v').heap.size = w2.heap.size := by simp
      omega

/-- A slice of slices, each a row of the call's own. -/
structure Rows2 (W : World) (b : Nat) (v : Value) (vals : List Value) (L : List (List SW)) : Prop where
  out : W.ownsRow b 22 1 v vals.length vals
  len : vals.length = L.length
  inner : ∀ (j : Nat) (x : Value) (l : List SW), vals[j]? = some x → L[j]? = some l → W.ownsRow b 25 2 x l.length (swc l)
/-- A slice of slices that is read. -/
def ReadsLL (W : World) (v : Value) (L : List (List SW)) : Prop :=
  ∃ A c vals, v = .slice A L.length c ∧ vals.length = L.length ∧ Reads W W.heap.size 1 A L.length vals ∧
    ∀ (j : Nat) (x : Value) (l : List SW), vals[j]? = some x → L[j]? = some l → ∃ A' c', x = .slice A' l.length c' ∧ Reads W W.heap.size 2 A' l.length (swc l)
theorem Rows2.reads {W : World} {b : Nat} {v : Value} {vals : List Value} {L : List (List SW)} (h : Rows2 W b v vals L) : ReadsLL W v L := by
  obtain ⟨A, c, rfl⟩ := own_slice h.out
  have ho := h.out
  rw [h.len] at ho ⊢
  refine ⟨A, c, vals, rfl, h.len, Reads.of_own ho, fun j x l hx hl => ?_⟩
  have hi := h.inner j x l hx hl
  obtain ⟨A', c', rfl⟩ := own_slice hi
  exact ⟨A', c', rfl, Reads.of_own hi⟩
theorem Rows2.nc {W W' : World} {b : Nat} {v : Value} {vals : List Value} {L : List (List SW)} {row : Option Nat} (h : Rows2 W b v vals L) (hg : W.grownBy W' row)
    (hr : ∀ r, row = some r → ∃ o : Obj, W.heap[r]? = some o ∧ o.isCells = false) : Rows2 W' b v vals L :=
  ⟨own_nc h.out hg hr, h.len, fun j x l hx hl => own_nc (h.inner j x l hx hl) hg hr⟩
theorem Outs.rows {w : World} {N : Nat} {vz vr : Value} {zs rs : List SW} {v : Value} {vals : List Value} {W : World} {pre : List Nat} (h : Outs w N vz vr zs rs v vals W pre) :
    Rows2 W w.heap.size v vals (pre.map (chL rs)) := by
  refine ⟨own_base h.out (by have := h.wN; omega), by rw [List.length_map]; exact h.len, fun j x l hx hl => ?_⟩
  rw [List.getElem?_map] at hl
  obtain ⟨p, hp, rfl⟩ := Option.map_eq_some_iff.1 hl
  exact own_base (h.inner j x p hx hp) (by have := h.wN; omega)
theorem ReadsLL.below {W W' : World} {v : Value} {L : List (List SW)} (h : ReadsLL W v L) (hb : Below W.heap.size W W') : ReadsLL W' v L := by
  obtain ⟨A, c, vals, h1, h2, h3, h4⟩ := h
  refine ⟨A, c, vals, h1, h2, (h3.below hb).more hb.size, fun j x l hx hl => ?_⟩
  obtain ⟨A', c', h5, h6⟩ := h4 j x l hx hl
  exact ⟨A', c', h5, (h6.below hb).more hb.size⟩

theorem Outs.plus {w : World} {N : Nat} {vz vr : Value} {zs rs : List SW} {v : Value} {vals : List Value} {W w1 : World} {pre : List Nat} {v1 : Value} (h : Outs w N vz vr zs rs v vals W pre)
    (ho : w1.ownsRow (N + 3) 22 1 v1 (vals.length + 1) (vals ++ [vz])) (hg : (W.alloc (.cells #[vz] 22)).grownBy w1 v.ownBlock) {D : Nat} (hD : N + 3 ≤ D) (hKD : W.heap[D]? = some (.deferred (some []))) :
    Boxed w1 N 26 v ∧ Rows2 (w1.setCell ⟨N, 0, none⟩ v1) w.heap.size v1 (vals ++ [vz]) (pre.map (chL rs) ++ [zs]) ∧ Below w.heap.size w (w1.setCell ⟨N, 0, none⟩ v1) ∧ (w1.setCell ⟨N, 0, none⟩ v1).heap[D]? = some (.deferred (some [])) := by
  have hN := h.hN
  have hw := h.wN
  have hbx1 : Boxed w1 N 26 v := (h.box.alloc _).kept hg (h.box.not_row (by decide) h.out)
  have hg1 : W.grownBy w1 v.ownBlock := World.grownBy.trans (World.grownBy_alloc W _ _) hg
  have hgs := grownBy_setCell' w1 N v1
  have hlow : ∀ k, v.ownBlock = some k → N + 3 ≤ k := fun k e => (h.out.lt k e).1
  have keep : ∀ {b : Nat} {u : Value} {n : Nat} {xs : List Value}, W.ownsRow b 25 2 u n xs → (w1.setCell ⟨N, 0, none⟩ v1).ownsRow b 25 2 u n xs := by
    intro b u n xs hr
    have h2 : w1.ownsRow b 25 2 u n xs := hr.kept hg1 (own_types hr h.out (by decide))
    exact h2.kept hgs (.inr (hbx1.not_row (by decide) h2).symm)
  refine ⟨hbx1, ⟨?_, ?_, ?_⟩, (h.b.grown hg1 (by have := h.b.size; omega) (fun k e => by have := hlow k e; omega)).setCell (p := ⟨N, 0, none⟩) hw v1, ?_⟩
  · rw [List.length_append]
    exact own_base (ho.kept hgs (.inr (hbx1.not_row (by decide) ho).symm)) (by omega)
  · simp [h.len]
  · intro j x l hx hl
    rcases Nat.lt_or_ge j vals.length with hlt | hge
    · rw [List.getElem?_append_left hlt] at hx
      rw [List.getElem?_append_left (by rw [List.length_map, ← h.len]; exact hlt)] at hl
      exact keep (h.rows.inner j x l hx hl)
    · rw [List.getElem?_append_right hge] at hx
      rw [List.getElem?_append_right (by rw [List.length_map, ← h.len]; exact hge)] at hl
      obtain ⟨hj1, rfl⟩ : j - vals.length = 0 ∧ vz = x := by
        cases hq : j - vals.length with
        | zero => rw [hq] at hx; simp at hx; exact ⟨rfl, hx⟩
        | succ q => rw [hq] at hx; simp at hx
      rw [List.length_map, ← h.len, hj1] at hl
      obtain rfl : zs = l := by simpa using hl
      exact keep h.z
  · have hlt : D < W.heap.size := (Array.getElem?_eq_some_iff.1 hKD).1
    refine (hgs.block D (by have := hg1.size; omega) (fun e => by injection e with e; omega)).trans ((hg1.block D hlt (fun e => ?_)).trans hKD)
    rcases h.out.2 with ⟨rfl, _⟩ | ⟨g, cap, cur, rfl, _, hh, _⟩
    · simp [Value.ownBlock] at e
    · obtain rfl : D = g := by simpa [Value.ownBlock] using e
      rw [hh] at hKD
      cases hKD

theorem Outs.join {w : World} {N : Nat} {vz vr : Value} {zs rs : List SW} {gv cv : Nat} {vals : List Value} {W w1 : World} {pre : List Nat} {v1 xl : Value} {m : Nat}
    (h : Outs w N vz vr zs rs (.slice (some ⟨gv, 0, none⟩) vals.length cv) vals W pre) (hm : m < vals.length) (hxl : vals[m]? = some xl) (p : Nat) (hp : pre[m]? = some p)
    (ho : w1.ownsRow w.heap.size 25 2 v1 (zs.length + (chL rs p).length) (swc zs ++ swc (chL rs p))) (hg : W.grownBy w1 vz.ownBlock)
    {D : Nat} (hKD : W.heap[D]? = some (.deferred (some []))) :
    w1.cell? ⟨N, 0, none⟩ = some (.slice (some ⟨gv, 0, none⟩) vals.length cv) ∧ w1.cell? ⟨gv, m, none⟩ = some xl ∧ w1.frozen? ⟨gv, m, none⟩ = false ∧ (w1.setCell ⟨gv, m, none⟩ v1).cell? ⟨N, 0, none⟩ = some (.slice (some ⟨gv, 0, none⟩) vals.length cv) ∧
    Rows2 (w1.setCell ⟨gv, m, none⟩ v1) w.heap.size (.slice (some ⟨gv, 0, none⟩) vals.length cv) (vals.set m v1) ((pre.map (chL rs)).set m (zs ++ chL rs p)) ∧
    Below w.heap.size w (w1.setCell ⟨gv, m, none⟩ v1) ∧ (w1.setCell ⟨gv, m, none⟩ v1).heap[D]? = some (.deferred (some [])) := by
  have hN := h.hN
  have hw := h.wN
  have hout1 : w1.ownsRow (N + 3) 22 1 (.slice (some ⟨gv, 0, none⟩) vals.length cv) vals.length vals := h.out.kept hg (own_types h.out h.z (by decide))
  have hst := hout1.stored m v1
  have hgv : N + 3 ≤ gv := (h.out.lt gv rfl).1
  have hgl : gv < w1.heap.size := (hout1.lt gv rfl).2
  have hbx1 : Boxed w1 N 26 (.slice (some ⟨gv, 0, none⟩) vals.length cv) := h.box.kept hg (h.box.not_row (by decide) h.z)
  have hbx2 := hbx1.kept hst.2 (by intro e; injection e with e; omega)
  have hdz : W.heap[D]? = some (.deferred (some [])) → some D ≠ vz.ownBlock := by
    intro hk e
    rcases h.z.2 with ⟨rfl, _⟩ | ⟨g, cap, cur, rfl, _, hh, _⟩
    · simp [Value.ownBlock] at e
    · obtain rfl : D = g := by simpa [Value.ownBlock] using e
      rw [hh] at hk
      cases hk
  refine ⟨hbx1.cell, by rw [hout1.cellAt m (by omega)]; exact hxl, hout1.frozenAt m, hbx2.cell, ⟨?_, by simp [h.len], ?_⟩, ?_, ?_⟩
  · rw [List.length_set]
    exact own_base hst.1 (by omega)
  · intro j x l hx hl
    by_cases hj : j = m
    · subst hj
      rw [List.getElem?_set_self hm] at hx
      rw [List.getElem?_set_self (by rw [List.length_map, ← h.len]; exact hm)] at hl
      obtain rfl : v1 = x := by injection hx
      obtain rfl : zs ++ chL rs p = l := by injection hl
      rw [List.length_append, swc_append]
      exact ho.kept hst.2 (own_types ho hout1 (by decide))
    · rw [List.getElem?_set_ne (Ne.symm hj)] at hx hl
      rw [List.getElem?_map] at hl
      obtain ⟨q, hq, rfl⟩ := Option.map_eq_some_iff.1 hl
      have hi := h.inner j x q hx hq
      have hi1 : w1.ownsRow (N + 3) 25 2 x (chL rs q).length (swc (chL rs q)) := by
        refine hi.kept hg ?_
        cases hv : x.ownBlock with
        | none => exact .inl rfl
        | some k =>
          refine .inr fun e => ?_
          have := (hi.lt k hv).1
          have := h.zN k e.symm
          omega
      exact own_base (hi1.kept hst.2 (own_types hi1 hout1 (by decide))) (by omega)
  · exact (h.b.grown hg (by have := h.b.size; omega) (fun k e => (h.z.lt k e).1)).grown hst.2 (by have := h.b.size; have := hg.size; omega) (fun k e => by cases e; omega)
  · have hlt : D < W.heap.size := (Array.getElem?_eq_some_iff.1 hKD).1
    refine (hst.2.block D (by have := hg.size; omega) (fun e => ?_)).trans ((hg.block D hlt (hdz hKD)).trans hKD)
    obtain rfl : D = gv := by injection e
    rcases h.out.2 with ⟨hf, _⟩ | ⟨g, cap, cur, hf, _, hh, _⟩
    · cases hf
    · obtain rfl : D = g := by injection hf with hf; injection hf with hf; injection hf
      rw [hh] at hKD
      cases hKD

/-- What Steps returns. -/
def chunks (rs : List SW) : List (List SW) := (List.range (chN rs.length)).map (chL rs)
def stepsL (zs rs : List SW) : List (List SW) :=
  if zs.length = 0 then chunks rs
  else match (chunks rs).getLast? with
    | none => [zs]
    | some last => if 64 < last.length + zs.length then chunks rs ++ [zs] else (chunks rs).dropLast ++ [zs ++ last]

theorem chunks_length (rs : List SW) : (chunks rs).length = chN rs.length := by simp [chunks]
theorem stepsL_first (zs rs : List SW) (hz : zs.length ≠ 0) (hr : chN rs.length = 0) : stepsL zs rs = (List.range (chN rs.length)).map (chL rs) ++ [zs] := by
  unfold stepsL chunks
  rw [if_neg hz, hr]
  rfl
theorem chunks_last (rs : List SW) (hr : chN rs.length ≠ 0) : (chunks rs).getLast? = some (chL rs (chN rs.length - 1)) := by
  rw [List.getLast?_eq_getElem?, chunks_length, chunks, List.getElem?_map, List.getElem?_range (by omega)]
  rfl
theorem stepsL_full (zs rs : List SW) (hz : zs.length ≠ 0) (hr : chN rs.length ≠ 0) (h : 64 < (chL rs (chN rs.length - 1)).length + zs.length) : stepsL zs rs = (List.range (chN rs.length)).map (chL rs) ++ [zs] := by
  unfold stepsL
  rw [if_neg hz, chunks_last rs hr]
  simp only [if_pos h]
  rfl
theorem stepsL_join (zs rs : List SW) (hz : zs.length ≠ 0) (hr : chN rs.length ≠ 0) (h : ¬ 64 < (chL rs (chN rs.length - 1)).length + zs.length) :
    stepsL zs rs = ((List.range (chN rs.length)).map (chL rs)).set (chN rs.length - 1) (zs ++ chL rs (chN rs.length - 1)) := by
  unfold stepsL
  rw [if_neg hz, chunks_last rs hr]
  simp only [if_neg h]
  unfold chunks
  have e : chN rs.length = chN rs.length - 1 + 1 := by omega
  generalize chN rs.length - 1 = m at *
  rw [e, List.range_succ, List.map_append, List.map_cons, List.map_nil, List.dropLast_concat, List.set_append_right _ _ (by simp)]
  simp
theorem stepsL_join' (zs rs : List SW) (m : Nat) (hm : m = chN rs.length - 1) (hz : zs.length ≠ 0) (hr : chN rs.length ≠ 0) (h : ¬ 64 < (chL rs (chN rs.length - 1)).length + zs.length) :
    stepsL zs rs = ((List.range (chN rs.length)).map (chL rs)).set m (zs ++ chL rs m) := by
  subst hm
  exact stepsL_join zs rs hz hr h
theorem chL_all (rs : List SW) (q : Nat) (h : rs.length - 64 * q ≤ 64) : chL rs q = rs.drop (64 * q) := by
  rw [chL, List.take_of_length_le (by rw [List.length_drop]; exact h)]
/-- The two ways of cutting come to the same lists. -/
theorem refs_eq (zs rs : List SW) (q : Nat) (hc : ∀ j, j < q → 64 < rs.length - 64 * j + zs.length ∧ 0 < rs.length - 64 * j) (hn : ¬ (64 < rs.length - 64 * q + zs.length ∧ 0 < rs.length - 64 * q)) :
    stepsL zs rs = (List.range q).map (chL rs) ++ (if 0 < rs.length - 64 * q + zs.length then [zs ++ rs.drop (64 * q)] else []) := by
  by_cases hz : zs.length = 0
  · obtain rfl : zs = [] := List.eq_nil_of_length_eq_zero hz
    rw [stepsL, if_pos hz]
    by_cases hR : rs.length - 64 * q = 0
    · have hq : q = 0 := by
        rcases Nat.eq_zero_or_pos q with h | h
        · exact h
        · have h1 := hc (q - 1) (by omega)
          rw [List.length_nil] at h1
          omega
      subst hq
      rw [if_neg (by rw [List.length_nil]; omega)]
      have : chN rs.length = 0 := by unfold chN; omega
      simp [chunks, this]
    · have hq : chN rs.length = q + 1 := by
        rw [List.length_nil] at hn
        unfold chN; omega
      rw [if_pos (by omega), chunks, hq, List.range_succ, List.map_append, List.map_cons, List.map_nil, chL_all rs q (by rw [List.length_nil] at hn; omega)]
      simp
  · by_cases hR : rs.length - 64 * q = 0
    · have hd : rs.drop (64 * q) = [] := List.drop_eq_nil_of_le (by omega)
      rw [if_pos (by omega), hd, List.append_nil]
      rcases Nat.eq_zero_or_pos q with h | h
      · subst h
        have h0 : chN rs.length = 0 := by unfold chN; omega
        rw [stepsL_first zs rs hz h0, h0]
      · have h1 := hc (q - 1) (by omega)
        have h0 : chN rs.length = q := by unfold chN; omega
        rw [stepsL_full zs rs hz (by omega) (by rw [h0, chL_length]; omega), h0]
    · have h0 : chN rs.length = q + 1 := by unfold chN; omega
      rw [if_pos (by omega), stepsL_join' zs rs q (by omega) hz (by omega) (by rw [h0, Nat.add_sub_cancel, chL_length]; omega), h0, List.range_succ, List.map_append, List.map_cons, List.map_nil, List.set_append_right _ _ (by simp)]
      rw [chL_all rs q (by omega)]
      simp
end Go.Proofs.YtjimglfeiceepaaGreatDoor
