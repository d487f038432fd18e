/-
  A list of sectors that came in, and the two lists into which the first loop parts it.
-/
import Derived.Test.YtjimglfeiceepaaGreatDoorOuts
namespace Go.Proofs.YtjimglfeiceepaaGreatDoor
open Go.RowKit Go.Shelf

/-- A list of sectors that came in. -/
def InSW (w : World) (B : Nat) (A : Option Addr) (n : Nat) (l : List SW) : Prop :=
  l.length = n ∧ (0 < n → ∃ b off, A = some ⟨b, off, none⟩ ∧ b < B ∧ ∀ k (h : k < l.length), w.cell? ⟨b, off + k * 2, none⟩ = some (.int .i64 (l[k]'h).1) ∧ w.cell? ⟨b, off + k * 2 + 1, none⟩ = some (.string (l[k]'h).2))
theorem InSW.below {w w' : World} {B n : Nat} {A : Option Addr} {l : List SW} (h : InSW w B A n l) (hb : Below B w w') : InSW w' B A n l :=
  ⟨h.1, fun hn => by
    obtain ⟨b, off, e, hlt, hc⟩ := h.2 hn
    exact ⟨b, off, e, hlt, fun k hk => ⟨(hb.cell (p := ⟨b, off + k * 2, none⟩) hlt).trans (hc k hk).1, (hb.cell (p := ⟨b, off + k * 2 + 1, none⟩) hlt).trans (hc k hk).2⟩⟩⟩
theorem InSW.of_reads {w : World} {B n : Nat} {A : Option Addr} {l : List SW} (h : Reads w B 2 A n (swc l)) (hl : l.length = n) : InSW w B A n l :=
  ⟨hl, fun hn => by
    obtain ⟨ad, rfl, hb, hc⟩ := h.2 hn
    have h0 := hc 0 _ (swc_fst l 0 (by omega))
    have hs : ad.spot = none := by
      unfold World.cell? Addr.add at h0
      simp at h0
      split at h0
      · split at h0
        · cases h0
        · rename_i hsp
          simpa using hsp
      · cases h0
    obtain ⟨b, off, sp⟩ := ad
    simp only at hs
    subst hs
    refine ⟨b, off, rfl, hb, fun k hk => ?_⟩
    have e1 : ∀ j, (⟨b, off, none⟩ : Addr).add j = ⟨b, off + j, none⟩ := by intro j; unfold Addr.add; split <;> simp_all
    have h1 := hc (2 * k) _ (swc_fst l k hk)
    have h2 := hc (2 * k + 1) _ (swc_snd l k hk)
    rw [e1] at h1 h2
    rw [show off + k * 2 = off + 2 * k by omega, show off + 2 * k + 1 = off + (2 * k + 1) by omega]
    exact ⟨h1, h2⟩⟩

theorem Reads.new (W : World) (cs : List Value) (t : TypeId) (size n : Nat) (h : cs.length = n * size) : Reads (W.alloc (.cells cs.toArray t)) (W.heap.size + 1) size (some ⟨W.heap.size, 0, none⟩) n cs :=
  ⟨h, fun _ => ⟨_, rfl, Nat.lt_succ_self _, World.news_of_block (cs := cs.toArray) (t := t) (fr := (0, 0)) (heap_alloc_new W _)⟩⟩
def heads (l : List SW) : List SW := l.filter fun x => x.1 == 0
def others (l : List SW) : List SW := l.filter fun x => !(x.1 == 0)
theorem heads_snoc (l : List SW) (k : Nat) (h : k < l.length) : heads (l.take (k + 1)) = heads (l.take k) ++ (if ((l[k]'h).1 == 0) = true then [l[k]'h] else []) := by
  rw [List.take_succ_eq_append_getElem h, heads, List.filter_append, ← heads]
  congr 1
  cases hx : ((l[k]'h).1 == 0) <;> simp [hx]
theorem others_snoc (l : List SW) (k : Nat) (h : k < l.length) : others (l.take (k + 1)) = others (l.take k) ++ (if ((l[k]'h).1 == 0) = true then [] else [l[k]'h]) := by
  rw [List.take_succ_eq_append_getElem h, others, List.filter_append, ← others]
  congr 1
  cases hx : ((l[k]'h).1 == 0) <;> simp [hx]
theorem heads_le (l : List SW) (k : Nat) : (heads (l.take k)).length ≤ k := Nat.le_trans (List.length_filter_le _ _) (by simp; omega)
theorem others_le (l : List SW) (k : Nat) : (others (l.take k)).length ≤ k := Nat.le_trans (List.length_filter_le _ _) (by simp; omega)

/-- Two rows of the call's own that lie apart. -/
def apart (v u : Value) : Prop := v.ownBlock = none ∨ u.ownBlock = none ∨ v.ownBlock ≠ u.ownBlock

/-- What the first loop has made. -/
structure Parted (w : World) (B : Nat) (wr : World) (vz vr : Value) (zs rs : List SW) : Prop where
  z : wr.ownsRow B 25 2 vz zs.length (swc zs)
  r : wr.ownsRow B 25 2 vr rs.length (swc rs)
  ap : vz.ownBlock = none ∨ vz.ownBlock ≠ vr.ownBlock
  b : Below B w wr
theorem Parted.alloc {w : World} {B : Nat} {wr : World} {vz vr : Value} {zs rs : List SW} (h : Parted w B wr vz vr zs rs) (hB : B ≤ wr.heap.size) (o : Obj) : Parted w B (wr.alloc o) vz vr zs rs :=
  ⟨h.z.alloc o, h.r.alloc o, h.ap, h.b.alloc hB o⟩
theorem Parted.putz {w : World} {B : Nat} {wr w1 : World} {vz vr v1 : Value} {zs rs : List SW} {x : SW} (h : Parted w B wr vz vr zs rs) (hB : B ≤ wr.heap.size)
    (ho : w1.ownsRow B 25 2 v1 (zs.length + 1) (swc zs ++ [.int .i64 x.1, .string x.2])) (hg : wr.grownBy w1 vz.ownBlock) (hat : v1.ownBlock = vz.ownBlock ∨ v1.ownBlock = some wr.heap.size) : Parted w B w1 v1 vr (zs ++ [x]) rs := by
  have hne : vr.ownBlock = none ∨ vr.ownBlock ≠ vz.ownBlock := by
    rcases h.ap with e | e
    · cases hv : vr.ownBlock with
      | none => exact .inl rfl
      | some k => exact .inr (by rw [e]; simp)
    · exact .inr (Ne.symm e)
  refine ⟨by simpa [swc] using ho, h.r.kept hg hne, ?_, h.b.grown hg hB (fun k e => (h.z.lt k e).1)⟩
  rcases hat with e | e
  · rw [e]; exact h.ap
  · refine .inr fun he => ?_
    have := (h.r.lt wr.heap.size (by rw [← he, e])).2
    omega
theorem Parted.putr {w : World} {B : Nat} {wr w1 : World} {vz vr v1 : Value} {zs rs : List SW} {x : SW} (h : Parted w B wr vz vr zs rs) (hB : B ≤ wr.heap.size)
    (ho : w1.ownsRow B 25 2 v1 (rs.length + 1) (swc rs ++ [.int .i64 x.1, .string x.2])) (hg : wr.grownBy w1 vr.ownBlock) (hat : v1.ownBlock = vr.ownBlock ∨ v1.ownBlock = some wr.heap.size) : Parted w B w1 vz v1 zs (rs ++ [x]) := by
  refine ⟨h.z.kept hg h.ap, by simpa [swc] using ho, ?_, h.b.grown hg hB (fun k e => (h.r.lt k e).1)⟩
  rcases hat with e | e
  · rw [e]; exact h.ap
  · cases hv : vz.ownBlock with
    | none => exact .inl rfl
    | some k =>
      refine .inr fun he => ?_
      have := (h.z.lt k hv).2
      rw [e] at he
      injection he with he
      omega

end Go.Proofs.YtjimglfeiceepaaGreatDoor
