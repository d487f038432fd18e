/-
  The row of dasdlaw29.ReorganizeSteps, its statement and its tied card: for every list of sectors the law returns true and the list reads as it read; no condition beyond the row's own.
-/
import Derived.Test.YtjimglfeiceepaaGreatDoorLaw
import Derived.Test.YtjimglfeiceepaaGreatDoorCards
import Derived.Test.YtjimglfeiceepaaGreatDoorTie
import Derived.ProofKit
import Derived.SizedLaws
import Derived.OpenShut
import Derived.Deep.DeepHandedRow
import Derived.Deep.Slices
import Derived.Deep.Fields
import Derived.ChangeSame
import Derived.Lib.LaidTab
namespace Go.Proofs.YtjimglfeiceepaaGreatDoor
open Go.ChangeShapes Go.WideShapes Go.ChangeAt Go.RowKit Go.Deep Go.Shelf

theorem row_own : ownKnob Tryz.prog.godebug = none := by kernel_rfl
theorem row_laidOut : laidOutB Tryz.prog = true := by kernel_rfl
theorem row_bytes : Tryz.prog.bytesOf 25 = 24 := by kernel_rfl
theorem row_cells : Tryz.prog.cellsOf 25 = 2 := by kernel_rfl

section
variable {H : Type} {enc : TypeId × Value → H} {P : Program} {w : World} {base : Nat} {spare : Nat → Bool} {held : Bool}
theorem open_slice_fields {t e : TypeId} {fs : Array Field} {fuel : Nat} {cs : List Value} {x : DataW H × List MemPlace} (ht : P.underlying t = some (.slice e)) (he : P.underlying e = some (.struct fs))
    (hone : oneCellFields P fs = true) (hC : P.cellsOf e = fs.size) (h : DataW.trod enc P w base spare held fuel t cs = some x) :
    (cs = [.slice none 0 0] ∧ x = (.nil, [])) ∨
    ∃ (a : Addr) (len cap m : Nat) (D : Nat → DataW H) (Pl : Nat → List MemPlace), cs = [.slice (some a) len cap] ∧ base ≤ a.block ∧ len ≤ cap ∧ cap ≤ maxLen ∧ m = (if spare a.block then cap else len) ∧
      x = (.slice ((List.range len).map D) ((List.range (m - len)).map fun j => D (len + j)), MemPlace.row a (m * fs.size) ++ (List.range m).flatMap Pl) ∧
      ∀ i, i < m → ∃ (ys : List (DataW H × List MemPlace)) (n : Nat), D i = .agg (ys.map (·.1)) ∧ Pl i = ys.flatMap (·.2) ∧ ys.length = fs.size ∧
        ∀ (j : Nat) (f : Field), fs[j]? = some f → ∃ (v : Value) (y : DataW H × List MemPlace), w.cell? (a.add (i * fs.size + j)) = some v ∧ ys[j]? = some y ∧ DataW.trod enc P w base spare held n f.type [v] = some y := by
  rcases open_slice ht h with h0 | ⟨a, len, cap, m, n, D, Pl, hcs, hb, hl, hm, hmm, hx, hi⟩
  · exact .inl h0
  · refine .inr ⟨a, len, cap, m, D, Pl, hcs, hb, hl, hm, hmm, by rw [hC] at hx; exact hx, fun i him => ?_⟩
    obtain ⟨cs', hc, ht'⟩ := hi i him
    rw [hC] at hc
    obtain ⟨ys, n', hn', hy, hlen, hyl, hf⟩ := DataW.trod_struct he ht'
    obtain ⟨_, hcl, hat⟩ := World.cells?_some hc
    simp only [Prod.mk.injEq] at hy
    refine ⟨ys, n', hy.1, hy.2, hyl, fun j f hj => ?_⟩
    obtain ⟨ho, hk⟩ := hone_of hone j f hj
    have hjl : j < fs.size := (Array.getElem?_eq_some_iff.1 hj).1
    have hcell := hat j hjl
    have hv : cs'[j]? = some (cs'[j]'(by omega)) := List.getElem?_eq_getElem (by omega)
    have h1 := hf j f hj
    rw [ho, hk] at h1
    have hone' : (cs'.drop j).take 1 = [cs'[j]'(by omega)] := by
      rw [List.drop_eq_getElem_cons (by omega)]
      rfl
    rw [hone'] at h1
    have hys : ys[j]? = some (ys[j]'(by omega)) := List.getElem?_eq_getElem (by omega)
    refine ⟨_, _, ?_, hys, h1.trans hys⟩
    rw [← Go.Deep.add_add, hcell, hv]
end

theorem row_cell_lt {w : World} {b i : Nat} {v : Value} (h : w.cell? ⟨b, i, none⟩ = some v) : b < w.heap.size := by
  unfold World.cell? at h
  simp at h
  split at h
  · rename_i hx
    exact (Array.getElem?_eq_some_iff.1 hx).1
  · cases h
/-- A list of sectors that came in, nil or not, as the law's contract wants it. -/
theorem row_open {H : Type} {enc : TypeId × Value → H} {W : World} {v : Value} {fuel : Nat} {x : DataW H × List MemPlace}
    (h : DataW.trod enc Tryz.prog W 0 (fun _ => true) true fuel 22 [v] = some x) :
    ∃ (A : Option Addr) (n c : Nat) (l : List SW), v = .slice A n c ∧ InSW W W.heap.size A n l ∧ (n = 0 ∨ ∃ es sp, x.1 = .slice es sp ∧ es.length = n) := by
  rcases open_slice_fields Tryz.underlying22 Tryz.underlying25 (by kernel_rfl) row_cells h with ⟨hcs, hx⟩ | ⟨a, len, cap, m, D, Pl, hcs, _, hl, hm, hmm, hx, hi⟩
  · simp at hcs
    exact ⟨none, 0, 0, [], hcs, ⟨rfl, fun h => absurd h (by omega)⟩, .inl rfl⟩
  · simp at hcs
    simp only [if_true] at hmm
    subst hmm hcs hx
    have hf : ∀ i, i < len → ∃ x : SW, W.cell? (a.add (i * 2)) = some (.int .i64 x.1) ∧ W.cell? (a.add (i * 2 + 1)) = some (.string x.2) := by
      intro i hil
      obtain ⟨ys, k, _, _, _, hfs⟩ := hi i (by omega)
      obtain ⟨v0, y0, hc0, _, ht0⟩ := hfs 0 _ rfl
      obtain ⟨v1, y1, hc1, _, ht1⟩ := hfs 1 _ rfl
      obtain ⟨z, hv0, _⟩ := DataW.trod_int Tryz.underlying3 ht0
      obtain ⟨s, hv1, _⟩ := DataW.trod_string Tryz.underlying9 ht1
      simp at hv0 hv1
      subst hv0 hv1
      exact ⟨(z, s), by simpa using hc0, by simpa using hc1⟩
    refine ⟨some a, len, _, (List.range len).map fun i => if hil : i < len then Classical.choose (hf i hil) else default, rfl, ⟨by simp, fun hn => ?_⟩, .inr ⟨_, _, rfl, by simp⟩⟩
    obtain ⟨b, off, spot⟩ := a
    have hspot : spot = none := by
      obtain ⟨y, hy, _⟩ := hf 0 hn
      simpa [Addr.add] using World.cell?_spot hy
    subst hspot
    refine ⟨b, off, rfl, ?_, fun k hk => ?_⟩
    · obtain ⟨y, hy, _⟩ := hf 0 hn
      exact row_cell_lt hy
    · have hk' : k < len := by simpa using hk
      have := Classical.choose_spec (hf k hk')
      simp only [List.getElem_map, List.getElem_range, dif_pos hk']
      have e1 : ∀ j, (⟨b, off, none⟩ : Addr).add j = ⟨b, off + j, none⟩ := by intro j; unfold Addr.add; split <;> simp_all
      generalize Classical.choose (hf k hk') = y at this ⊢
      rw [e1, e1] at this
      exact this

/-- The cells of a datum of numbers and truths. -/
def litCells : DataW Unit → List Value
  | .lit (.int k z) => [.int k z]
  | .lit (.bool b) => [.bool b]
  | .agg ds => ds.flatMap fun
    | .lit (.int k z) => [.int k z]
    | .lit (.bool b) => [.bool b]
    | .agg es => es.flatMap fun
      | .lit (.int k z) => [.int k z]
      | .lit (.bool b) => [.bool b]
      | _ => []
    | _ => []
  | _ => []
def layAt (h : Array Obj) (b : Nat) (d : DataW Unit) : Array Obj := h.modify b fun
  | .cells _ t frozen => .cells (litCells d).toArray t frozen
  | o => o
/-- A world for the witness: the settled one, the three tables holding what their initialisers lay. -/
noncomputable def laidWorld (os : Os) : World :=
  { World.holding Tryz.prog os ⟨#[], #[], []⟩ with heap := layAt (layAt (layAt (World.holding Tryz.prog os ⟨#[], #[], []⟩).heap 3 Rows.laid_unicode_utf8_acceptRanges) 1 Rows.laid_dasd_spanned_codes) 2 Rows.laid_unicode_utf8_first }
theorem laid_met (os : Os) : laidMet Tryz.prog Rows.reorganizeStepsRow.laid ((laidWorld os).forCall (fun _ _ => 0) ⟨#[], #[.slice none 0 0], []⟩).memory :=
  laidMet_of_run' 8 (by kernel_rfl) (by kernel_rfl)
theorem row_reads (os : Os) {H : Type} (enc : TypeId × Value → H) : ∃ places, DataW.whole enc Tryz.prog ((laidWorld os).forCall (fun _ _ => 0) ⟨#[], #[.slice none 0 0], []⟩).memory Tryz.f3.params.toList Rows.reorganizeStepsSpec.vars false #[Value.slice none 0 0].toList 8 = some ([.nil], [], places) :=
  ⟨[], by kernel_rfl⟩

set_option maxRecDepth 100000 in
/-- What the walk gives, for every argument and every world. -/
theorem row_contract (H : Type) (enc : TypeId × Value → H) (W : World) (base : Nat) (args : Array Value) (ds gs : List (DataW H)) (before : List MemPlace)
    (hval0 : ∀ (j : Nat) t v, Tryz.f3.params[j]? = some t → args[j]? = some v → Value.okWide Tryz.prog W .any base t v)
    (hW : DataW.Whole enc Tryz.prog Tryz.f3.params.toList Rows.reorganizeStepsSpec.vars false W args.toList ds gs before)
    (hsz : (DataW.weightsEach Tryz.prog (Tryz.f3.params.toList ++ Rows.reorganizeStepsSpec.plain.varTypes Tryz.prog) (ds ++ gs)).all (· ≤ reachBytes) = true) :
    Calls Tryz.prog 3 args W fun e W' => ∃ v, e = .returned v ∧ Rows.reorganizeStepsSpec.post enc Tryz.prog Tryz.f3 false true false false W args v W' := by
  have hW' := hW
  obtain ⟨p, q, hA0, hV, rfl, _, _⟩ := hW
  have hA : DataW.TrodAll enc Tryz.prog W 0 (fun _ => true) true Tryz.f3.params.toList args.toList ds p := hA0
  have hval : ∀ (j : Nat) t v, Tryz.f3.params[j]? = some t → args[j]? = some v → Value.okWide Tryz.prog W .any base t v := hval0
  rw [Tryz.params3] at hA hsz hval
  obtain ⟨v0, vs0, d0, ds0, p0, q0, hargs, rfl, rfl, h0, r0⟩ := trodAll_cons hA
  obtain ⟨rfl, rfl, rfl⟩ := trodAll_nil r0
  obtain rfl : args = #[v0] := by cases args; simp_all
  obtain ⟨rfl, rfl⟩ := trodVars_none hV
  simp only [List.append_nil] at hW' hsz
  have hlt : ∀ x ∈ p0, x.block < W.heap.size := fun x hx => by simpa using hW'.lt x (by simpa using hx)
  obtain ⟨A0, n0, c0, rfl⟩ := okWide_slice Tryz.underlying22 (hval 0 _ v0 rfl rfl)
  clear hval hval0
  have h0k := h0
  obtain ⟨fuel0, hf0⟩ := h0
  obtain ⟨A, n, c, l, hv, hin, hshape⟩ := row_open hf0
  obtain ⟨rfl, rfl, rfl⟩ : A0 = A ∧ n0 = n ∧ c0 = c := by simpa using hv
  have hreach : n0 * 24 ≤ 140737488351232 := by
    rcases hshape with h | ⟨es, sp, hd, hl⟩
    · omega
    · have := sized_slice hsz (j := 0) (t := 22) (e := 25) rfl (by simp only at hd; rw [hd]; rfl) Tryz.underlying22
      rw [row_bytes] at this
      simp only [reachBytes] at this
      omega
  refine (law_any A0 n0 c0 l W hin hreach).mono fun e W' ⟨he, bel⟩ => ?_
  subst he
  have e1 : Rows.reorganizeStepsSpec.fn H ([d0] ++ []) = { results := [.lit (.bool true)], args := [d0] } := rfl
  refine ⟨_, rfl, _, _, _, [], p0, [], hW', ?_, ?_, ?_, bel.frame _, fun h => by cases h⟩
  · rw [e1]; exact trodAll_mk1 (shut_bool Tryz.underlying4 _)
  · rw [e1]; exact trodAll_mk1 (Below.trod row_laidOut (by kernel_rfl) (of_decide_eq_true (by kernel_rfl)) h0k bel hlt)
  · rw [e1]; rfl

set_option maxRecDepth 100000 in
theorem row_lifted (os : Os) (started : os.Started) (H : Type) (enc : TypeId × Value → H) (F : Stop.Interp) :
    ReturnsInHanded {} Tryz.checked os 3 .any ((OpenSpec.ofChange Rows.reorganizeStepsSpec).preRow enc Tryz.prog Tryz.f3 Rows.reorganizeStepsRow.domain false Rows.reorganizeStepsRow.laid) (((OpenSpec.ofChange Rows.reorganizeStepsSpec).at F).post enc Tryz.prog Tryz.f3 false true false false) := by
  obtain ⟨places, hx⟩ := row_reads os enc
  refine returnsInHanded_of_row (C := Tryz.checked) (s := OpenSpec.ofChange Rows.reorganizeStepsSpec) row_own started (by kernel_rfl) Tryz.func3
    (witness_row_at (enc := enc) (C := Tryz.checked) false (laidWorld os) #[.slice none 0 0] rfl (by kernel_rfl) (by kernel_rfl) (by kernel_rfl)
      (OpenSpec.preRow_of_cond 8 hx (by kernel_rfl) (fun k hk => by cases hk) (by kernel_rfl) (laid_met os))) ?_
  intro W base args ds gs before hval hW _ _ hsz _ _ _
  exact row_contract H enc W base args ds gs before hval hW hsz

/-- The statement of the row. -/
theorem steps_said : Rows.ReorganizeStepsSaid :=
  OpenClaim.holds_of_cond 3 Tryz.f3 rfl rfl rfl rfl rfl rfl rfl ⟨rfl, rfl, rfl, rfl, rfl⟩ rfl rfl rfl rfl rfl (by kernel_rfl) Tryz.func3 (by kernel_rfl)
    (of_decide_eq_true (by kernel_rfl)) (by unfold Func.isWrapper; first | (rw [if_pos (by decide +kernel)]; kernel_rfl) | (rw [if_neg (by decide +kernel)]; exact ⟨rfl, rfl⟩))
    (fun os started H enc _ F => by rw [OpenClaim.pre_eq_preRow]; exact row_lifted os started H enc F)

/-- No parameter wants a stand-in; the program's own looks are off. -/
theorem row_plain (f : FuncId) (fn : Func) (hf : Tryz.pinned.checked.prog.funcNamed "dasd/dasdlaw29.ReorganizeSteps" = some f) (hfn : Tryz.pinned.checked.prog.funcs[f]? = some fn) :
    false = Tryz.pinned.checked.prog.looks [] ∧ ∀ (j : Nat) t, fn.params[j]? = some t → Tryz.pinned.checked.prog.wantsStandIn t = false := by
  obtain rfl : f = 3 := Option.some.inj ((show Tryz.prog.funcNamed "dasd/dasdlaw29.ReorganizeSteps" = some 3 by kernel_rfl).symm.trans hf) |>.symm
  obtain rfl : fn = Tryz.f3 := (Option.some.inj (Tryz.func3.symm.trans hfn)).symm
  refine ⟨by kernel_rfl, fun j t ht => ?_⟩
  rw [Tryz.params3] at ht
  obtain rfl : t = 22 := by simpa using Array.mem_of_getElem? ht
  exact (show Tryz.prog.wantsStandIn 22 = false by kernel_rfl)

/-- The tied card of the row. -/
theorem steps_card : Rows.ReorganizeStepsCardSaid :=
  Claim7.holds_tied_plain_at .later [] _ _ _ _ steps_said (fun _ h => by cases h) (by kernel_rfl) (fun _ h => by cases h) reorganizeSteps_row_tie rfl ⟨rfl, rfl⟩ (by kernel_rfl) rfl row_plain (by kernel_rfl)
end Go.Proofs.YtjimglfeiceepaaGreatDoor
