/-
  A literal map of integers: what a fresh entry leaves, what a look-up finds.
-/
import Derived.Test.YtjimglfeiceepaaGreatDoorBase
import Derived.MapKept
namespace Go.Proofs.YtjimglfeiceepaaGreatDoor
open Go.RowKit

section
variable {P : Program} {T K E : TypeId} {w : World} {B : Nat} {es : Array MapEntry} {clock : Nat}
theorem checkKey_int (hK : P.underlying K = some (.int .i64)) (b : Bool) (k : Int) (w : World) : (Instr.checkKey b 10000 K (.int .i64 k)).run P w = .ok () w := by
  unfold Instr.checkKey
  simp [run_underlying hK]

theorem findKey_int (hK : P.underlying K = some (.int .i64)) (k : Int) (es : List MapEntry) (r : Option (Nat × Value)) (h : Instr.findNow (.int .i64) (.int .i64 k) es 0 = some r) (w : World) : (Instr.findKey K (.int .i64 k) es).run P w = .ok r w := by
  unfold Instr.findKey
  simp [run_underlying hK, h]

theorem lookup_int (hT : P.underlying T = some (.map K E)) (hK : P.underlying K = some (.int .i64)) (hb : w.heap[B]? = some (.map es clock)) (k : Int) (i : Nat) (v : Value)
    (h : Instr.findNow (.int .i64) (.int .i64 k) es.toList 0 = some (some (i, v))) : (Instr.lookup T (.map (some B)) (.int .i64 k) false).run P w = .ok v w := by
  unfold Instr.lookup
  simp [run_underlying hT, MapKept.run_getObj_map hb, checkKey_int hK, findKey_int hK k _ _ h]

theorem insert_new (hT : P.underlying T = some (.map K E)) (hK : P.underlying K = some (.int .i64)) (hb : w.heap[B]? = some (.map es clock)) (k : Int) (v : Value)
    (h : Instr.findNow (.int .i64) (.int .i64 k) es.toList 0 = some none) :
    (Instr.mapUpdate T (.map (some B)) (.int .i64 k) v).run P w = .ok () { w with heap := w.heap.setIfInBounds B (.map (es.push { key := .int .i64 k, val := v, born := clock }) (clock + 1)) } := by
  unfold Instr.mapUpdate
  simp [run_underlying hT, MapKept.run_getObj_map hb, checkKey_int hK, findKey_int hK k _ _ h, MapKept.run_setObj_map _ hb]
theorem insert_fresh (hT : P.underlying T = some (.map K E)) (hK : P.underlying K = some (.int .i64)) (k : Int) (v : Value)
    (h : Instr.findNow (.int .i64) (.int .i64 k) es.toList 0 = some none) :
    (Instr.mapUpdate T (.map (some w.heap.size)) (.int .i64 k) v).run P (w.alloc (.map es clock)) = .ok () (w.alloc (.map (es.push { key := .int .i64 k, val := v, born := clock }) (clock + 1))) := by
  rw [insert_new hT hK (heap_alloc_new w _) k v h]
  have e : (w.alloc (.map es clock)).heap.setIfInBounds w.heap.size (.map (es.push { key := .int .i64 k, val := v, born := clock }) (clock + 1)) = (w.alloc (.map (es.push { key := .int .i64 k, val := v, born := clock }) (clock + 1))).heap := by
    show (w.heap.push _).setIfInBounds w.heap.size _ = w.heap.push _
    apply Array.ext_getElem?
    intro i
    rw [Array.getElem?_setIfInBounds]
    by_cases h : w.heap.size = i
    · subst h; simp
    · rw [if_neg h, Array.getElem?_push, Array.getElem?_push, if_neg (Ne.symm h), if_neg (Ne.symm h)]
  rw [e]
  rfl
end
end Go.Proofs.YtjimglfeiceepaaGreatDoor
