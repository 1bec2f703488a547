/- fdb.New. -/
import Derived.Test.YtmhfpiincnadiaaFdb8
import Derived.Test.YtmhfpiincnadiaaInts4
namespace Go.Proofs.Ytmhfpiincnadiaa
open Go.RowKit
open Go.ChangeMaps (setBlock)
set_option linter.unusedSimpArgs false
set_option linter.unusedVariables false

def newBaseM (room life : Int) : BaseM := { room := min (max room 1) 64, life := life, ents := [] }

theorem run_makeMap {P : Program} (t : TypeId) (w : World) : (Instr.makeMap t none).run P w = .ok (.map (some w.heap.size)) (w.alloc (.map #[] 0)) := by
  simp [Instr.makeMap, Result.andThen]

set_option maxRecDepth 100000 in
set_option maxHeartbeats 1000000 in
theorem fdbNew_any (room life : Int) (w : World) (hl0 : 0 ≤ life) (hl1 : life ≤ 18446744073709551615) :
    Calls Try.prog 35 #[i64 room, .int .u64 life] w fun r w' => ∃ p F, r = .returned (ptr p) ∧ BaseAt w' p F (newBaseM room life) ∧ Mod [] w w' ∧ ∀ b, b ∈ F → w.heap.size ≤ b := by
  have hmk := fun W => run_makeMap (P := Try.prog) 112 W
  go_enter Try.func35, Try.ntmps35
  go_wp2
  go_ret
  refine ⟨_, [w.heap.size + 1, w.heap.size], rfl, ⟨w.heap.size, [], ?_, rfl, rfl⟩, ((Mod.refl _ _).alloc _).alloc _, by simp⟩
  constructor
  · exact heap_alloc_at _ _ _ (by simp)
  · exact ⟨#[], 0, (heap_alloc_lt _ _ _ (by simp)).trans (heap_alloc_at _ _ _ rfl), isMap_nil _⟩
  · simp
  · simp
  · simp
  · simp
  · show 1 ≤ min (max room 1) 64; omega
  · show min (max room 1) 64 ≤ 64; omega
  · show (0 : Int) ≤ min (max room 1) 64; omega
  · exact hl0
  · exact hl1
end Go.Proofs.Ytmhfpiincnadiaa
