/-
  What is proved here: the cells of an event, and three new blocks. No condition.
-/
import Derived.Test.YtmhkgfoimkonoaaDoorEvM
namespace Go.Proofs.YtmhkgfoimkonoaaDoor
open Go Go.RowKit Go.Proofs
def evC (e : Ev) : Array Value := #[.string e.src, .int .i64 e.num, .int .i64 e.tick, .int .i64 e.kind, .string e.person, .string e.item, .int .i64 e.value, .string e.text]
theorem three_new (w : World) (A B C : Obj) : (((w.alloc A).alloc B).alloc C).heap[w.heap.size]? = some A ∧ (((w.alloc A).alloc B).alloc C).heap[w.heap.size + 1]? = some B ∧ (((w.alloc A).alloc B).alloc C).heap[w.heap.size + 1 + 1]? = some C := by
  refine ⟨blk_old (blk_old (blk_new w A) B) C, blk_old ?_ C, ?_⟩
  · have := blk_new (w.alloc A) B
    simpa using this
  · have := blk_new ((w.alloc A).alloc B) C
    simpa using this
end Go.Proofs.YtmhkgfoimkonoaaDoor
