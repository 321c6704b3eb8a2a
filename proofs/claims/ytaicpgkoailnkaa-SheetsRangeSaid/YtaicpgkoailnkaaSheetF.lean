/- Package sheets, walked: Since and the function that it hands back. -/
import Derived.Test.YtaicpgkoailnkaaSheetD
import Derived.Test.YtaicpgkoailnkaaRange
namespace Go.Proofs.Ytaicpgkoailnkaa
open Go.RowKit Go.Shelf

theorem Since_any (b : Nat) (a : Int) (w : World) :
    Calls Try.prog 8 #[.pointer (some ⟨b, 0, none⟩), .int .i64 a] w fun r w' => r = .returned (.func (.func 30) #[] #[.pointer (some ⟨w.heap.size, 0, none⟩), .pointer (some ⟨w.heap.size + 1, 0, none⟩)]) ∧ Blk w' w.heap.size 23 [.pointer (some ⟨b, 0, none⟩)] ∧ Blk w' (w.heap.size + 1) 3 [.int .i64 a] ∧ Fr [] w w' := by
  go_enter Try.func8, Try.ntmps8
  go_wp2
  go_ret
  exact ⟨rfl, by repeat' (first | (with_reducible exact trivial) | (with_reducible apply Blk.drewN) | (with_reducible apply Blk.drew) | (with_reducible exact Blk.new _ _ _) | (with_reducible apply Blk.new'; simp; done) | (with_reducible apply Blk.alloc) | (with_reducible apply Blk.set') | (with_reducible apply Blk.far')), by repeat' (first | (with_reducible exact trivial) | (with_reducible apply Blk.drewN) | (with_reducible apply Blk.drew) | (with_reducible exact Blk.new _ _ _) | (with_reducible apply Blk.new'; simp; done) | (with_reducible apply Blk.alloc) | (with_reducible apply Blk.set') | (with_reducible apply Blk.far')), by repeat' (first | (with_reducible exact Fr.refl _ _) | (with_reducible assumption) | (with_reducible refine Fr.setCell' ?_ ?_) | (with_reducible refine Fr.drewN ?_ _) | (with_reducible refine Fr.drew ?_) | (with_reducible refine Fr.alloc ?_ _))⟩
end Go.Proofs.Ytaicpgkoailnkaa
