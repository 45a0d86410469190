/- The contract of bits.Flip at one place. -/
import Derived.Test.YtlfcfmdblmedcaaGreatDoorTStream
import Derived.Lib.ConvBytes
namespace Go.Proofs.YtlfcfmdblmedcaaGreatDoor.Mine
open Go.RowKit Go.Proofs.YtlfcfmdblmedcaaGreatDoorW.PrintWords
attribute [local go_sem] max_int min_int max_of_two min_of_two

/-- One bit turned. -/
def turnL (l : List Int) (i : Nat) : List Int := l.set i (97 - l.getD i 0)
theorem cell_lt {w : World} {a : Addr} {v : Value} (h : w.cell? a = some v) : a.block < w.heap.size := World.block_lt_of_cell? w a h
end Go.Proofs.YtlfcfmdblmedcaaGreatDoor.Mine
