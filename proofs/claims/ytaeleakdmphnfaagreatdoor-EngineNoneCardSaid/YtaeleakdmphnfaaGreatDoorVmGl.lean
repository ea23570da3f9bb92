/- The package-level variables that are only read (super.widths, sum.halves), and what they hold. -/
import GoSem.Core.Value
namespace Go.Vm
open Go

/-- The blocks of the variables, with what they hold. -/
def glTab : List (Nat × List Value) := [
  (0, [.int .i64 1, .int .i64 1, .int .i64 1, .int .i64 1, .int .i64 1, .int .i64 1, .int .i64 1, .int .i64 3, .int .i64 8, .int .i64 8]),
  (2, [.int .u32 0, .int .u32 498536548, .int .u32 997073096, .int .u32 651767980, .int .u32 1994146192, .int .u32 1802195444, .int .u32 1303535960, .int .u32 1342533948, .int .u32 3988292384, .int .u32 4027552580, .int .u32 3604390888, .int .u32 3412177804, .int .u32 2607071920, .int .u32 2262029012, .int .u32 2685067896, .int .u32 3183342108])]

end Go.Vm
