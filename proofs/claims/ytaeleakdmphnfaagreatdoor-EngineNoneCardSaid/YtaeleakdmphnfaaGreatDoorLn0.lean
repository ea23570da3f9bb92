/- Short names of the printed code. -/
import Derived.Test.YtaeleakdmphnfaaGreatDoorVmExt
namespace Go.Vm
open Go
abbrev zb : AVal := .raw (.int .u8 0)
abbrev zi : AVal := .raw (.int .i64 0)
abbrev ns : AVal := .raw (.slice none 0 0)
abbrev ki (n : Int) : AVal := .raw (.int .i64 n)
abbrev ci : AOpd := .c zi
abbrev mv (n : Nat) : AOp := .move (.t n)
abbrev qq (d : Nat) (x : AOp) (u : List Nat) : AOper := ⟨some d, x, none, [], u, .quiet⟩
abbrev qr (d : Nat) (x : AOp) (a u : List Nat) (m : Go.Vm.Mode) : AOper := ⟨some d, x, none, a, u, m⟩
abbrev gm (d : Nat) (x : AOp) (g : Nat) (b : Bool) (a u : List Nat) : AOper := ⟨some d, x, some (g, b), a, u, .quiet⟩
end Go.Vm
