/- The table of the program's functions. -/
import Derived.Test.YtmdppcokjdpnoaaRingLitA
namespace Go.Proofs.Ytmdppcokjdpnoaa
open Go Go.Vm

noncomputable def tab : List (List (Option AFunc)) := [[none, none, none, some a3, some a4, some a5, some a6, some a7, some a8, some a9, some a10, some a11, some a12, some a13, some a14, some a15],
  [some a16, some a17, some a18, some a19, some a20, some a21, some a22, some a23, some a24, some a25, none, none, none, none, none, none]]
theorem tabIs : TabIs Try.prog 0 tab := ⟨⟨e3, ⟨e4, ⟨e5, ⟨e6, ⟨e7, ⟨e8, ⟨e9, ⟨e10, ⟨e11, ⟨e12, ⟨e13, ⟨e14, ⟨e15, trivial⟩⟩⟩⟩⟩⟩⟩⟩⟩⟩⟩⟩⟩, ⟨⟨e16, ⟨e17, ⟨e18, ⟨e19, ⟨e20, ⟨e21, ⟨e22, ⟨e23, ⟨e24, ⟨e25, trivial⟩⟩⟩⟩⟩⟩⟩⟩⟩⟩, trivial⟩⟩
theorem Try.mixed : Try.prog.follows .mixedOrders = true := by kernel_rfl

end Go.Proofs.Ytmdppcokjdpnoaa
