/- The table of the program's functions. -/
import Derived.Test.YthbjfkkjmecaaaaNamesA
import Derived.Test.YthbjfkkjmecaaaaNamesB
import Derived.Test.YthbjfkkjmecaaaaNamesC
namespace Go.Proofs.Ythbjfkkjmecaaaa
open Go Go.Vm

noncomputable def tab : List (List (Option AFunc)) := [[none, none, none, none, none, none, none, some a7, none, none, none, none, some a12, none, none, none],
  [none, some a17, some a18, some a19, some a20, none, some a22, none, some a24, none, none, none, none, none, some a30, none],
  [none, some a33, none, none, some a36, some a37, some a38, some a39, none, none, none, none, none, none, none, none],
  [none, none, none, none, none, none, some a54, some a55, some a56, some a57, none, none, none, some a61, some a62, some a63],
  [some a64, some a65, some a66, some a67, some a68, none, some a70, none, none, none, none, none, none, none, none, none],
  [none, none, some a82, none, some a84, some a85, some a86, some a87, some a88, some a89, some a90, none, none, none, none, none],
  [none, none, none, none, none, none, none, none, none, none, none, none, some a108, some a109, some a110, some a111],
  [some a112, some a113, some a114, some a115, none, none, some a118, some a119, some a120, some a121, some a122, some a123, some a124, some a125, some a126, some a127],
  [some a128, some a129, some a130, some a131, some a132, none, none, some a135, none, some a137, some a138, some a139, some a140, some a141, some a142, some a143],
  [none, some a145, some a146, none, some a148, none, none, none, none, none, none, none, none, none, none, none]]
theorem tabIs : TabIs Try.prog 0 tab := ⟨⟨e7, ⟨e12, trivial⟩⟩, ⟨⟨e17, ⟨e18, ⟨e19, ⟨e20, ⟨e22, ⟨e24, ⟨e30, trivial⟩⟩⟩⟩⟩⟩⟩, ⟨⟨e33, ⟨e36, ⟨e37, ⟨e38, ⟨e39, trivial⟩⟩⟩⟩⟩, ⟨⟨e54, ⟨e55, ⟨e56, ⟨e57, ⟨e61, ⟨e62, ⟨e63, trivial⟩⟩⟩⟩⟩⟩⟩, ⟨⟨e64, ⟨e65, ⟨e66, ⟨e67, ⟨e68, ⟨e70, trivial⟩⟩⟩⟩⟩⟩, ⟨⟨e82, ⟨e84, ⟨e85, ⟨e86, ⟨e87, ⟨e88, ⟨e89, ⟨e90, trivial⟩⟩⟩⟩⟩⟩⟩⟩, ⟨⟨e108, ⟨e109, ⟨e110, ⟨e111, trivial⟩⟩⟩⟩, ⟨⟨e112, ⟨e113, ⟨e114, ⟨e115, ⟨e118, ⟨e119, ⟨e120, ⟨e121, ⟨e122, ⟨e123, ⟨e124, ⟨e125, ⟨e126, ⟨e127, trivial⟩⟩⟩⟩⟩⟩⟩⟩⟩⟩⟩⟩⟩⟩, ⟨⟨e128, ⟨e129, ⟨e130, ⟨e131, ⟨e132, ⟨e135, ⟨e137, ⟨e138, ⟨e139, ⟨e140, ⟨e141, ⟨e142, ⟨e143, trivial⟩⟩⟩⟩⟩⟩⟩⟩⟩⟩⟩⟩⟩, ⟨⟨e145, ⟨e146, ⟨e148, trivial⟩⟩⟩, trivial⟩⟩⟩⟩⟩⟩⟩⟩⟩⟩
theorem Try.mixed : Try.prog.follows .mixedOrders = true := by kernel_rfl

end Go.Proofs.Ythbjfkkjmecaaaa
