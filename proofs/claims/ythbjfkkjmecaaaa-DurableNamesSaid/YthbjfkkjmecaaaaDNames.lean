/- The table of the program's functions. -/
import Derived.Test.YthbjfkkjmecaaaaDNamesA
import Derived.Test.YthbjfkkjmecaaaaDNamesB
namespace Go.Proofs.Ythbjfkkjmecaaaa
open Go Go.Vm

noncomputable def tab : List (List (Option AFunc)) := [[none, none, none, none, none, none, none, none, none, none, some a10, none, none, none, none, none],
  [none, none, none, none, none, none, none, none, none, none, none, none, none, none, none, none],
  [none, some a33, none, none, none, none, none, none, none, some a41, some a42, some a43, some a44, some a45, some a46, some a47],
  [some a48, some a49, some a50, some a51, none, none, none, none, none, none, none, none, none, none, none, none],
  [none, none, some a66, some a67, some a68, none, none, some a71, some a72, some a73, some a74, some a75, some a76, some a77, none, none],
  [none, none, none, none, none, some a85, some a86, some a87, some a88, some a89, some a90, some a91, some a92, some a93, some a94, some a95],
  [some a96, some a97, some a98, some a99, some a100, some a101, some a102, some a103, some a104, none, none, none, none, none, some a110, some a111],
  [some a112, some a113, some a114, some a115, some a116, some a117, none, some a119, some a120, some a121, some a122, some a123, some a124, some a125, some a126, some a127],
  [some a128, some a129, some a130, some a131, some a132, some a133, some a134, none, none, some a137, some a138, some a139, some a140, some a141, some a142, some a143],
  [some a144, some a145, some a146, some a147, some a148, none, none, none, none, none, none, none, none, none, none, none]]
theorem tabIs : TabIs Try.prog 0 tab := ⟨⟨e10, trivial⟩, ⟨trivial, ⟨⟨e33, ⟨e41, ⟨e42, ⟨e43, ⟨e44, ⟨e45, ⟨e46, ⟨e47, trivial⟩⟩⟩⟩⟩⟩⟩⟩, ⟨⟨e48, ⟨e49, ⟨e50, ⟨e51, trivial⟩⟩⟩⟩, ⟨⟨e66, ⟨e67, ⟨e68, ⟨e71, ⟨e72, ⟨e73, ⟨e74, ⟨e75, ⟨e76, ⟨e77, trivial⟩⟩⟩⟩⟩⟩⟩⟩⟩⟩, ⟨⟨e85, ⟨e86, ⟨e87, ⟨e88, ⟨e89, ⟨e90, ⟨e91, ⟨e92, ⟨e93, ⟨e94, ⟨e95, trivial⟩⟩⟩⟩⟩⟩⟩⟩⟩⟩⟩, ⟨⟨e96, ⟨e97, ⟨e98, ⟨e99, ⟨e100, ⟨e101, ⟨e102, ⟨e103, ⟨e104, ⟨e110, ⟨e111, trivial⟩⟩⟩⟩⟩⟩⟩⟩⟩⟩⟩, ⟨⟨e112, ⟨e113, ⟨e114, ⟨e115, ⟨e116, ⟨e117, ⟨e119, ⟨e120, ⟨e121, ⟨e122, ⟨e123, ⟨e124, ⟨e125, ⟨e126, ⟨e127, trivial⟩⟩⟩⟩⟩⟩⟩⟩⟩⟩⟩⟩⟩⟩⟩, ⟨⟨e128, ⟨e129, ⟨e130, ⟨e131, ⟨e132, ⟨e133, ⟨e134, ⟨e137, ⟨e138, ⟨e139, ⟨e140, ⟨e141, ⟨e142, ⟨e143, trivial⟩⟩⟩⟩⟩⟩⟩⟩⟩⟩⟩⟩⟩⟩, ⟨⟨e144, ⟨e145, ⟨e146, ⟨e147, ⟨e148, trivial⟩⟩⟩⟩⟩, trivial⟩⟩⟩⟩⟩⟩⟩⟩⟩⟩
theorem Try.mixed : Try.prog.follows .mixedOrders = true := by kernel_rfl

end Go.Proofs.Ythbjfkkjmecaaaa
