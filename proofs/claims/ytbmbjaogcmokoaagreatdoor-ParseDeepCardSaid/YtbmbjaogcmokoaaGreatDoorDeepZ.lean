/- ParseDeep: an empty tree, for the literals. -/
import Derived.Test.YtbmbjaogcmokoaaGreatDoorDeep
namespace Go.Proofs.YtbmbjaogcmokoaaGreatDoor
open Go.Proofs.YtbmbjaogcmokoaaGreatDoorX
def z {α : Type} : T α := .nil
end Go.Proofs.YtbmbjaogcmokoaaGreatDoor
