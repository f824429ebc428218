import Derived.Shelf.LaySoft
import Derived.Shelf.SortM.Plain
import Derived.Shelf.SortM.SortNone
import Derived.Shelf.Slices.CompactS
import Derived.Shelf.Spec.SearchS
import Derived.Shelf.Spec.SlicesInsertGrow
import Derived.Shelf.SlicesE.DeleteFunc
import Derived.Shelf.Small.Strs
import Derived.Shelf.Small.Wraps
import Derived.Ground.SlgmProg
import Derived.Ground.NamesProg
import Derived.Ground.Names2Prog
import Derived.Ground.SlgfProg
import Derived.Test.YtmbmnldheilffaaProg
namespace Go.Proofs
open Go.Shelf
shelf_try shelf_lay_g SlLaysM.n6 Slgm 6 at Try 59 as Try.sortS
shelf_try shelf_lay Lays.n194 Nm 194 at Try as Try.compS
shelf_try shelf_lay Lays2.n26 Nm2 26 at Try as Try.searchS
shelf_try shelf_lay Lays2.n22 Nm2 22 at Try as Try.insS
shelf_try shelf_lay_g SlLaysH.n10 Slgf 10 at Try 47 as Try.delS
shelf_try shelf_lay Lays.n106 Nm 106 at Try as Try.cmpS
shelf_try shelf_lay Lays.n122 Nm 122 at Try as Try.cmpI
shelf_tried
end Go.Proofs
