/- The library's sort, laid at this program. -/
import Derived.Shelf.SlSortCmp.WholeK
import Derived.Shelf.Lay
import Derived.Ground.SlsfProg
import Derived.Test.YtlaekicahpplbabProg
namespace Go.Proofs
open Go.Shelf Go.RowKit Go.Lib Go.Sort
shelf_lay_g SlLaysF0.n6 Slsf 6 at Try 52 as Try.sortRule
#check @Try.sortRule
end Go.Proofs
