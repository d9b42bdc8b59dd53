/-
  For rows that list errors of the library's: a world in which these lie.
-/
import Derived.Test.YteiifligdfnifaaDoorDoor
namespace Go.Proofs.YteiifligdfnifaaDoor
open Go.ChangeShapes Go.WideShapes Go.ChangeAt Go.RowKit

/-- The heap, the listed errors and tables laid. -/
def laidHeapE (P : Program) (l : List (String × DataW Unit)) (h : Array Obj) : Array Obj :=
  l.foldl (fun h p => match P.globalNamed p.1 with
    | some g => (match p.2 with
      | .iface _ (.ptr (.agg [.lit (.string bs)])) => (h.push (.cells #[.string ⟨bs.toArray⟩] 165 (0, 0))).modify g (relaid [.iface 148 (.pointer (some ⟨h.size, 0, none⟩))])
      | d => h.modify g (relaid (cellsD 4 d)))
    | none => h) h
/-- The settled world, the listed errors and tables laid. -/
noncomputable def laidWorldE (os : Os) (l : List (String × DataW Unit)) : World :=
  { World.holding Tryd.prog os ⟨#[], #[], []⟩ with heap := laidHeapE Tryd.prog l (World.holding Tryd.prog os ⟨#[], #[], []⟩).heap }
end Go.Proofs.YteiifligdfnifaaDoor
