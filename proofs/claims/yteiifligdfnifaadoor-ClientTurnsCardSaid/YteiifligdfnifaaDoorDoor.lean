/-
  For rows that list package-level variables: a world in which they lie, and the road from a law's walk to its row.
-/
import Derived.Test.YteiifligdfnifaaDoorArgs
import Derived.Test.YteiifligdfnifaaDoorCards
import Derived.Test.YteiifligdfnifaaDoorTie
import Derived.Deep.DeepHandedRow
import Derived.Lib.LaidTab
namespace Go.Proofs.YteiifligdfnifaaDoor
open Go.ChangeShapes Go.WideShapes Go.ChangeAt Go.RowKit

/-- The cells of a table. -/
def cellsD : Nat → DataW Unit → List Value
  | 0, _ => []
  | n + 1, .agg l => l.flatMap (cellsD n)
  | _ + 1, .lit (.int k z) => [.int k z]
  | _, _ => []
/-- A block with other cells. -/
def relaid (cs : List Value) (o : Obj) : Obj := match o with
  | .cells _ t frozen => .cells cs.toArray t frozen
  | o => o
/-- The heap, the listed tables laid. -/
def laidHeap (P : Program) (l : List (String × DataW Unit)) (h : Array Obj) : Array Obj :=
  l.foldl (fun h p => match P.globalNamed p.1 with | some g => h.modify g (relaid (cellsD 4 p.2)) | none => h) h
/-- The settled world, the listed tables laid. -/
noncomputable def laidWorld (os : Os) (l : List (String × DataW Unit)) : World :=
  { World.holding Tryd.prog os ⟨#[], #[], []⟩ with heap := laidHeap Tryd.prog l (World.holding Tryd.prog os ⟨#[], #[], []⟩).heap }

/-- The whole road from a law's walk to its row, at one world: the first form. -/
theorem law_said_at {H : Type} {enc : TypeId × Value → H} {P : Program} {f : FuncId} {fn : Func} {s : ChangeSpec} {tb : TypeId} (T : Ty) (hT : okArgs P T fn.params.toList = true)
    (hl : laidOutB P = true) (hread : fn.params.toList.all (fun t => P.readableRec t && decide (t < P.types.size)) = true) (hvars : s.vars = []) (hres : fn.resultTypes = #[tb]) (hbool : P.underlying tb = some .bool)
    (hfn : ∀ ds : List (DataW H), ds.length = fn.params.toList.length → s.fn H ds = { results := [.lit (.bool true)], args := ds })
    (W : World) (walk : ∀ (vs : List Value) (el : T.El), ArgsRd W T vs el → Fit T el → Calls P f vs.toArray W fun e w' => e = .returned (.bool true) ∧ Below W.heap.size W w')
    (base : Nat) (args : Array Value) (ds gs : List (DataW H)) (before : List MemPlace)
    (hval : ∀ (j : Nat) t v, fn.params[j]? = some t → args[j]? = some v → Value.okWide P W .any base t v)
    (hW : DataW.Whole enc P fn.params.toList s.vars false W args.toList ds gs before)
    (hsz : (DataW.weightsEach P (fn.params.toList ++ s.plain.varTypes P) (ds ++ gs)).all (· ≤ reachBytes) = true) :
    Calls P f args W fun e W' => ∃ v, e = .returned v ∧ s.post enc P fn false true false false W args v W' := by
  have hW' := hW
  obtain ⟨p, q, hA, hV, rfl, hfz, hnd⟩ := hW
  rw [hvars] at hV
  obtain ⟨rfl, rfl⟩ := trodVars_none hV
  obtain ⟨el, r, ft, _⟩ := args_of T _ _ _ _ hT (fun j t v ht hv => hval j t v (by simpa using ht) (by simpa using hv)) hA
  have hvt : s.plain.varTypes P = [] := by simp [DataSpec.varTypes, ChangeSpec.plain, hvars]
  rw [hvt, List.append_nil, List.append_nil] at hsz
  refine (walk args.toList el r (ft (all_le hsz))).mono fun e w' ⟨he, hb⟩ => ?_
  exact ⟨_, he, law_post hl hread hvars hres hbool hfn hW' hb⟩

/-- The same: the second form. -/
theorem law_upto_at {H : Type} {enc : TypeId × Value → H} {P : Program} {f : FuncId} {fn : Func} {s : ChangeSpec} {tb : TypeId} (T : Ty) (hT : okArgs P T fn.params.toList = true)
    (hl : laidOutB P = true) (hread : fn.params.toList.all (fun t => P.readableRec t && decide (t < P.types.size)) = true) (hvars : s.vars = []) (hres : fn.resultTypes = #[tb]) (hbool : P.underlying tb = some .bool)
    (hfn : ∀ ds : List (DataW H), ds.length = fn.params.toList.length → s.fn H ds = { results := [.lit (.bool true)], args := ds })
    (W : World) (walk : ∀ (vs : List Value) (el : T.El), ArgsRd W T vs el → Blk T el ≤ 1048576 → Calls P f vs.toArray W fun e w' => e = .returned (.bool true) ∧ Below W.heap.size W w')
    (base : Nat) (args : Array Value) (ds gs : List (DataW H)) (before : List MemPlace)
    (hval : ∀ (j : Nat) t v, fn.params[j]? = some t → args[j]? = some v → Value.okWide P W .any base t v)
    (hW : DataW.Whole enc P fn.params.toList s.vars false W args.toList ds gs before)
    (hk : Rows.uptoSmall H (ds ++ gs) = true) :
    Calls P f args W fun e W' => ∃ v, e = .returned v ∧ s.post enc P fn false true false false W args v W' := by
  have hW' := hW
  obtain ⟨p, q, hA, hV, rfl, hfz, hnd⟩ := hW
  rw [hvars] at hV
  obtain ⟨rfl, rfl⟩ := trodVars_none hV
  obtain ⟨el, r, _, hb⟩ := args_of T _ _ _ _ hT (fun j t v ht hv => hval j t v (by simpa using ht) (by simpa using hv)) hA
  rw [List.append_nil] at hk
  have hk' : Rows.uptoBulkAll ds ≤ 1048576 := of_decide_eq_true hk
  refine (walk args.toList el r (Nat.le_trans hb hk')).mono fun e w' ⟨he, hb⟩ => ?_
  exact ⟨_, he, law_post hl hread hvars hres hbool hfn hW' hb⟩

/-- A text among the arguments. -/
theorem text_of_rd {w : World} {v : Value} {l : List UInt8} (h : Rd w .str [v] l) : v = .string ⟨l.toArray⟩ := by
  simpa using h.1
/-- Texts among the arguments. -/
theorem texts_of_rd {w : World} {v : Value} {l : List (List UInt8)} (h : Rd w (.slice .str) [v] l) : ∃ a cap, v = .slice a l.length cap ∧ (a = none → cap = 0) ∧ l.length ≤ cap ∧ cap ≤ maxLen ∧ RowAt w a (l.map fun s => Value.string ⟨s.toArray⟩) := by
  obtain ⟨a, cap, e, h0, h1, h2, h3, _⟩ := rd_slice1 (e := .str) (fun s => Value.string ⟨s.toArray⟩) (fun c x hc => hc.1) h
  exact ⟨a, cap, e, h0, h1, h2, h3⟩
end Go.Proofs.YteiifligdfnifaaDoor
