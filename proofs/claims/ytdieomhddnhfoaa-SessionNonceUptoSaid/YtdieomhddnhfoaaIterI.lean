/-
  DERIVED: THE SHELF's CONTRACTS AT THIS DUMP, IN PLAIN WORDS (tools/lay-plain.mjs out of 'YtdieomhddnhfoaaIterI.lean', which tools/lay-shelf.mjs wrote): THE SAME DECLARATIONS UNDER THE SAME NAMES: 'import', 'namespace', 'open', 'def', 'theorem' AND NOTHING ELSE: no command of the shelf's: FOR A HAND-IN. Each laying: the table of numbers ('.._ren') and one theorem, a field a fact of the dump's own or the kernel's comparison; each contract: ONE APPLICATION.
-/
import Derived.Shelf.SlIterI.Nil
import Derived.Shelf.SortM.Plain
import Derived.Shelf.SortM.SortNone
import Derived.Ground.GgzProg
import Derived.Ground.SlgmProg
import Derived.Test.YtdieomhddnhfoaaProg
namespace Go.Proofs
open Go.Shelf
def Try.keys30_ren : Go.Shelf.Ren := ⟨fun | 7 => 30 | 10 => 36 | n => n, fun | 23 => 60 | 26 => 3 | 3 => 63 | 28 => 78 | 0 => 0 | 27 => 77 | 33 => 58 | 4 => 4 | n => n, fun | n => n⟩
theorem Try.keys30 : Go.Proofs.SlLaysZI.n7 Try.prog Try.keys30_ren := {
  mixed := by kernel_rfl
  f7 := ⟨Try.f30.name, by decide, Try.func30.trans (congrArg some (by kernel_rfl))⟩
  f10 := ⟨Try.f36.name, by decide, Try.func36.trans (congrArg some (by kernel_rfl))⟩
  t0 := Try.underlying0
  a0 := Try.isAgg0
  z0 := Try.sizeOf0
  v0 := Try.zeroValue0
  t4 := Try.underlying4
  a4 := Try.isAgg4
  z4 := Try.sizeOf4
  v4 := Try.zeroValue4
  t23 := Try.underlying60
  a23 := Try.isAgg60
  z23 := Try.sizeOf60
  v23 := Try.zeroValue60
  t26 := Try.underlying3
  a26 := Try.isAgg3
  z26 := Try.sizeOf3
  v26 := Try.zeroValue3
  t27 := Try.underlying77
  a27 := Try.isAgg77
  z27 := Try.sizeOf77
  v27 := Try.zeroValue77
  t28 := Try.underlying78
  a28 := Try.isAgg78
  z28 := Try.sizeOf78
  v28 := Try.zeroValue78
  t33 := Try.underlying58
  a33 := Try.isAgg58
  z33 := Try.sizeOf58
  v33 := Try.zeroValue58 }
def Try.sorted29_ren : Go.Shelf.Ren := ⟨fun | 6 => 29 | 8 => 34 | 9 => 35 | 11 => 40 | 13 => 39 | 12 => 41 | 23 => 51 | 24 => 52 | 14 => 53 | 15 => 54 | 16 => 55 | 17 => 56 | 18 => 57 | 19 => 58 | 20 => 59 | 21 => 60 | 22 => 61 | 25 => 68 | 26 => 63 | 27 => 64 | 28 => 69 | 29 => 70 | 30 => 71 | 31 => 73 | n => n, fun | 26 => 3 | 28 => 78 | 24 => 22 | 0 => 0 | 3 => 3 | 37 => 85 | 48 => 98 | 50 => 100 | 4 => 4 | 40 => 90 | 39 => 89 | 45 => 95 | 5 => 5 | 9 => 9 | 51 => 107 | 55 => 111 | 57 => 115 | 58 => 116 | 33 => 58 | n => n, fun | n => n⟩
theorem Try.sorted29 : Go.Proofs.SlLaysZI.n6 Try.prog Try.sorted29_ren := {
  mixed := by kernel_rfl
  f6 := ⟨Try.f29.name, by decide, Try.func29.trans (congrArg some (by kernel_rfl))⟩
  f8 := ⟨Try.f34.name, by decide, Try.func34.trans (congrArg some (by kernel_rfl))⟩
  f11 := ⟨Try.f40.name, by decide, Try.func40.trans (congrArg some (by kernel_rfl))⟩
  t0 := Try.underlying0
  a0 := Try.isAgg0
  z0 := Try.sizeOf0
  v0 := Try.zeroValue0
  t24 := Try.underlying22
  a24 := Try.isAgg22
  z24 := Try.sizeOf22
  v24 := Try.zeroValue22
  t26 := Try.underlying3
  a26 := Try.isAgg3
  z26 := Try.sizeOf3
  v26 := Try.zeroValue3
  t28 := Try.underlying78
  a28 := Try.isAgg78
  z28 := Try.sizeOf78
  v28 := Try.zeroValue78
  i26 := by kernel_rfl }
def Try.sort35_ren : Go.Shelf.Ren := ⟨fun | 5 => 35 | 8 => 39 | 7 => 41 | 19 => 51 | 20 => 52 | 10 => 53 | 11 => 54 | 12 => 55 | 13 => 56 | 14 => 57 | 15 => 58 | 16 => 59 | 17 => 60 | 18 => 61 | 30 => 68 | 31 => 63 | 32 => 64 | 33 => 69 | 34 => 70 | 35 => 71 | 40 => 73 | n => n, fun | 23 => 22 | 25 => 3 | 3 => 3 | 32 => 85 | 22 => 22 | 0 => 0 | 44 => 98 | 46 => 100 | 4 => 4 | 36 => 90 | 35 => 89 | 41 => 95 | 5 => 5 | 9 => 9 | 53 => 107 | 57 => 111 | 63 => 115 | 64 => 116 | n => n, fun | n => n⟩
theorem Try.sort35 : Go.Proofs.SlLaysM.n5 Try.prog Try.sort35_ren := {
  mixed := by kernel_rfl
  f5 := ⟨Try.f35.name, by decide, Try.func35.trans (congrArg some (by kernel_rfl))⟩
  f7 := ⟨Try.f41.name, by decide, Try.func41.trans (congrArg some (by kernel_rfl))⟩
  f8 := Try.func39.trans (congrArg some (by kernel_rfl))
  f10 := ⟨Try.f53.name, by decide, Try.func53.trans (congrArg some (by kernel_rfl))⟩
  f11 := ⟨Try.f54.name, by decide, Try.func54.trans (congrArg some (by kernel_rfl))⟩
  f12 := ⟨Try.f55.name, by decide, Try.func55.trans (congrArg some (by kernel_rfl))⟩
  f13 := ⟨Try.f56.name, by decide, Try.func56.trans (congrArg some (by kernel_rfl))⟩
  f14 := ⟨Try.f57.name, by decide, Try.func57.trans (congrArg some (by kernel_rfl))⟩
  f15 := ⟨Try.f58.name, by decide, Try.func58.trans (congrArg some (by kernel_rfl))⟩
  f16 := ⟨Try.f59.name, by decide, Try.func59.trans (congrArg some (by kernel_rfl))⟩
  f17 := ⟨Try.f60.name, by decide, Try.func60.trans (congrArg some (by kernel_rfl))⟩
  f18 := ⟨Try.f61.name, by decide, Try.func61.trans (congrArg some (by kernel_rfl))⟩
  f19 := Try.func51.trans (congrArg some (by kernel_rfl))
  f20 := Try.func52.trans (congrArg some (by kernel_rfl))
  f30 := ⟨Try.f68.name, by decide, Try.func68.trans (congrArg some (by kernel_rfl))⟩
  f31 := Try.func63.trans (congrArg some (by kernel_rfl))
  f32 := Try.func64.trans (congrArg some (by kernel_rfl))
  f33 := ⟨Try.f69.name, by decide, Try.func69.trans (congrArg some (by kernel_rfl))⟩
  f34 := ⟨Try.f70.name, by decide, Try.func70.trans (congrArg some (by kernel_rfl))⟩
  f35 := ⟨Try.f71.name, by decide, Try.func71.trans (congrArg some (by kernel_rfl))⟩
  f40 := ⟨Try.f73.name, by decide, Try.func73.trans (congrArg some (by kernel_rfl))⟩
  t0 := Try.underlying0
  a0 := Try.isAgg0
  z0 := Try.sizeOf0
  v0 := Try.zeroValue0
  t3 := Try.underlying3
  a3 := Try.isAgg3
  z3 := Try.sizeOf3
  v3 := Try.zeroValue3
  t4 := Try.underlying4
  a4 := Try.isAgg4
  z4 := Try.sizeOf4
  v4 := Try.zeroValue4
  t5 := Try.underlying5
  a5 := Try.isAgg5
  z5 := Try.sizeOf5
  v5 := Try.zeroValue5
  t9 := Try.underlying9
  a9 := Try.isAgg9
  z9 := Try.sizeOf9
  v9 := Try.zeroValue9
  t22 := Try.underlying22
  a22 := Try.isAgg22
  z22 := Try.sizeOf22
  v22 := Try.zeroValue22
  t23 := Try.underlying22
  a23 := Try.isAgg22
  z23 := Try.sizeOf22
  v23 := Try.zeroValue22
  t25 := Try.underlying3
  a25 := Try.isAgg3
  z25 := Try.sizeOf3
  v25 := Try.zeroValue3
  t32 := Try.underlying85
  a32 := Try.isAgg85
  z32 := Try.sizeOf85
  v32 := Try.zeroValue85
  t35 := Try.underlying89
  a35 := Try.isAgg89
  z35 := Try.sizeOf89
  v35 := Try.zeroValue89
  t36 := Try.underlying90
  a36 := Try.isAgg90
  z36 := Try.sizeOf90
  v36 := Try.zeroValue90
  t41 := Try.underlying95
  a41 := Try.isAgg95
  z41 := Try.sizeOf95
  v41 := Try.zeroValue95
  t44 := Try.underlying98
  a44 := Try.isAgg98
  z44 := Try.sizeOf98
  v44 := Try.zeroValue98
  t46 := Try.underlying100
  a46 := Try.isAgg100
  z46 := Try.sizeOf100
  v46 := Try.zeroValue100
  t53 := Try.underlying107
  a53 := Try.isAgg107
  z53 := Try.sizeOf107
  v53 := Try.zeroValue107
  t57 := Try.underlying111
  a57 := Try.isAgg111
  z57 := Try.sizeOf111
  v57 := Try.zeroValue111
  t63 := Try.underlying115
  a63 := Try.isAgg115
  z63 := Try.sizeOf115
  v63 := Try.zeroValue115
  t64 := Try.underlying116
  a64 := Try.isAgg116
  z64 := Try.sizeOf116
  v64 := Try.zeroValue116 }

open Go.RowKit Go.Maps Go.Sort

/-- slices.Sort's two contracts at this dump, at the fence that asks nothing. -/
theorem Try.sorts29 (m : Nat) : AnyZI.SortsIn Try.prog Try.sorted29_ren Fence.wide m :=
  ⟨fun blk off cap ss W hH hblk hsz => callsIn_wide.2 (AnyM.slices_Sort_int Try.sort35 blk off cap ss W hH hblk hsz),
   fun p cap W => callsIn_wide.2 (AnyM.slices_Sort_int_none Try.sort35 p cap W)⟩

/-- maps.Keys at whatever map. -/
theorem Try.maps_Keys_30 (mb : Option Nat) (W : World) : CallsIn Fence.wide 5 Try.prog 30 #[.map mb] W fun e w' => e = .returned (.func (.func 36) #[] #[.pointer (some ⟨W.heap.size, 0, none⟩)]) ∧ w' = W.alloc (.cells #[.map mb] 60) :=
  AnyZI.keys_in Try.keys30 Fence.wide 5 trivial rfl mb W

set_option maxHeartbeats 1000000 in
/-- slices.Sorted at what maps.Keys handed back for a map that is not nil. -/
theorem Try.slices_Sorted_keys_29_30 {H : Type} (b nn : Nat) (D0 : DataW H) (R : Value → Option (DataW H × List MemPlace)) (w : World) (hown : w.ownsMap Try.prog 3 R b nn D0) (hmax : Maps.size D0 ≤ maxLen) (hbytes : Maps.size D0 * 8 ≤ 140737488355328) :
    CallsIn Fence.wide 5 Try.prog 29 #[.func (.func 36) #[] #[.pointer (some ⟨w.heap.size, 0, none⟩)]] (w.alloc (.cells #[.map (some b)] 60)) fun e w' => ∃ (v : Value) (ss : List Int), e = .returned v ∧ ss.Perm (intKeys D0) ∧
      w'.ownsRow (w.alloc (.cells #[.map (some b)] 60)).heap.size 3 1 v ss.length ((ss.mergeSort (fun x y => decide (x ≤ y))).map encZ) ∧ (v = .slice none 0 0 ↔ ss = []) ∧ Below (w.alloc (.cells #[.map (some b)] 60)).heap.size (w.alloc (.cells #[.map (some b)] 60)) w' := by
  have hbl := hown.lt
  have hseq : SeqGives Fence.wide 2 Try.prog 36 #[.pointer (some ⟨w.heap.size, 0, none⟩)] encZ (fun ss => ss.Perm (intKeys D0)) (Maps.size D0) (w.alloc (.cells #[.map (some b)] 60)) :=
    AnyZI.keys_gives (ρ := Try.keys30_ren) { Try.keys30 with } Fence.wide _ trivial rfl (by omega) w.heap.size b nn D0 _ (by simp) (by simp) (by
      obtain ⟨es, clock, hb, Ft, hs, hD⟩ := hown
      exact ⟨es, clock, (Below.heap_alloc _ _ b hbl).trans hb, Ft, hs, hD⟩)
  exact AnyZI.sorted_in Try.sorted29 Fence.wide 5 trivial trivial trivial trivial rfl (by omega) (Try.sorts29 _) (enters_of Try.func35 (by kernel_rfl) rfl) 36 #[.pointer (some ⟨w.heap.size, 0, none⟩)] trivial (enters_of Try.func36 (by kernel_rfl) rfl) _ _ hmax hbytes _ hseq

end Go.Proofs
