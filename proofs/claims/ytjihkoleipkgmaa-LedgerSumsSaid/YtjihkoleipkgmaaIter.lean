/- The keys of a map, sorted by the library: laid by the tool of the kit, in plain words. -/
import Derived.Shelf.SlGeneric
import Derived.Shelf.SlIter.Nil
import Derived.Shelf.SortM.Plain
import Derived.Shelf.SortM.SortNone
import Derived.Ground.GgzProg
import Derived.Ground.SlgmProg
import Derived.Test.YtjihkoleipkgmaaProg
namespace Go.Proofs
open Go.Shelf
def Try.keys57_ren : Go.Shelf.Ren := ⟨fun | 7 => 57 | 10 => 75 | n => n, fun | 23 => 73 | 26 => 9 | 3 => 66 | 28 => 106 | 0 => 0 | 27 => 105 | 33 => 77 | 4 => 4 | n => n, fun | n => n⟩
theorem Try.keys57 : Go.Proofs.SlLaysZ.n7 Try.prog Try.keys57_ren := {
  mixed := by kernel_rfl
  f7 := ⟨Try.f57.name, by decide, Try.func57.trans (congrArg some (by kernel_rfl))⟩
  f10 := ⟨Try.f75.name, by decide, Try.func75.trans (congrArg some (by kernel_rfl))⟩
  t0 := Try.underlying0
  a0 := Try.isAgg0
  z0 := Try.sizeOf0
  v0 := Try.zeroValue0
  t4 := Try.underlying4
  a4 := Try.isAgg4
  z4 := Try.sizeOf4
  v4 := Try.zeroValue4
  t23 := Try.underlying73
  a23 := Try.isAgg73
  z23 := Try.sizeOf73
  v23 := Try.zeroValue73
  t26 := Try.underlying9
  a26 := Try.isAgg9
  z26 := Try.sizeOf9
  v26 := Try.zeroValue9
  t27 := Try.underlying105
  a27 := Try.isAgg105
  z27 := Try.sizeOf105
  v27 := Try.zeroValue105
  t28 := Try.underlying106
  a28 := Try.isAgg106
  z28 := Try.sizeOf106
  v28 := Try.zeroValue106
  t33 := Try.underlying77
  a33 := Try.isAgg77
  z33 := Try.sizeOf77
  v33 := Try.zeroValue77 }
def Try.sorted56_ren : Go.Shelf.Ren := ⟨fun | 6 => 56 | 8 => 73 | 9 => 74 | 11 => 87 | 13 => 64 | 12 => 88 | 23 => 85 | 24 => 86 | 14 => 94 | 15 => 95 | 16 => 96 | 17 => 97 | 18 => 98 | 19 => 99 | 20 => 100 | 21 => 101 | 22 => 102 | 25 => 104 | 26 => 90 | 27 => 91 | 28 => 105 | 29 => 106 | 30 => 65 | 31 => 107 | n => n, fun | 26 => 9 | 28 => 106 | 24 => 103 | 0 => 0 | 3 => 3 | 37 => 113 | 48 => 131 | 50 => 133 | 4 => 4 | 40 => 124 | 39 => 123 | 45 => 128 | 5 => 5 | 9 => 9 | 51 => 136 | 55 => 140 | 57 => 148 | 58 => 149 | 33 => 77 | n => n, fun | n => n⟩
theorem Try.sorted56 : Go.Proofs.SlLaysZ.n6 Try.prog Try.sorted56_ren := {
  mixed := by kernel_rfl
  f6 := ⟨Try.f56.name, by decide, Try.func56.trans (congrArg some (by kernel_rfl))⟩
  f8 := ⟨Try.f73.name, by decide, Try.func73.trans (congrArg some (by kernel_rfl))⟩
  f11 := ⟨Try.f87.name, by decide, Try.func87.trans (congrArg some (by kernel_rfl))⟩
  t0 := Try.underlying0
  a0 := Try.isAgg0
  z0 := Try.sizeOf0
  v0 := Try.zeroValue0
  t24 := Try.underlying103
  a24 := Try.isAgg103
  z24 := Try.sizeOf103
  v24 := Try.zeroValue103
  t26 := Try.underlying9
  a26 := Try.isAgg9
  z26 := Try.sizeOf9
  v26 := Try.zeroValue9
  t28 := Try.underlying106
  a28 := Try.isAgg106
  z28 := Try.sizeOf106
  v28 := Try.zeroValue106
  i26 := by kernel_rfl }
def Try.sort74_ren : Go.Shelf.Ren := ⟨fun | 6 => 74 | 8 => 64 | 9 => 88 | 19 => 85 | 20 => 86 | 21 => 94 | 22 => 95 | 23 => 96 | 24 => 97 | 25 => 98 | 26 => 99 | 27 => 100 | 28 => 101 | 29 => 102 | 36 => 104 | 31 => 90 | 32 => 91 | 37 => 105 | 38 => 106 | 39 => 65 | 41 => 107 | n => n, fun | 27 => 103 | 29 => 9 | 3 => 3 | 32 => 113 | 26 => 103 | 0 => 0 | 44 => 131 | 46 => 133 | 4 => 4 | 36 => 124 | 35 => 123 | 41 => 128 | 5 => 5 | 9 => 9 | 53 => 136 | 57 => 140 | 63 => 148 | 64 => 149 | n => n, fun | n => n⟩
theorem Try.sort74 : Go.Proofs.SlLaysM.n6 Try.prog Try.sort74_ren := {
  mixed := by kernel_rfl
  f6 := ⟨Try.f74.name, by decide, Try.func74.trans (congrArg some (by kernel_rfl))⟩
  f8 := Try.func64.trans (congrArg some (by kernel_rfl))
  f9 := ⟨Try.f88.name, by decide, Try.func88.trans (congrArg some (by kernel_rfl))⟩
  f19 := Try.func85.trans (congrArg some (by kernel_rfl))
  f20 := Try.func86.trans (congrArg some (by kernel_rfl))
  f21 := ⟨Try.f94.name, by decide, Try.func94.trans (congrArg some (by kernel_rfl))⟩
  f22 := ⟨Try.f95.name, by decide, Try.func95.trans (congrArg some (by kernel_rfl))⟩
  f23 := ⟨Try.f96.name, by decide, Try.func96.trans (congrArg some (by kernel_rfl))⟩
  f24 := ⟨Try.f97.name, by decide, Try.func97.trans (congrArg some (by kernel_rfl))⟩
  f25 := ⟨Try.f98.name, by decide, Try.func98.trans (congrArg some (by kernel_rfl))⟩
  f26 := ⟨Try.f99.name, by decide, Try.func99.trans (congrArg some (by kernel_rfl))⟩
  f27 := ⟨Try.f100.name, by decide, Try.func100.trans (congrArg some (by kernel_rfl))⟩
  f28 := ⟨Try.f101.name, by decide, Try.func101.trans (congrArg some (by kernel_rfl))⟩
  f29 := ⟨Try.f102.name, by decide, Try.func102.trans (congrArg some (by kernel_rfl))⟩
  f31 := Try.func90.trans (congrArg some (by kernel_rfl))
  f32 := Try.func91.trans (congrArg some (by kernel_rfl))
  f36 := ⟨Try.f104.name, by decide, Try.func104.trans (congrArg some (by kernel_rfl))⟩
  f37 := ⟨Try.f105.name, by decide, Try.func105.trans (congrArg some (by kernel_rfl))⟩
  f38 := ⟨Try.f106.name, by decide, Try.func106.trans (congrArg some (by kernel_rfl))⟩
  f39 := ⟨Try.f65.name, by decide, Try.func65.trans (congrArg some (by kernel_rfl))⟩
  f41 := ⟨Try.f107.name, by decide, Try.func107.trans (congrArg some (by kernel_rfl))⟩
  t0 := Try.underlying0
  a0 := Try.isAgg0
  z0 := Try.sizeOf0
  v0 := Try.zeroValue0
  t3 := Try.underlying3
  a3 := Try.isAgg3
  z3 := Try.sizeOf3
  v3 := Try.zeroValue3
  t4 := Try.underlying4
  a4 := Try.isAgg4
  z4 := Try.sizeOf4
  v4 := Try.zeroValue4
  t5 := Try.underlying5
  a5 := Try.isAgg5
  z5 := Try.sizeOf5
  v5 := Try.zeroValue5
  t9 := Try.underlying9
  a9 := Try.isAgg9
  z9 := Try.sizeOf9
  v9 := Try.zeroValue9
  t26 := Try.underlying103
  a26 := Try.isAgg103
  z26 := Try.sizeOf103
  v26 := Try.zeroValue103
  t27 := Try.underlying103
  a27 := Try.isAgg103
  z27 := Try.sizeOf103
  v27 := Try.zeroValue103
  t29 := Try.underlying9
  a29 := Try.isAgg9
  z29 := Try.sizeOf9
  v29 := Try.zeroValue9
  t32 := Try.underlying113
  a32 := Try.isAgg113
  z32 := Try.sizeOf113
  v32 := Try.zeroValue113
  t35 := Try.underlying123
  a35 := Try.isAgg123
  z35 := Try.sizeOf123
  v35 := Try.zeroValue123
  t36 := Try.underlying124
  a36 := Try.isAgg124
  z36 := Try.sizeOf124
  v36 := Try.zeroValue124
  t41 := Try.underlying128
  a41 := Try.isAgg128
  z41 := Try.sizeOf128
  v41 := Try.zeroValue128
  t44 := Try.underlying131
  a44 := Try.isAgg131
  z44 := Try.sizeOf131
  v44 := Try.zeroValue131
  t46 := Try.underlying133
  a46 := Try.isAgg133
  z46 := Try.sizeOf133
  v46 := Try.zeroValue133
  t53 := Try.underlying136
  a53 := Try.isAgg136
  z53 := Try.sizeOf136
  v53 := Try.zeroValue136
  t57 := Try.underlying140
  a57 := Try.isAgg140
  z57 := Try.sizeOf140
  v57 := Try.zeroValue140
  t63 := Try.underlying148
  a63 := Try.isAgg148
  z63 := Try.sizeOf148
  v63 := Try.zeroValue148
  t64 := Try.underlying149
  a64 := Try.isAgg149
  z64 := Try.sizeOf149
  v64 := Try.zeroValue149 }
open Go.RowKit Go.Maps Go.Sort

/-- slices.Sort's two contracts at this dump, at the fence that asks nothing. -/
theorem Try.sorts56 (m : Nat) : AnyZ.SortsIn Try.prog Try.sorted56_ren Fence.wide m :=
  ⟨fun blk off cap ss W hH hblk hsz => callsIn_wide.2 (AnyM.slices_Sort_string Try.sort74 blk off cap ss W hH hblk hsz),
   fun p cap W => callsIn_wide.2 (AnyM.slices_Sort_string_none Try.sort74 p cap W)⟩

/-- **maps.Keys[map[string]supercargo/api.Hold,string,supercargo/api.Hold], at whatever map, the nil one too:** a function value over ONE NEW BLOCK, which holds the map. -/
theorem Try.maps_Keys_57 (mb : Option Nat) (W : World) : CallsIn Fence.wide 5 Try.prog 57 #[.map mb] W fun e w' => e = .returned (.func (.func 75) #[] #[.pointer (some ⟨W.heap.size, 0, none⟩)]) ∧ w' = W.alloc (.cells #[.map mb] 73) :=
  AnyZ.keys_in Try.keys57 Fence.wide 5 trivial rfl mb W

set_option maxHeartbeats 1000000 in
/-- **slices.Sorted[string] AT WHAT maps.Keys[map[string]supercargo/api.Hold,string,supercargo/api.Hold] HANDED BACK FOR A MAP THAT IS NOT nil** ('w': the world AHEAD of maps.Keys' call): A NEW SLICE THAT HOLDS THE MAP's KEYS, SORTED; nil just where it has none; nothing that lay before has turned. -/
theorem Try.slices_Sorted_keys_56_57 {H : Type} (b nn : Nat) (D0 : DataW H) (R : Value → Option (DataW H × List MemPlace)) (w : World) (hown : w.ownsMap Try.prog 9 R b nn D0) (hmax : Maps.size D0 ≤ maxLen) (hbytes : Maps.size D0 * 16 ≤ 140737488355328) :
    CallsIn Fence.wide 5 Try.prog 56 #[.func (.func 75) #[] #[.pointer (some ⟨w.heap.size, 0, none⟩)]] (w.alloc (.cells #[.map (some b)] 73)) fun e w' => ∃ (v : Value) (ss : List (List UInt8)), e = .returned v ∧ ss.Perm (strKeys D0) ∧
      w'.ownsRow (w.alloc (.cells #[.map (some b)] 73)).heap.size 9 1 v ss.length ((ss.mergeSort (fun x y => decide (x ≤ y))).map encStr) ∧ (v = .slice none 0 0 ↔ ss = []) ∧ Below (w.alloc (.cells #[.map (some b)] 73)).heap.size (w.alloc (.cells #[.map (some b)] 73)) w' := by
  have hbl := hown.lt
  have hseq : SeqGives Fence.wide 2 Try.prog 75 #[.pointer (some ⟨w.heap.size, 0, none⟩)] encStr (fun ss => ss.Perm (strKeys D0)) (Maps.size D0) (w.alloc (.cells #[.map (some b)] 73)) :=
    AnyZ.keys_gives (ρ := Try.keys57_ren) { Try.keys57 with } Fence.wide _ trivial rfl (by omega) w.heap.size b nn D0 _ (by simp) (by simp) (by
      obtain ⟨es, clock, hb, Ft, hs, hD⟩ := hown
      exact ⟨es, clock, (Below.heap_alloc _ _ b hbl).trans hb, Ft, hs, hD⟩)
  exact AnyZ.sorted_in Try.sorted56 Fence.wide 5 trivial trivial trivial trivial rfl (by omega) (Try.sorts56 _) (enters_of Try.func74 (by kernel_rfl) rfl) 75 #[.pointer (some ⟨w.heap.size, 0, none⟩)] trivial (enters_of Try.func75 (by kernel_rfl) rfl) _ _ hmax hbytes _ hseq

set_option maxHeartbeats 1000000 in
/-- **.. AND FOR THE nil MAP: nil.** -/
theorem Try.slices_Sorted_keys_nil_56_57 (w : World) :
    CallsIn Fence.wide 5 Try.prog 56 #[.func (.func 75) #[] #[.pointer (some ⟨w.heap.size, 0, none⟩)]] (w.alloc (.cells #[.map none] 73)) fun e w' => ∃ (v : Value) (ss : List (List UInt8)), e = .returned v ∧ ss = [] ∧
      w'.ownsRow (w.alloc (.cells #[.map none] 73)).heap.size 9 1 v ss.length ((ss.mergeSort (fun x y => decide (x ≤ y))).map encStr) ∧ (v = .slice none 0 0 ↔ ss = []) ∧ Below (w.alloc (.cells #[.map none] 73)).heap.size (w.alloc (.cells #[.map none] 73)) w' := by
  have hseq : SeqGives Fence.wide 2 Try.prog 75 #[.pointer (some ⟨w.heap.size, 0, none⟩)] encStr (fun ss : List (List UInt8) => ss = []) 0 (w.alloc (.cells #[.map none] 73)) :=
    AnyZ.keys_gives_nil (ρ := Try.keys57_ren) { Try.keys57 with } Fence.wide _ trivial rfl w.heap.size _ (by simp) (by simp)
  exact AnyZ.sorted_in Try.sorted56 Fence.wide 5 trivial trivial trivial trivial rfl (by omega) (Try.sorts56 _) (enters_of Try.func74 (by kernel_rfl) rfl) 75 #[.pointer (some ⟨w.heap.size, 0, none⟩)] trivial (enters_of Try.func75 (by kernel_rfl) rfl) _ 0 (Nat.zero_le _) (by omega) _ hseq



end Go.Proofs
