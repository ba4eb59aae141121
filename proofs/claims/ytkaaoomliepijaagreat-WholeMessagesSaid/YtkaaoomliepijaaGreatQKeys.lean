/-
  The shelf's contracts laid at this program, in plain words (printed by the kit's lay-plain, turned to this namespace): maps.Keys, slices.Sorted, slices.Sort, bytes.Equal.
  slices.Sorted(maps.Keys(m)) at the map of bytes.
-/
import Derived.Test.YtkaaoomliepijaaGreatQSa
import Derived.Shelf.SlLaysZI
import Derived.Shelf.SlLaysM
import Derived.Ground.GgzProg
import Derived.Ground.SlgmProg
import Derived.Shelf.Bytes.Small
import Derived.Shelf.SlIterI.Nil
import Derived.Shelf.SortM.Plain
import Derived.Shelf.SortM.SortNone
namespace Go.Proofs.YtkaaoomliepijaaGreat
open Go.RowKit Go.Shelf
set_option linter.unusedVariables false

def tz_keys86_ren : Go.Shelf.Ren := ⟨fun | 7 => 86 | 10 => 89 | n => n, fun | 23 => 125 | 26 => 3 | 3 => 5 | 28 => 150 | 0 => 0 | 27 => 149 | 33 => 120 | 4 => 4 | n => n, fun | n => n⟩
theorem tz_keys86 : Go.Proofs.SlLaysZI.n7 Tryz.prog tz_keys86_ren := {
  mixed := by kernel_rfl
  f7 := ⟨Tryz.f86.name, by decide, Tryz.func86.trans (congrArg some (by kernel_rfl))⟩
  f10 := ⟨Tryz.f89.name, by decide, Tryz.func89.trans (congrArg some (by kernel_rfl))⟩
  t0 := Tryz.underlying0
  a0 := Tryz.isAgg0
  z0 := Tryz.sizeOf0
  v0 := Tryz.zeroValue0
  t4 := Tryz.underlying4
  a4 := Tryz.isAgg4
  z4 := Tryz.sizeOf4
  v4 := Tryz.zeroValue4
  t23 := Tryz.underlying125
  a23 := Tryz.isAgg125
  z23 := Tryz.sizeOf125
  v23 := Tryz.zeroValue125
  t26 := Tryz.underlying3
  a26 := Tryz.isAgg3
  z26 := Tryz.sizeOf3
  v26 := Tryz.zeroValue3
  t27 := Tryz.underlying149
  a27 := Tryz.isAgg149
  z27 := Tryz.sizeOf149
  v27 := Tryz.zeroValue149
  t28 := Tryz.underlying150
  a28 := Tryz.isAgg150
  z28 := Tryz.sizeOf150
  v28 := Tryz.zeroValue150
  t33 := Tryz.underlying120
  a33 := Tryz.isAgg120
  z33 := Tryz.sizeOf120
  v33 := Tryz.zeroValue120 }
def tz_sorted85_ren : Go.Shelf.Ren := ⟨fun | 6 => 85 | 8 => 87 | 9 => 88 | 11 => 90 | 13 => 92 | 12 => 91 | 23 => 102 | 24 => 83 | 14 => 93 | 15 => 94 | 16 => 95 | 17 => 96 | 18 => 97 | 19 => 98 | 20 => 99 | 21 => 100 | 22 => 101 | 25 => 103 | 26 => 104 | 27 => 105 | 28 => 106 | 29 => 107 | 30 => 108 | 31 => 109 | n => n, fun | 26 => 3 | 28 => 150 | 24 => 147 | 0 => 0 | 3 => 3 | 37 => 118 | 48 => 140 | 50 => 85 | 4 => 4 | 40 => 158 | 39 => 157 | 45 => 131 | 5 => 5 | 9 => 9 | 51 => 165 | 55 => 169 | 57 => 171 | 58 => 172 | 33 => 120 | n => n, fun | n => n⟩
theorem tz_sorted85 : Go.Proofs.SlLaysZI.n6 Tryz.prog tz_sorted85_ren := {
  mixed := by kernel_rfl
  f6 := ⟨Tryz.f85.name, by decide, Tryz.func85.trans (congrArg some (by kernel_rfl))⟩
  f8 := ⟨Tryz.f87.name, by decide, Tryz.func87.trans (congrArg some (by kernel_rfl))⟩
  f11 := ⟨Tryz.f90.name, by decide, Tryz.func90.trans (congrArg some (by kernel_rfl))⟩
  t0 := Tryz.underlying0
  a0 := Tryz.isAgg0
  z0 := Tryz.sizeOf0
  v0 := Tryz.zeroValue0
  t24 := Tryz.underlying147
  a24 := Tryz.isAgg147
  z24 := Tryz.sizeOf147
  v24 := Tryz.zeroValue147
  t26 := Tryz.underlying3
  a26 := Tryz.isAgg3
  z26 := Tryz.sizeOf3
  v26 := Tryz.zeroValue3
  t28 := Tryz.underlying150
  a28 := Tryz.isAgg150
  z28 := Tryz.sizeOf150
  v28 := Tryz.zeroValue150
  i26 := by kernel_rfl }
def tz_sort88_ren : Go.Shelf.Ren := ⟨fun | 5 => 88 | 8 => 92 | 7 => 91 | 19 => 102 | 20 => 83 | 10 => 93 | 11 => 94 | 12 => 95 | 13 => 96 | 14 => 97 | 15 => 98 | 16 => 99 | 17 => 100 | 18 => 101 | 30 => 103 | 31 => 104 | 32 => 105 | 33 => 106 | 34 => 107 | 35 => 108 | 40 => 109 | n => n, fun | 23 => 147 | 25 => 3 | 3 => 3 | 32 => 118 | 22 => 147 | 0 => 0 | 44 => 140 | 46 => 85 | 4 => 4 | 36 => 158 | 35 => 157 | 41 => 131 | 5 => 5 | 9 => 9 | 53 => 165 | 57 => 169 | 63 => 171 | 64 => 172 | n => n, fun | n => n⟩
theorem tz_sort88 : Go.Proofs.SlLaysM.n5 Tryz.prog tz_sort88_ren := {
  mixed := by kernel_rfl
  f5 := ⟨Tryz.f88.name, by decide, Tryz.func88.trans (congrArg some (by kernel_rfl))⟩
  f7 := ⟨Tryz.f91.name, by decide, Tryz.func91.trans (congrArg some (by kernel_rfl))⟩
  f8 := Tryz.func92.trans (congrArg some (by kernel_rfl))
  f10 := ⟨Tryz.f93.name, by decide, Tryz.func93.trans (congrArg some (by kernel_rfl))⟩
  f11 := ⟨Tryz.f94.name, by decide, Tryz.func94.trans (congrArg some (by kernel_rfl))⟩
  f12 := ⟨Tryz.f95.name, by decide, Tryz.func95.trans (congrArg some (by kernel_rfl))⟩
  f13 := ⟨Tryz.f96.name, by decide, Tryz.func96.trans (congrArg some (by kernel_rfl))⟩
  f14 := ⟨Tryz.f97.name, by decide, Tryz.func97.trans (congrArg some (by kernel_rfl))⟩
  f15 := ⟨Tryz.f98.name, by decide, Tryz.func98.trans (congrArg some (by kernel_rfl))⟩
  f16 := ⟨Tryz.f99.name, by decide, Tryz.func99.trans (congrArg some (by kernel_rfl))⟩
  f17 := ⟨Tryz.f100.name, by decide, Tryz.func100.trans (congrArg some (by kernel_rfl))⟩
  f18 := ⟨Tryz.f101.name, by decide, Tryz.func101.trans (congrArg some (by kernel_rfl))⟩
  f19 := Tryz.func102.trans (congrArg some (by kernel_rfl))
  f20 := Tryz.func83.trans (congrArg some (by kernel_rfl))
  f30 := ⟨Tryz.f103.name, by decide, Tryz.func103.trans (congrArg some (by kernel_rfl))⟩
  f31 := Tryz.func104.trans (congrArg some (by kernel_rfl))
  f32 := Tryz.func105.trans (congrArg some (by kernel_rfl))
  f33 := ⟨Tryz.f106.name, by decide, Tryz.func106.trans (congrArg some (by kernel_rfl))⟩
  f34 := ⟨Tryz.f107.name, by decide, Tryz.func107.trans (congrArg some (by kernel_rfl))⟩
  f35 := ⟨Tryz.f108.name, by decide, Tryz.func108.trans (congrArg some (by kernel_rfl))⟩
  f40 := ⟨Tryz.f109.name, by decide, Tryz.func109.trans (congrArg some (by kernel_rfl))⟩
  t0 := Tryz.underlying0
  a0 := Tryz.isAgg0
  z0 := Tryz.sizeOf0
  v0 := Tryz.zeroValue0
  t3 := Tryz.underlying3
  a3 := Tryz.isAgg3
  z3 := Tryz.sizeOf3
  v3 := Tryz.zeroValue3
  t4 := Tryz.underlying4
  a4 := Tryz.isAgg4
  z4 := Tryz.sizeOf4
  v4 := Tryz.zeroValue4
  t5 := Tryz.underlying5
  a5 := Tryz.isAgg5
  z5 := Tryz.sizeOf5
  v5 := Tryz.zeroValue5
  t9 := Tryz.underlying9
  a9 := Tryz.isAgg9
  z9 := Tryz.sizeOf9
  v9 := Tryz.zeroValue9
  t22 := Tryz.underlying147
  a22 := Tryz.isAgg147
  z22 := Tryz.sizeOf147
  v22 := Tryz.zeroValue147
  t23 := Tryz.underlying147
  a23 := Tryz.isAgg147
  z23 := Tryz.sizeOf147
  v23 := Tryz.zeroValue147
  t25 := Tryz.underlying3
  a25 := Tryz.isAgg3
  z25 := Tryz.sizeOf3
  v25 := Tryz.zeroValue3
  t32 := Tryz.underlying118
  a32 := Tryz.isAgg118
  z32 := Tryz.sizeOf118
  v32 := Tryz.zeroValue118
  t35 := Tryz.underlying157
  a35 := Tryz.isAgg157
  z35 := Tryz.sizeOf157
  v35 := Tryz.zeroValue157
  t36 := Tryz.underlying158
  a36 := Tryz.isAgg158
  z36 := Tryz.sizeOf158
  v36 := Tryz.zeroValue158
  t41 := Tryz.underlying131
  a41 := Tryz.isAgg131
  z41 := Tryz.sizeOf131
  v41 := Tryz.zeroValue131
  t44 := Tryz.underlying140
  a44 := Tryz.isAgg140
  z44 := Tryz.sizeOf140
  v44 := Tryz.zeroValue140
  t46 := Tryz.underlying85
  a46 := Tryz.isAgg85
  z46 := Tryz.sizeOf85
  v46 := Tryz.zeroValue85
  t53 := Tryz.underlying165
  a53 := Tryz.isAgg165
  z53 := Tryz.sizeOf165
  v53 := Tryz.zeroValue165
  t57 := Tryz.underlying169
  a57 := Tryz.isAgg169
  z57 := Tryz.sizeOf169
  v57 := Tryz.zeroValue169
  t63 := Tryz.underlying171
  a63 := Tryz.isAgg171
  z63 := Tryz.sizeOf171
  v63 := Tryz.zeroValue171
  t64 := Tryz.underlying172
  a64 := Tryz.isAgg172
  z64 := Tryz.sizeOf172
  v64 := Tryz.zeroValue172 }
def tz_lays115_ren : Go.Shelf.Ren := ⟨fun | 115 => 14 | n => n, fun | 37 => 22 | 4 => 4 | 9 => 9 | 5 => 5 | n => n, fun | n => n⟩
theorem tz_lays115 : Go.Proofs.Lays.n115 Tryz.prog tz_lays115_ren := {
  mixed := by kernel_rfl
  f115 := Tryz.func14.trans (congrArg some (by kernel_rfl))
  t4 := Tryz.underlying4
  a4 := Tryz.isAgg4
  z4 := Tryz.sizeOf4
  v4 := Tryz.zeroValue4
  t9 := Tryz.underlying9
  a9 := Tryz.isAgg9
  z9 := Tryz.sizeOf9
  v9 := Tryz.zeroValue9
  t37 := Tryz.underlying22
  a37 := Tryz.isAgg22
  z37 := Tryz.sizeOf22
  v37 := Tryz.zeroValue22 }
theorem tz_bytes_Equal (v1 v2 : Value) (xs ys : List Int) (w : World) (h1 : (convert 22 9 v1).run Tryz.prog w = .ok (.string (strOfNums xs)) w) (h2 : (convert 22 9 v2).run Tryz.prog w = .ok (.string (strOfNums ys)) w) :
    Calls Tryz.prog 14 #[v1, v2] w fun e w' => e = .returned (.bool (Lib.bytesOf xs == Lib.bytesOf ys)) ∧ w' = w := Any.bytes_Equal tz_lays115 v1 v2 xs ys w h1 h2
end Go.Proofs.YtkaaoomliepijaaGreat
namespace Go.Proofs.YtkaaoomliepijaaGreat
open Go.RowKit
set_option linter.unusedVariables false

theorem tz_sorts (m : Nat) : AnyZI.SortsIn Tryz.prog tz_sorted85_ren Fence.wide m :=
  ⟨fun blk off cap ss W hH hblk hsz => callsIn_wide.2 (AnyM.slices_Sort_int tz_sort88 blk off cap ss W hH hblk hsz),
   fun p cap W => callsIn_wide.2 (AnyM.slices_Sort_int_none tz_sort88 p cap W)⟩
theorem keys_any (mb : Option Nat) (w : World) : Calls Tryz.prog 86 #[.map mb] w fun e w' => e = .returned (.func (.func 89) #[] #[.pointer (some ⟨w.heap.size, 0, none⟩)]) ∧ w' = w.alloc (.cells #[.map mb] 125) :=
  (callsIn_wide (n := 5)).1 (AnyZI.keys_in tz_keys86 Fence.wide 5 trivial rfl mb w)
/-- The offsets that a store keeps. -/
def offs (F : Nat → Option Int) : List Int := ((List.range 4096).filter fun i => (F i).isSome).map fun (i : Nat) => (i : Int)
theorem offs_mem {F : Nat → Option Int} {x : Int} : x ∈ offs F ↔ ∃ i : Nat, i < 4096 ∧ (F i).isSome = true ∧ x = (i : Int) := by
  unfold offs
  simp only [List.mem_map, List.mem_filter, List.mem_range]
  constructor
  · rintro ⟨i, ⟨h1, h2⟩, rfl⟩; exact ⟨i, h1, h2, rfl⟩
  · rintro ⟨i, h1, h2, rfl⟩; exact ⟨i, ⟨h1, h2⟩, rfl⟩
theorem offs_lt (F : Nat → Option Int) : (offs F).Pairwise (fun a b : Int => a < b) := by
  unfold offs
  refine List.pairwise_map.2 ?_
  refine List.Pairwise.imp (R := fun a b : Nat => a < b) (fun h => by omega) ?_
  exact List.Pairwise.filter _ List.pairwise_lt_range
theorem offs_nodup (F : Nat → Option Int) : (offs F).Nodup := (offs_lt F).imp fun h => by omega
theorem offs_sort (F : Nat → Option Int) : (offs F).mergeSort (fun x y => decide (x ≤ y)) = offs F := by
  refine List.mergeSort_of_pairwise ?_
  exact (offs_lt F).imp fun h => by simp; omega
theorem sorted_any (w : World) (b : Nat) (F : Nat → Option Int) (h : MbAt w b F) :
    Calls Tryz.prog 85 #[.func (.func 89) #[] #[.pointer (some ⟨w.heap.size, 0, none⟩)]] (w.alloc (.cells #[.map (some b)] 125)) fun e w' => ∃ v : Value, e = .returned v ∧
      w'.ownsRow (w.heap.size + 1) 3 1 v (offs F).length ((offs F).map (Value.int .i64)) ∧ Below w.heap.size w w' := by
  obtain ⟨D, hown, hk, hsz, hat⟩ := h
  have hs : Maps.size D ≤ 4096 := by rw [hsz]; exact cntR_le F 4096
  have hP : (offs F).Perm (intKeys D) := CollectedI.perm (left := fun _ => false) ⟨offs_nodup F, fun x => by
    rw [offs_mem]
    constructor
    · rintro ⟨i, h1, h2, rfl⟩; exact ⟨by rw [(hat i h1).1]; exact h2, rfl⟩
    · rintro ⟨h1, -⟩
      obtain ⟨i, hi, e⟩ := hk _ h1
      injection e with _ e
      subst e
      exact ⟨i, hi, by rw [← (hat i hi).1]; exact h1, rfl⟩⟩ hown off_keyed Tryz.underlying3 (fun _ => rfl)
  have hseq : SeqGives Fence.wide 2 Tryz.prog 89 #[.pointer (some ⟨w.heap.size, 0, none⟩)] encZ (fun ss => ss.Perm (intKeys D)) (Maps.size D) (w.alloc (.cells #[.map (some b)] 125)) :=
    AnyZI.keys_gives (ρ := tz_keys86_ren) { tz_keys86 with } Fence.wide _ trivial rfl (by omega) w.heap.size b 4096 D _ (by simp) (by simp) (by
      have hbl := hown.lt
      obtain ⟨es, clock, hb, Ft, hs, hD⟩ := hown
      exact ⟨es, clock, (Below.heap_alloc _ _ b hbl).trans hb, Ft, hs, hD⟩)
  have cS := AnyZI.sorted_in tz_sorted85 Fence.wide 5 trivial trivial trivial trivial rfl (by omega) (tz_sorts _) (enters_of Tryz.func88 (by kernel_rfl) rfl) 89 #[.pointer (some ⟨w.heap.size, 0, none⟩)] trivial (enters_of Tryz.func89 (by kernel_rfl) rfl) _ _ (by unfold maxLen; omega) (by omega) _ hseq
  change CallsIn _ _ Tryz.prog 85 _ _ _ at cS
  refine ((callsIn_wide (n := 5)).1 cS).mono ?_
  rintro e w' ⟨v, ss, rfl, hS, hrow, -, hB⟩
  have e1 : ss.mergeSort (fun x y => decide (x ≤ y)) = offs F := by rw [← offs_sort F]; exact mergeSort_of_perm_i (hS.trans hP.symm)
  have e2 : ss.length = (offs F).length := (hS.trans hP.symm).length_eq
  have hz : (w.alloc (.cells #[.map (some b)] 125)).heap.size = w.heap.size + 1 := by simp
  rw [e1, e2, hz] at hrow
  exact ⟨v, rfl, hrow, below_then (alloc_belQ _ _) hB (by simp)⟩
end Go.Proofs.YtkaaoomliepijaaGreat
