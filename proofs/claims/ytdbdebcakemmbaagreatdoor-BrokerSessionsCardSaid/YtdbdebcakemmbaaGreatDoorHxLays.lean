/- The kit's contracts on slices.Sorted and maps.Keys, laid at this program: the facts of its own loading, field by field. -/
import Derived.Shelf.SlIter.Nil
import Derived.Shelf.SlIterI.Nil
import Derived.Shelf.SortM.Plain
import Derived.Shelf.SortM.SortNone
import Derived.Shelf.Strings.OnBuilder
import Derived.Test.YtdbdebcakemmbaaGreatDoorProg
import Derived.KernelRfl
namespace Go.Proofs.YtdbdebcakemmbaaGreatDoor
open Go.Shelf
def sorted117R : Ren := ⟨(fun x => match x with | 6 => 117 | 8 => 165 | 9 => 109 | 11 => 222 | 13 => 158 | 12 => 159 | 23 => 207 | 24 => 208 | 14 => 209 | 15 => 210 | 16 => 211 | 17 => 212 | 18 => 213 | 19 => 214 | 20 => 215 | 21 => 216 | 22 => 217 | 25 => 248 | 26 => 243 | 27 => 244 | 28 => 249 | 29 => 250 | 30 => 230 | 31 => 271 | n => n), (fun x => match x with | 26 => 9 | 28 => 202 | 24 => 36 | 0 => 0 | 3 => 3 | 37 => 208 | 48 => 271 | 50 => 273 | 4 => 4 | 40 => 265 | 39 => 264 | 45 => 171 | 5 => 5 | 9 => 9 | 51 => 304 | 55 => 308 | 57 => 323 | 58 => 324 | 33 => 50 | n => n), (fun x => x)⟩
def keys118R : Ren := ⟨(fun x => match x with | 7 => 118 | 10 => 166 | n => n), (fun x => match x with | 23 => 155 | 26 => 9 | 3 => 3 | 28 => 202 | 0 => 0 | 27 => 201 | 33 => 50 | 4 => 4 | n => n), (fun x => x)⟩
def sort109R : Ren := ⟨(fun x => match x with | 6 => 109 | 8 => 158 | 9 => 159 | 19 => 207 | 20 => 208 | 21 => 209 | 22 => 210 | 23 => 211 | 24 => 212 | 25 => 213 | 26 => 214 | 27 => 215 | 28 => 216 | 29 => 217 | 36 => 248 | 31 => 243 | 32 => 244 | 37 => 249 | 38 => 250 | 39 => 230 | 41 => 271 | n => n), (fun x => match x with | 27 => 36 | 29 => 9 | 3 => 3 | 32 => 208 | 26 => 36 | 0 => 0 | 44 => 271 | 46 => 273 | 4 => 4 | 36 => 265 | 35 => 264 | 41 => 171 | 5 => 5 | 9 => 9 | 53 => 304 | 57 => 308 | 63 => 323 | 64 => 324 | n => n), (fun x => x)⟩
def sorted55R : Ren := ⟨(fun x => match x with | 6 => 55 | 8 => 106 | 9 => 107 | 11 => 156 | 13 => 158 | 12 => 157 | 23 => 207 | 24 => 208 | 14 => 198 | 15 => 199 | 16 => 200 | 17 => 201 | 18 => 202 | 19 => 203 | 20 => 204 | 21 => 205 | 22 => 206 | 25 => 242 | 26 => 243 | 27 => 244 | 28 => 245 | 29 => 246 | 30 => 247 | 31 => 270 | n => n), (fun x => match x with | 26 => 3 | 28 => 125 | 24 => 27 | 0 => 0 | 3 => 3 | 37 => 208 | 48 => 271 | 50 => 273 | 4 => 4 | 40 => 265 | 39 => 264 | 45 => 171 | 5 => 5 | 9 => 9 | 51 => 304 | 55 => 308 | 57 => 323 | 58 => 324 | 33 => 96 | n => n), (fun x => x)⟩
def keys56R : Ren := ⟨(fun x => match x with | 7 => 56 | 10 => 108 | n => n), (fun x => match x with | 23 => 90 | 26 => 3 | 3 => 97 | 28 => 125 | 0 => 0 | 27 => 124 | 33 => 96 | 4 => 4 | n => n), (fun x => x)⟩
def sort54R : Ren := ⟨(fun x => match x with | 5 => 107 | 8 => 158 | 7 => 157 | 19 => 207 | 20 => 208 | 10 => 198 | 11 => 199 | 12 => 200 | 13 => 201 | 14 => 202 | 15 => 203 | 16 => 204 | 17 => 205 | 18 => 206 | 30 => 242 | 31 => 243 | 32 => 244 | 33 => 245 | 34 => 246 | 35 => 247 | 40 => 270 | n => n), (fun x => match x with | 23 => 27 | 25 => 3 | 3 => 3 | 32 => 208 | 22 => 27 | 0 => 0 | 44 => 271 | 46 => 273 | 4 => 4 | 36 => 265 | 35 => 264 | 41 => 171 | 5 => 5 | 9 => 9 | 53 => 304 | 57 => 308 | 63 => 323 | 64 => 324 | n => n), (fun x => x)⟩
theorem sorted117L : SlLaysZ.n6 Tryz.prog sorted117R where
  mixed := by kernel_rfl
  f6 := ⟨_, (by kernel_rfl : ( "slices.Sorted[string]" == "runtime.NumGoroutine") = false), Eq.trans Tryz.func117 (by kernel_rfl)⟩
  f8 := ⟨_, (by kernel_rfl : ( "slices.Collect[string]" == "runtime.NumGoroutine") = false), Eq.trans Tryz.func165 (by kernel_rfl)⟩
  f11 := ⟨_, (by kernel_rfl : ( "slices.AppendSeq[[]string,string]" == "runtime.NumGoroutine") = false), Eq.trans Tryz.func222 (by kernel_rfl)⟩
  t0 := Tryz.underlying0
  a0 := Tryz.isAgg0
  z0 := Tryz.sizeOf0
  v0 := Tryz.zeroValue0
  t24 := Tryz.underlying36
  a24 := Tryz.isAgg36
  z24 := Tryz.sizeOf36
  v24 := Tryz.zeroValue36
  t26 := Tryz.underlying9
  a26 := Tryz.isAgg9
  z26 := Tryz.sizeOf9
  v26 := Tryz.zeroValue9
  t28 := Tryz.underlying202
  a28 := Tryz.isAgg202
  z28 := Tryz.sizeOf202
  v28 := Tryz.zeroValue202
  i26 := by kernel_rfl
theorem keys118L : SlLaysZ.n7 Tryz.prog keys118R where
  mixed := by kernel_rfl
  f7 := ⟨_, (by kernel_rfl : ( "maps.Keys[map[string]int,string,int]" == "runtime.NumGoroutine") = false), Eq.trans Tryz.func118 (by kernel_rfl)⟩
  f10 := ⟨_, (by kernel_rfl : ( "maps.Keys[map[string]int,string,int]$1" == "runtime.NumGoroutine") = false), Eq.trans Tryz.func166 (by kernel_rfl)⟩
  t0 := Tryz.underlying0
  a0 := Tryz.isAgg0
  z0 := Tryz.sizeOf0
  v0 := Tryz.zeroValue0
  t4 := Tryz.underlying4
  a4 := Tryz.isAgg4
  z4 := Tryz.sizeOf4
  v4 := Tryz.zeroValue4
  t23 := Tryz.underlying155
  a23 := Tryz.isAgg155
  z23 := Tryz.sizeOf155
  v23 := Tryz.zeroValue155
  t26 := Tryz.underlying9
  a26 := Tryz.isAgg9
  z26 := Tryz.sizeOf9
  v26 := Tryz.zeroValue9
  t27 := Tryz.underlying201
  a27 := Tryz.isAgg201
  z27 := Tryz.sizeOf201
  v27 := Tryz.zeroValue201
  t28 := Tryz.underlying202
  a28 := Tryz.isAgg202
  z28 := Tryz.sizeOf202
  v28 := Tryz.zeroValue202
  t33 := Tryz.underlying50
  a33 := Tryz.isAgg50
  z33 := Tryz.sizeOf50
  v33 := Tryz.zeroValue50
theorem sort109L : SlLaysM.n6 Tryz.prog sort109R where
  mixed := by kernel_rfl
  f6 := ⟨_, (by kernel_rfl : ( "slices.Sort[[]string,string]" == "runtime.NumGoroutine") = false), Eq.trans Tryz.func109 (by kernel_rfl)⟩
  f8 := Eq.trans Tryz.func158 (by kernel_rfl)
  f9 := ⟨_, (by kernel_rfl : ( "slices.pdqsortOrdered[string]" == "runtime.NumGoroutine") = false), Eq.trans Tryz.func159 (by kernel_rfl)⟩
  f19 := Eq.trans Tryz.func207 (by kernel_rfl)
  f20 := Eq.trans Tryz.func208 (by kernel_rfl)
  f21 := ⟨_, (by kernel_rfl : ( "slices.insertionSortOrdered[string]" == "runtime.NumGoroutine") = false), Eq.trans Tryz.func209 (by kernel_rfl)⟩
  f22 := ⟨_, (by kernel_rfl : ( "slices.heapSortOrdered[string]" == "runtime.NumGoroutine") = false), Eq.trans Tryz.func210 (by kernel_rfl)⟩
  f23 := ⟨_, (by kernel_rfl : ( "slices.breakPatternsOrdered[string]" == "runtime.NumGoroutine") = false), Eq.trans Tryz.func211 (by kernel_rfl)⟩
  f24 := ⟨_, (by kernel_rfl : ( "slices.choosePivotOrdered[string]" == "runtime.NumGoroutine") = false), Eq.trans Tryz.func212 (by kernel_rfl)⟩
  f25 := ⟨_, (by kernel_rfl : ( "slices.reverseRangeOrdered[string]" == "runtime.NumGoroutine") = false), Eq.trans Tryz.func213 (by kernel_rfl)⟩
  f26 := ⟨_, (by kernel_rfl : ( "slices.partialInsertionSortOrdered[string]" == "runtime.NumGoroutine") = false), Eq.trans Tryz.func214 (by kernel_rfl)⟩
  f27 := ⟨_, (by kernel_rfl : ( "cmp.Less[string]" == "runtime.NumGoroutine") = false), Eq.trans Tryz.func215 (by kernel_rfl)⟩
  f28 := ⟨_, (by kernel_rfl : ( "slices.partitionEqualOrdered[string]" == "runtime.NumGoroutine") = false), Eq.trans Tryz.func216 (by kernel_rfl)⟩
  f29 := ⟨_, (by kernel_rfl : ( "slices.partitionOrdered[string]" == "runtime.NumGoroutine") = false), Eq.trans Tryz.func217 (by kernel_rfl)⟩
  f31 := Eq.trans Tryz.func243 (by kernel_rfl)
  f32 := Eq.trans Tryz.func244 (by kernel_rfl)
  f36 := ⟨_, (by kernel_rfl : ( "slices.siftDownOrdered[string]" == "runtime.NumGoroutine") = false), Eq.trans Tryz.func248 (by kernel_rfl)⟩
  f37 := ⟨_, (by kernel_rfl : ( "slices.medianAdjacentOrdered[string]" == "runtime.NumGoroutine") = false), Eq.trans Tryz.func249 (by kernel_rfl)⟩
  f38 := ⟨_, (by kernel_rfl : ( "slices.medianOrdered[string]" == "runtime.NumGoroutine") = false), Eq.trans Tryz.func250 (by kernel_rfl)⟩
  f39 := ⟨_, (by kernel_rfl : ( "cmp.isNaN[string]" == "runtime.NumGoroutine") = false), Eq.trans Tryz.func230 (by kernel_rfl)⟩
  f41 := ⟨_, (by kernel_rfl : ( "slices.order2Ordered[string]" == "runtime.NumGoroutine") = false), Eq.trans Tryz.func271 (by kernel_rfl)⟩
  t0 := Tryz.underlying0
  a0 := Tryz.isAgg0
  z0 := Tryz.sizeOf0
  v0 := Tryz.zeroValue0
  t3 := Tryz.underlying3
  a3 := Tryz.isAgg3
  z3 := Tryz.sizeOf3
  v3 := Tryz.zeroValue3
  t4 := Tryz.underlying4
  a4 := Tryz.isAgg4
  z4 := Tryz.sizeOf4
  v4 := Tryz.zeroValue4
  t5 := Tryz.underlying5
  a5 := Tryz.isAgg5
  z5 := Tryz.sizeOf5
  v5 := Tryz.zeroValue5
  t9 := Tryz.underlying9
  a9 := Tryz.isAgg9
  z9 := Tryz.sizeOf9
  v9 := Tryz.zeroValue9
  t26 := Tryz.underlying36
  a26 := Tryz.isAgg36
  z26 := Tryz.sizeOf36
  v26 := Tryz.zeroValue36
  t27 := Tryz.underlying36
  a27 := Tryz.isAgg36
  z27 := Tryz.sizeOf36
  v27 := Tryz.zeroValue36
  t29 := Tryz.underlying9
  a29 := Tryz.isAgg9
  z29 := Tryz.sizeOf9
  v29 := Tryz.zeroValue9
  t32 := Tryz.underlying208
  a32 := Tryz.isAgg208
  z32 := Tryz.sizeOf208
  v32 := Tryz.zeroValue208
  t35 := Tryz.underlying264
  a35 := Tryz.isAgg264
  z35 := Tryz.sizeOf264
  v35 := Tryz.zeroValue264
  t36 := Tryz.underlying265
  a36 := Tryz.isAgg265
  z36 := Tryz.sizeOf265
  v36 := Tryz.zeroValue265
  t41 := Tryz.underlying171
  a41 := Tryz.isAgg171
  z41 := Tryz.sizeOf171
  v41 := Tryz.zeroValue171
  t44 := Tryz.underlying271
  a44 := Tryz.isAgg271
  z44 := Tryz.sizeOf271
  v44 := Tryz.zeroValue271
  t46 := Tryz.underlying273
  a46 := Tryz.isAgg273
  z46 := Tryz.sizeOf273
  v46 := Tryz.zeroValue273
  t53 := Tryz.underlying304
  a53 := Tryz.isAgg304
  z53 := Tryz.sizeOf304
  v53 := Tryz.zeroValue304
  t57 := Tryz.underlying308
  a57 := Tryz.isAgg308
  z57 := Tryz.sizeOf308
  v57 := Tryz.zeroValue308
  t63 := Tryz.underlying323
  a63 := Tryz.isAgg323
  z63 := Tryz.sizeOf323
  v63 := Tryz.zeroValue323
  t64 := Tryz.underlying324
  a64 := Tryz.isAgg324
  z64 := Tryz.sizeOf324
  v64 := Tryz.zeroValue324
theorem sorted55L : SlLaysZI.n6 Tryz.prog sorted55R where
  mixed := by kernel_rfl
  f6 := ⟨_, (by kernel_rfl : ( "slices.Sorted[int]" == "runtime.NumGoroutine") = false), Eq.trans Tryz.func55 (by kernel_rfl)⟩
  f8 := ⟨_, (by kernel_rfl : ( "slices.Collect[int]" == "runtime.NumGoroutine") = false), Eq.trans Tryz.func106 (by kernel_rfl)⟩
  f11 := ⟨_, (by kernel_rfl : ( "slices.AppendSeq[[]int,int]" == "runtime.NumGoroutine") = false), Eq.trans Tryz.func156 (by kernel_rfl)⟩
  t0 := Tryz.underlying0
  a0 := Tryz.isAgg0
  z0 := Tryz.sizeOf0
  v0 := Tryz.zeroValue0
  t24 := Tryz.underlying27
  a24 := Tryz.isAgg27
  z24 := Tryz.sizeOf27
  v24 := Tryz.zeroValue27
  t26 := Tryz.underlying3
  a26 := Tryz.isAgg3
  z26 := Tryz.sizeOf3
  v26 := Tryz.zeroValue3
  t28 := Tryz.underlying125
  a28 := Tryz.isAgg125
  z28 := Tryz.sizeOf125
  v28 := Tryz.zeroValue125
  i26 := by kernel_rfl
theorem keys56L : SlLaysZI.n7 Tryz.prog keys56R where
  mixed := by kernel_rfl
  f7 := ⟨_, (by kernel_rfl : ( "maps.Keys[map[int]*hubbub/broker.conn,int,*hubbub/broker.conn]" == "runtime.NumGoroutine") = false), Eq.trans Tryz.func56 (by kernel_rfl)⟩
  f10 := ⟨_, (by kernel_rfl : ( "maps.Keys[map[int]*hubbub/broker.conn,int,*hubbub/broker.conn]$1" == "runtime.NumGoroutine") = false), Eq.trans Tryz.func108 (by kernel_rfl)⟩
  t0 := Tryz.underlying0
  a0 := Tryz.isAgg0
  z0 := Tryz.sizeOf0
  v0 := Tryz.zeroValue0
  t4 := Tryz.underlying4
  a4 := Tryz.isAgg4
  z4 := Tryz.sizeOf4
  v4 := Tryz.zeroValue4
  t23 := Tryz.underlying90
  a23 := Tryz.isAgg90
  z23 := Tryz.sizeOf90
  v23 := Tryz.zeroValue90
  t26 := Tryz.underlying3
  a26 := Tryz.isAgg3
  z26 := Tryz.sizeOf3
  v26 := Tryz.zeroValue3
  t27 := Tryz.underlying124
  a27 := Tryz.isAgg124
  z27 := Tryz.sizeOf124
  v27 := Tryz.zeroValue124
  t28 := Tryz.underlying125
  a28 := Tryz.isAgg125
  z28 := Tryz.sizeOf125
  v28 := Tryz.zeroValue125
  t33 := Tryz.underlying96
  a33 := Tryz.isAgg96
  z33 := Tryz.sizeOf96
  v33 := Tryz.zeroValue96
theorem sort54L : SlLaysM.n5 Tryz.prog sort54R where
  mixed := by kernel_rfl
  f5 := ⟨_, (by kernel_rfl : ( "slices.Sort[[]int,int]" == "runtime.NumGoroutine") = false), Eq.trans Tryz.func107 (by kernel_rfl)⟩
  f7 := ⟨_, (by kernel_rfl : ( "slices.pdqsortOrdered[int]" == "runtime.NumGoroutine") = false), Eq.trans Tryz.func157 (by kernel_rfl)⟩
  f8 := Eq.trans Tryz.func158 (by kernel_rfl)
  f10 := ⟨_, (by kernel_rfl : ( "slices.insertionSortOrdered[int]" == "runtime.NumGoroutine") = false), Eq.trans Tryz.func198 (by kernel_rfl)⟩
  f11 := ⟨_, (by kernel_rfl : ( "slices.heapSortOrdered[int]" == "runtime.NumGoroutine") = false), Eq.trans Tryz.func199 (by kernel_rfl)⟩
  f12 := ⟨_, (by kernel_rfl : ( "slices.breakPatternsOrdered[int]" == "runtime.NumGoroutine") = false), Eq.trans Tryz.func200 (by kernel_rfl)⟩
  f13 := ⟨_, (by kernel_rfl : ( "slices.choosePivotOrdered[int]" == "runtime.NumGoroutine") = false), Eq.trans Tryz.func201 (by kernel_rfl)⟩
  f14 := ⟨_, (by kernel_rfl : ( "slices.reverseRangeOrdered[int]" == "runtime.NumGoroutine") = false), Eq.trans Tryz.func202 (by kernel_rfl)⟩
  f15 := ⟨_, (by kernel_rfl : ( "slices.partialInsertionSortOrdered[int]" == "runtime.NumGoroutine") = false), Eq.trans Tryz.func203 (by kernel_rfl)⟩
  f16 := ⟨_, (by kernel_rfl : ( "cmp.Less[int]" == "runtime.NumGoroutine") = false), Eq.trans Tryz.func204 (by kernel_rfl)⟩
  f17 := ⟨_, (by kernel_rfl : ( "slices.partitionEqualOrdered[int]" == "runtime.NumGoroutine") = false), Eq.trans Tryz.func205 (by kernel_rfl)⟩
  f18 := ⟨_, (by kernel_rfl : ( "slices.partitionOrdered[int]" == "runtime.NumGoroutine") = false), Eq.trans Tryz.func206 (by kernel_rfl)⟩
  f19 := Eq.trans Tryz.func207 (by kernel_rfl)
  f20 := Eq.trans Tryz.func208 (by kernel_rfl)
  f30 := ⟨_, (by kernel_rfl : ( "slices.siftDownOrdered[int]" == "runtime.NumGoroutine") = false), Eq.trans Tryz.func242 (by kernel_rfl)⟩
  f31 := Eq.trans Tryz.func243 (by kernel_rfl)
  f32 := Eq.trans Tryz.func244 (by kernel_rfl)
  f33 := ⟨_, (by kernel_rfl : ( "slices.medianAdjacentOrdered[int]" == "runtime.NumGoroutine") = false), Eq.trans Tryz.func245 (by kernel_rfl)⟩
  f34 := ⟨_, (by kernel_rfl : ( "slices.medianOrdered[int]" == "runtime.NumGoroutine") = false), Eq.trans Tryz.func246 (by kernel_rfl)⟩
  f35 := ⟨_, (by kernel_rfl : ( "cmp.isNaN[int]" == "runtime.NumGoroutine") = false), Eq.trans Tryz.func247 (by kernel_rfl)⟩
  f40 := ⟨_, (by kernel_rfl : ( "slices.order2Ordered[int]" == "runtime.NumGoroutine") = false), Eq.trans Tryz.func270 (by kernel_rfl)⟩
  t0 := Tryz.underlying0
  a0 := Tryz.isAgg0
  z0 := Tryz.sizeOf0
  v0 := Tryz.zeroValue0
  t3 := Tryz.underlying3
  a3 := Tryz.isAgg3
  z3 := Tryz.sizeOf3
  v3 := Tryz.zeroValue3
  t4 := Tryz.underlying4
  a4 := Tryz.isAgg4
  z4 := Tryz.sizeOf4
  v4 := Tryz.zeroValue4
  t5 := Tryz.underlying5
  a5 := Tryz.isAgg5
  z5 := Tryz.sizeOf5
  v5 := Tryz.zeroValue5
  t9 := Tryz.underlying9
  a9 := Tryz.isAgg9
  z9 := Tryz.sizeOf9
  v9 := Tryz.zeroValue9
  t22 := Tryz.underlying27
  a22 := Tryz.isAgg27
  z22 := Tryz.sizeOf27
  v22 := Tryz.zeroValue27
  t23 := Tryz.underlying27
  a23 := Tryz.isAgg27
  z23 := Tryz.sizeOf27
  v23 := Tryz.zeroValue27
  t25 := Tryz.underlying3
  a25 := Tryz.isAgg3
  z25 := Tryz.sizeOf3
  v25 := Tryz.zeroValue3
  t32 := Tryz.underlying208
  a32 := Tryz.isAgg208
  z32 := Tryz.sizeOf208
  v32 := Tryz.zeroValue208
  t35 := Tryz.underlying264
  a35 := Tryz.isAgg264
  z35 := Tryz.sizeOf264
  v35 := Tryz.zeroValue264
  t36 := Tryz.underlying265
  a36 := Tryz.isAgg265
  z36 := Tryz.sizeOf265
  v36 := Tryz.zeroValue265
  t41 := Tryz.underlying171
  a41 := Tryz.isAgg171
  z41 := Tryz.sizeOf171
  v41 := Tryz.zeroValue171
  t44 := Tryz.underlying271
  a44 := Tryz.isAgg271
  z44 := Tryz.sizeOf271
  v44 := Tryz.zeroValue271
  t46 := Tryz.underlying273
  a46 := Tryz.isAgg273
  z46 := Tryz.sizeOf273
  v46 := Tryz.zeroValue273
  t53 := Tryz.underlying304
  a53 := Tryz.isAgg304
  z53 := Tryz.sizeOf304
  v53 := Tryz.zeroValue304
  t57 := Tryz.underlying308
  a57 := Tryz.isAgg308
  z57 := Tryz.sizeOf308
  v57 := Tryz.zeroValue308
  t63 := Tryz.underlying323
  a63 := Tryz.isAgg323
  z63 := Tryz.sizeOf323
  v63 := Tryz.zeroValue323
  t64 := Tryz.underlying324
  a64 := Tryz.isAgg324
  z64 := Tryz.sizeOf324
  v64 := Tryz.zeroValue324
def join160R : Ren := ⟨(fun x => match x with | 156 => 160 | 165 => 218 | 166 => 219 | 169 => 220 | 240 => 251 | 241 => 252 | 276 => 272 | 277 => 273 | n => n), (fun x => match x with | 31 => 36 | 9 => 9 | 3 => 3 | 4 => 4 | 0 => 0 | 20 => 20 | 72 => 281 | 76 => 285 | 70 => 279 | 37 => 23 | 75 => 284 | 127 => 312 | 164 => 327 | 5 => 5 | 80 => 116 | n => n), (fun x => x)⟩
theorem join160L : Lays.n156 Tryz.prog join160R where
  mixed := by kernel_rfl
  f156 := Eq.trans Tryz.func160 (by kernel_rfl)
  f165 := Eq.trans Tryz.func218 (by kernel_rfl)
  f166 := Eq.trans Tryz.func219 (by kernel_rfl)
  f169 := Eq.trans Tryz.func220 (by kernel_rfl)
  f240 := Eq.trans Tryz.func251 (by kernel_rfl)
  f241 := Eq.trans Tryz.func252 (by kernel_rfl)
  f276 := Eq.trans Tryz.func272 (by kernel_rfl)
  f277 := Eq.trans Tryz.func273 (by kernel_rfl)
  t0 := Tryz.underlying0
  a0 := Tryz.isAgg0
  z0 := Tryz.sizeOf0
  v0 := Tryz.zeroValue0
  t3 := Tryz.underlying3
  a3 := Tryz.isAgg3
  z3 := Tryz.sizeOf3
  v3 := Tryz.zeroValue3
  t4 := Tryz.underlying4
  a4 := Tryz.isAgg4
  z4 := Tryz.sizeOf4
  v4 := Tryz.zeroValue4
  t9 := Tryz.underlying9
  a9 := Tryz.isAgg9
  z9 := Tryz.sizeOf9
  v9 := Tryz.zeroValue9
  t20 := Tryz.underlying20
  a20 := Tryz.isAgg20
  z20 := Tryz.sizeOf20
  v20 := Tryz.zeroValue20
  t31 := Tryz.underlying36
  a31 := Tryz.isAgg36
  z31 := Tryz.sizeOf36
  v31 := Tryz.zeroValue36
  t37 := Tryz.underlying23
  a37 := Tryz.isAgg23
  z37 := Tryz.sizeOf23
  v37 := Tryz.zeroValue23
  t70 := Tryz.underlying279
  a70 := Tryz.isAgg279
  z70 := Tryz.sizeOf279
  v70 := Tryz.zeroValue279
  t72 := Tryz.underlying281
  a72 := Tryz.isAgg281
  z72 := Tryz.sizeOf281
  v72 := Tryz.zeroValue281
  t75 := Tryz.underlying284
  a75 := Tryz.isAgg284
  z75 := Tryz.sizeOf284
  v75 := Tryz.zeroValue284
  t76 := Tryz.underlying285
  a76 := Tryz.isAgg285
  z76 := Tryz.sizeOf285
  v76 := Tryz.zeroValue285
  t127 := Tryz.underlying312
  a127 := Tryz.isAgg312
  z127 := Tryz.sizeOf312
  v127 := Tryz.zeroValue312
  t164 := Tryz.underlying327
  a164 := Tryz.isAgg327
  z164 := Tryz.sizeOf327
  v164 := Tryz.zeroValue327
theorem join160X : Builder.Extra Tryz.prog join160R where
  sizeBuilder := by kernel_rfl
  liesBuilder := by kernel_rfl
  t5 := Tryz.underlying5
  a5 := Tryz.isAgg5
  z5 := Tryz.sizeOf5
  v5 := Tryz.zeroValue5
  infoByte := by kernel_rfl
  cellsByte := by kernel_rfl
  sizeByte := by kernel_rfl
  neB5 := by decide
end Go.Proofs.YtdbdebcakemmbaaGreatDoor
