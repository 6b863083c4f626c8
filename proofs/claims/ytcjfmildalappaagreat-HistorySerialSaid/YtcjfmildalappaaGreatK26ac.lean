/-
  Contracts; each theorem bears its own conditions.
-/
import Derived.Shelf.Strings.Builder1
import Derived.Shelf.Strings.OnBuilder
import Derived.Shelf.Small.Strs
import Derived.Shelf.Strings.Search1
import Derived.Shelf.Strings.FieldsFuncAny
import Derived.Shelf.Slices.Turned
import Derived.Shelf.SlIter.Nil
import Derived.Shelf.SortM.Plain
import Derived.Shelf.SortM.SortNone
import Derived.Ground.GgzProg
import Derived.Ground.SlgmProg
import Derived.Test.YtcjfmildalappaaGreatProg
set_option linter.all false
set_option maxRecDepth 100000
set_option maxHeartbeats 8000000
namespace Go.Proofs.YtcjfmildalappaaGreat
open Go.Shelf
def Tryz.lays156_ren:Go.Shelf.Ren:=⟨fun | 156 => 206 | 165 => 238 | 166 => 148 | 169 => 147 | 240 => 211 | 241 => 257 | 276 => 241 | 277 => 267 | n => n,fun | 31 => 42 | 9 => 9 | 3 => 3 | 4 => 4 | 0 => 0 | 20 => 20 | 72 => 209 | 76 => 216 | 70 => 207 | 37 => 61 | 75 => 215 | 127 => 271 | 164 => 302 | 5 => 5 | 80 => 47 | n => n,fun | n => n⟩
theorem Tryz.lays156:Go.Proofs.Lays.n156 Tryz.prog Tryz.lays156_ren:={
 mixed:=by kernel_rfl
 f156:=Tryz.func206.trans (congrArg some (by kernel_rfl))
 f165:=Tryz.func238.trans (congrArg some (by kernel_rfl))
 f166:=Tryz.func148.trans (congrArg some (by kernel_rfl))
 f169:=Tryz.func147.trans (congrArg some (by kernel_rfl))
 f240:=Tryz.func211.trans (congrArg some (by kernel_rfl))
 f241:=Tryz.func257.trans (congrArg some (by kernel_rfl))
 f276:=Tryz.func241.trans (congrArg some (by kernel_rfl))
 f277:=Tryz.func267.trans (congrArg some (by kernel_rfl))
 t0:=Tryz.underlying0
 a0:=Tryz.isAgg0
 z0:=Tryz.sizeOf0
 v0:=Tryz.zeroValue0
 t3:=Tryz.underlying3
 a3:=Tryz.isAgg3
 z3:=Tryz.sizeOf3
 v3:=Tryz.zeroValue3
 t4:=Tryz.underlying4
 a4:=Tryz.isAgg4
 z4:=Tryz.sizeOf4
 v4:=Tryz.zeroValue4
 t9:=Tryz.underlying9
 a9:=Tryz.isAgg9
 z9:=Tryz.sizeOf9
 v9:=Tryz.zeroValue9
 t20:=Tryz.underlying20
 a20:=Tryz.isAgg20
 z20:=Tryz.sizeOf20
 v20:=Tryz.zeroValue20
 t31:=Tryz.underlying42
 a31:=Tryz.isAgg42
 z31:=Tryz.sizeOf42
 v31:=Tryz.zeroValue42
 t37:=Tryz.underlying61
 a37:=Tryz.isAgg61
 z37:=Tryz.sizeOf61
 v37:=Tryz.zeroValue61
 t70:=Tryz.underlying207
 a70:=Tryz.isAgg207
 z70:=Tryz.sizeOf207
 v70:=Tryz.zeroValue207
 t72:=Tryz.underlying209
 a72:=Tryz.isAgg209
 z72:=Tryz.sizeOf209
 v72:=Tryz.zeroValue209
 t75:=Tryz.underlying215
 a75:=Tryz.isAgg215
 z75:=Tryz.sizeOf215
 v75:=Tryz.zeroValue215
 t76:=Tryz.underlying216
 a76:=Tryz.isAgg216
 z76:=Tryz.sizeOf216
 v76:=Tryz.zeroValue216
 t127:=Tryz.underlying271
 a127:=Tryz.isAgg271
 z127:=Tryz.sizeOf271
 v127:=Tryz.zeroValue271
 t164:=Tryz.underlying302
 a164:=Tryz.isAgg302
 z164:=Tryz.sizeOf302
 v164:=Tryz.zeroValue302 }
theorem Tryz.Builder_Extra_156:Builder.Extra Tryz.prog Tryz.lays156_ren:={
 sizeBuilder:=by kernel_rfl
 liesBuilder:=by kernel_rfl
 t5:=Tryz.underlying5
 a5:=Tryz.isAgg5
 z5:=Tryz.sizeOf5
 v5:=Tryz.zeroValue5
 infoByte:=by kernel_rfl
 cellsByte:=by kernel_rfl
 sizeByte:=by kernel_rfl
 neB5:=by decide }
open Go.RowKit in
theorem Tryz.strings_Join (bk o c:Nat) (xs:List ByteArray) (sep:ByteArray) (w:World) (hcells:∀ (j:Nat) x,xs[j]? = some x → w.cell? ⟨bk,o + j,none⟩ = some (.string x)) (hbk:bk < w.heap.size) (hN:xs.length ≤ 140737488355328) (hcap:xs.length ≤ c) (hlen:(Lib.join (xs.map (·.data.toList)) sep.data.toList).length ≤ 140737488355328):
 Calls Tryz.prog 206 #[.slice (some ⟨bk,o,none⟩) xs.length c,.string sep] w fun e w' => e = .returned (.string ⟨(Lib.join (xs.map (·.data.toList)) sep.data.toList).toArray⟩) ∧ Below w.heap.size w w':=Any.strings_Join Tryz.lays156 Tryz.Builder_Extra_156 bk o c xs sep w hcells hbk hN hcap hlen
def Tryz.lays137_ren:Go.Shelf.Ren:=⟨fun | 137 => 209 | 217 => 239 | 266 => 258 | n => n,fun | 9 => 9 | 5 => 5 | 3 => 3 | n => n,fun | n => n⟩
theorem Tryz.lays137:Go.Proofs.Lays.n137 Tryz.prog Tryz.lays137_ren:={
 mixed:=by kernel_rfl
 f137:=Tryz.func209.trans (congrArg some (by kernel_rfl))
 f217:=Tryz.func239.trans (congrArg some (by kernel_rfl))
 f266:=Tryz.func258.trans (congrArg some (by kernel_rfl))
 t3:=Tryz.underlying3
 a3:=Tryz.isAgg3
 z3:=Tryz.sizeOf3
 v3:=Tryz.zeroValue3
 t5:=Tryz.underlying5
 a5:=Tryz.isAgg5
 z5:=Tryz.sizeOf5
 v5:=Tryz.zeroValue5
 t9:=Tryz.underlying9
 a9:=Tryz.isAgg9
 z9:=Tryz.sizeOf9
 v9:=Tryz.zeroValue9 }
open Go.RowKit in
theorem Tryz.strings_IndexByte (s:ByteArray) (c:Int) (w:World):
 Calls Tryz.prog 209 #[.string s,.int .u8 c] w fun e w' => e = .returned (.int .i64 (Lib.indexByte s.data.toList c.toNat.toUInt8)) ∧ w' = w:=Any.strings_IndexByte Tryz.lays137 s c w
def Tryz.lays229_ren:Go.Shelf.Ren:=⟨fun | 229 => 207 | n => n,fun | 9 => 9 | 40 => 269 | 31 => 42 | 152 => 298 | 3 => 3 | 0 => 0 | 4 => 4 | 21 => 21 | 154 => 300 | n => n,fun | n => n⟩
theorem Tryz.lays229:Go.Proofs.Lays.n229 Tryz.prog Tryz.lays229_ren:={
 mixed:=by kernel_rfl
 f229:=Tryz.func207.trans (congrArg some (by kernel_rfl))
 t0:=Tryz.underlying0
 a0:=Tryz.isAgg0
 z0:=Tryz.sizeOf0
 v0:=Tryz.zeroValue0
 t3:=Tryz.underlying3
 a3:=Tryz.isAgg3
 z3:=Tryz.sizeOf3
 v3:=Tryz.zeroValue3
 t4:=Tryz.underlying4
 a4:=Tryz.isAgg4
 z4:=Tryz.sizeOf4
 v4:=Tryz.zeroValue4
 t9:=Tryz.underlying9
 a9:=Tryz.isAgg9
 z9:=Tryz.sizeOf9
 v9:=Tryz.zeroValue9
 t21:=Tryz.underlying21
 a21:=Tryz.isAgg21
 z21:=Tryz.sizeOf21
 v21:=Tryz.zeroValue21
 t31:=Tryz.underlying42
 a31:=Tryz.isAgg42
 z31:=Tryz.sizeOf42
 v31:=Tryz.zeroValue42
 t40:=Tryz.underlying269
 a40:=Tryz.isAgg269
 z40:=Tryz.sizeOf269
 v40:=Tryz.zeroValue269
 t152:=Tryz.underlying298
 a152:=Tryz.isAgg298
 z152:=Tryz.sizeOf298
 v152:=Tryz.zeroValue298
 t154:=Tryz.underlying300
 a154:=Tryz.isAgg300
 z154:=Tryz.sizeOf300
 v154:=Tryz.zeroValue300 }
open Go.RowKit Go.Lib in
theorem Tryz.strings_FieldsFunc_runes (g:Nat) (lb:Array Value) (eg:∀ args w,(callFunc g args).run Tryz.prog w = .ok (.enter g args) w) (p:Nat → Bool) (s:ByteArray) (w:World) (hs:s.size ≤ 4294967296) (hp:PredAtRunes Tryz.prog g lb p w):
 Calls Tryz.prog 207 #[.string s,.func (.func g) #[] lb] w fun e w' => ∃ A,e = .returned (.slice (some ⟨A,0,none⟩) (Lib.goFieldsP p s).length (Lib.goFieldsP p s).length) ∧ w.heap.size ≤ A ∧
  w'.ownsRow w.heap.size 9 1 (.slice (some ⟨A,0,none⟩) (Lib.goFieldsP p s).length (Lib.goFieldsP p s).length) (Lib.goFieldsP p s).length ((Lib.goFieldsP p s).map Value.string) ∧ Below w.heap.size w w':=Any.strings_FieldsFunc_runes Tryz.lays229 g lb eg p s w hs hp (by kernel_rfl) (by kernel_rfl)
def Tryz.lays107_ren:Go.Shelf.Ren:=⟨fun | 107 => 140 | 108 => 204 | n => n,fun | 28 => 27 | 3 => 3 | 4 => 4 | 0 => 0 | n => n,fun | n => n⟩
theorem Tryz.lays107:Go.Proofs.Lays.n107 Tryz.prog Tryz.lays107_ren:={
 mixed:=by kernel_rfl
 f107:=Tryz.func140.trans (congrArg some (by kernel_rfl))
 f108:=Tryz.func204.trans (congrArg some (by kernel_rfl))
 t0:=Tryz.underlying0
 a0:=Tryz.isAgg0
 z0:=Tryz.sizeOf0
 v0:=Tryz.zeroValue0
 t3:=Tryz.underlying3
 a3:=Tryz.isAgg3
 z3:=Tryz.sizeOf3
 v3:=Tryz.zeroValue3
 t4:=Tryz.underlying4
 a4:=Tryz.isAgg4
 z4:=Tryz.sizeOf4
 v4:=Tryz.zeroValue4
 t28:=Tryz.underlying27
 a28:=Tryz.isAgg27
 z28:=Tryz.sizeOf27
 v28:=Tryz.zeroValue27 }
open Go.Lib in
theorem Tryz.slices_Contains_int (b off n c:Nat) (zs:List Int) (x:Int) (w:World) (hz:n ≤ zs.length) (hbig:n ≤ 9223372036854775807) (hc:∀ j,j < zs.length → w.cell? ⟨b,off + j,none⟩ = some (.int .i64 (zs.getD j 0))):
 Calls Tryz.prog 140 #[.slice (some ⟨b,off,none⟩) n c,.int .i64 x] w fun e w' => e = .returned (.bool ((zs.take n).contains x)) ∧ w' = w:=Any.slices_Contains_int Tryz.lays107 b off n c zs x w hz hbig hc
def Tryz.keys138_ren:Go.Shelf.Ren:=⟨fun | 7 => 138 | 10 => 203 | n => n,fun | 23 => 182 | 26 => 9 | 3 => 191 | 28 => 200 | 0 => 0 | 27 => 199 | 33 => 62 | 4 => 4 | n => n,fun | n => n⟩
theorem Tryz.keys138:Go.Proofs.SlLaysZ.n7 Tryz.prog Tryz.keys138_ren:={
 mixed:=by kernel_rfl
 f7:=⟨Tryz.f138.name,by decide,Tryz.func138.trans (congrArg some (by kernel_rfl))⟩
 f10:=⟨Tryz.f203.name,by decide,Tryz.func203.trans (congrArg some (by kernel_rfl))⟩
 t0:=Tryz.underlying0
 a0:=Tryz.isAgg0
 z0:=Tryz.sizeOf0
 v0:=Tryz.zeroValue0
 t4:=Tryz.underlying4
 a4:=Tryz.isAgg4
 z4:=Tryz.sizeOf4
 v4:=Tryz.zeroValue4
 t23:=Tryz.underlying182
 a23:=Tryz.isAgg182
 z23:=Tryz.sizeOf182
 v23:=Tryz.zeroValue182
 t26:=Tryz.underlying9
 a26:=Tryz.isAgg9
 z26:=Tryz.sizeOf9
 v26:=Tryz.zeroValue9
 t27:=Tryz.underlying199
 a27:=Tryz.isAgg199
 z27:=Tryz.sizeOf199
 v27:=Tryz.zeroValue199
 t28:=Tryz.underlying200
 a28:=Tryz.isAgg200
 z28:=Tryz.sizeOf200
 v28:=Tryz.zeroValue200
 t33:=Tryz.underlying62
 a33:=Tryz.isAgg62
 z33:=Tryz.sizeOf62
 v33:=Tryz.zeroValue62 }
def Tryz.sorted137_ren:Go.Shelf.Ren:=⟨fun | 6 => 137 | 8 => 201 | 9 => 202 | 11 => 235 | 13 => 237 | 12 => 236 | 23 => 255 | 24 => 256 | 14 => 246 | 15 => 247 | 16 => 248 | 17 => 249 | 18 => 250 | 19 => 251 | 20 => 252 | 21 => 253 | 22 => 254 | 25 => 261 | 26 => 262 | 27 => 263 | 28 => 264 | 29 => 265 | 30 => 266 | 31 => 268 | n => n,fun | 26 => 9 | 28 => 200 | 24 => 42 | 0 => 0 | 3 => 3 | 37 => 286 | 48 => 117 | 50 => 221 | 4 => 4 | 40 => 308 | 39 => 307 | 45 => 139 | 5 => 5 | 9 => 9 | 51 => 317 | 55 => 226 | 57 => 323 | 58 => 324 | 33 => 62 | n => n,fun | n => n⟩
theorem Tryz.sorted137:Go.Proofs.SlLaysZ.n6 Tryz.prog Tryz.sorted137_ren:={
 mixed:=by kernel_rfl
 f6:=⟨Tryz.f137.name,by decide,Tryz.func137.trans (congrArg some (by kernel_rfl))⟩
 f8:=⟨Tryz.f201.name,by decide,Tryz.func201.trans (congrArg some (by kernel_rfl))⟩
 f11:=⟨Tryz.f235.name,by decide,Tryz.func235.trans (congrArg some (by kernel_rfl))⟩
 t0:=Tryz.underlying0
 a0:=Tryz.isAgg0
 z0:=Tryz.sizeOf0
 v0:=Tryz.zeroValue0
 t24:=Tryz.underlying42
 a24:=Tryz.isAgg42
 z24:=Tryz.sizeOf42
 v24:=Tryz.zeroValue42
 t26:=Tryz.underlying9
 a26:=Tryz.isAgg9
 z26:=Tryz.sizeOf9
 v26:=Tryz.zeroValue9
 t28:=Tryz.underlying200
 a28:=Tryz.isAgg200
 z28:=Tryz.sizeOf200
 v28:=Tryz.zeroValue200
 i26:=by kernel_rfl }
def Tryz.sort202_ren:Go.Shelf.Ren:=⟨fun | 6 => 202 | 8 => 237 | 9 => 236 | 19 => 255 | 20 => 256 | 21 => 246 | 22 => 247 | 23 => 248 | 24 => 249 | 25 => 250 | 26 => 251 | 27 => 252 | 28 => 253 | 29 => 254 | 36 => 261 | 31 => 262 | 32 => 263 | 37 => 264 | 38 => 265 | 39 => 266 | 41 => 268 | n => n,fun | 27 => 42 | 29 => 9 | 3 => 3 | 32 => 286 | 26 => 42 | 0 => 0 | 44 => 117 | 46 => 221 | 4 => 4 | 36 => 308 | 35 => 307 | 41 => 139 | 5 => 5 | 9 => 9 | 53 => 317 | 57 => 226 | 63 => 323 | 64 => 324 | n => n,fun | n => n⟩
theorem Tryz.sort202:Go.Proofs.SlLaysM.n6 Tryz.prog Tryz.sort202_ren:={
 mixed:=by kernel_rfl
 f6:=⟨Tryz.f202.name,by decide,Tryz.func202.trans (congrArg some (by kernel_rfl))⟩
 f8:=Tryz.func237.trans (congrArg some (by kernel_rfl))
 f9:=⟨Tryz.f236.name,by decide,Tryz.func236.trans (congrArg some (by kernel_rfl))⟩
 f19:=Tryz.func255.trans (congrArg some (by kernel_rfl))
 f20:=Tryz.func256.trans (congrArg some (by kernel_rfl))
 f21:=⟨Tryz.f246.name,by decide,Tryz.func246.trans (congrArg some (by kernel_rfl))⟩
 f22:=⟨Tryz.f247.name,by decide,Tryz.func247.trans (congrArg some (by kernel_rfl))⟩
 f23:=⟨Tryz.f248.name,by decide,Tryz.func248.trans (congrArg some (by kernel_rfl))⟩
 f24:=⟨Tryz.f249.name,by decide,Tryz.func249.trans (congrArg some (by kernel_rfl))⟩
 f25:=⟨Tryz.f250.name,by decide,Tryz.func250.trans (congrArg some (by kernel_rfl))⟩
 f26:=⟨Tryz.f251.name,by decide,Tryz.func251.trans (congrArg some (by kernel_rfl))⟩
 f27:=⟨Tryz.f252.name,by decide,Tryz.func252.trans (congrArg some (by kernel_rfl))⟩
 f28:=⟨Tryz.f253.name,by decide,Tryz.func253.trans (congrArg some (by kernel_rfl))⟩
 f29:=⟨Tryz.f254.name,by decide,Tryz.func254.trans (congrArg some (by kernel_rfl))⟩
 f31:=Tryz.func262.trans (congrArg some (by kernel_rfl))
 f32:=Tryz.func263.trans (congrArg some (by kernel_rfl))
 f36:=⟨Tryz.f261.name,by decide,Tryz.func261.trans (congrArg some (by kernel_rfl))⟩
 f37:=⟨Tryz.f264.name,by decide,Tryz.func264.trans (congrArg some (by kernel_rfl))⟩
 f38:=⟨Tryz.f265.name,by decide,Tryz.func265.trans (congrArg some (by kernel_rfl))⟩
 f39:=⟨Tryz.f266.name,by decide,Tryz.func266.trans (congrArg some (by kernel_rfl))⟩
 f41:=⟨Tryz.f268.name,by decide,Tryz.func268.trans (congrArg some (by kernel_rfl))⟩
 t0:=Tryz.underlying0
 a0:=Tryz.isAgg0
 z0:=Tryz.sizeOf0
 v0:=Tryz.zeroValue0
 t3:=Tryz.underlying3
 a3:=Tryz.isAgg3
 z3:=Tryz.sizeOf3
 v3:=Tryz.zeroValue3
 t4:=Tryz.underlying4
 a4:=Tryz.isAgg4
 z4:=Tryz.sizeOf4
 v4:=Tryz.zeroValue4
 t5:=Tryz.underlying5
 a5:=Tryz.isAgg5
 z5:=Tryz.sizeOf5
 v5:=Tryz.zeroValue5
 t9:=Tryz.underlying9
 a9:=Tryz.isAgg9
 z9:=Tryz.sizeOf9
 v9:=Tryz.zeroValue9
 t26:=Tryz.underlying42
 a26:=Tryz.isAgg42
 z26:=Tryz.sizeOf42
 v26:=Tryz.zeroValue42
 t27:=Tryz.underlying42
 a27:=Tryz.isAgg42
 z27:=Tryz.sizeOf42
 v27:=Tryz.zeroValue42
 t29:=Tryz.underlying9
 a29:=Tryz.isAgg9
 z29:=Tryz.sizeOf9
 v29:=Tryz.zeroValue9
 t32:=Tryz.underlying286
 a32:=Tryz.isAgg286
 z32:=Tryz.sizeOf286
 v32:=Tryz.zeroValue286
 t35:=Tryz.underlying307
 a35:=Tryz.isAgg307
 z35:=Tryz.sizeOf307
 v35:=Tryz.zeroValue307
 t36:=Tryz.underlying308
 a36:=Tryz.isAgg308
 z36:=Tryz.sizeOf308
 v36:=Tryz.zeroValue308
 t41:=Tryz.underlying139
 a41:=Tryz.isAgg139
 z41:=Tryz.sizeOf139
 v41:=Tryz.zeroValue139
 t44:=Tryz.underlying117
 a44:=Tryz.isAgg117
 z44:=Tryz.sizeOf117
 v44:=Tryz.zeroValue117
 t46:=Tryz.underlying221
 a46:=Tryz.isAgg221
 z46:=Tryz.sizeOf221
 v46:=Tryz.zeroValue221
 t53:=Tryz.underlying317
 a53:=Tryz.isAgg317
 z53:=Tryz.sizeOf317
 v53:=Tryz.zeroValue317
 t57:=Tryz.underlying226
 a57:=Tryz.isAgg226
 z57:=Tryz.sizeOf226
 v57:=Tryz.zeroValue226
 t63:=Tryz.underlying323
 a63:=Tryz.isAgg323
 z63:=Tryz.sizeOf323
 v63:=Tryz.zeroValue323
 t64:=Tryz.underlying324
 a64:=Tryz.isAgg324
 z64:=Tryz.sizeOf324
 v64:=Tryz.zeroValue324 }
open Go.RowKit Go.Maps Go.Sort in
theorem Tryz.sorts137 (m:Nat):AnyZ.SortsIn Tryz.prog Tryz.sorted137_ren Fence.wide m:=
 ⟨fun blk off cap ss W hH hblk hsz => callsIn_wide.2 (AnyM.slices_Sort_string Tryz.sort202 blk off cap ss W hH hblk hsz),
  fun p cap W => callsIn_wide.2 (AnyM.slices_Sort_string_none Tryz.sort202 p cap W)⟩
open Go.RowKit Go.Maps Go.Sort in
theorem Tryz.maps_Keys_138 (mb:Option Nat) (W:World):CallsIn Fence.wide 5 Tryz.prog 138 #[.map mb] W fun e w' => e = .returned (.func (.func 203) #[] #[.pointer (some ⟨W.heap.size,0,none⟩)]) ∧ w' = W.alloc (.cells #[.map mb] 182):=
 AnyZ.keys_in Tryz.keys138 Fence.wide 5 trivial rfl mb W
open Go.RowKit Go.Maps Go.Sort in
theorem Tryz.slices_Sorted_keys_137_138 {H:Type} (b nn:Nat) (D0:DataW H) (R:Value → Option (DataW H × List MemPlace)) (w:World) (hown:w.ownsMap Tryz.prog 9 R b nn D0) (hmax:Maps.size D0 ≤ maxLen) (hbytes:Maps.size D0 * 16 ≤ 140737488355328):
 CallsIn Fence.wide 5 Tryz.prog 137 #[.func (.func 203) #[] #[.pointer (some ⟨w.heap.size,0,none⟩)]] (w.alloc (.cells #[.map (some b)] 182)) fun e w' => ∃ (v:Value) (ss:List (List UInt8)),e = .returned v ∧ ss.Perm (strKeys D0) ∧
  w'.ownsRow (w.alloc (.cells #[.map (some b)] 182)).heap.size 9 1 v ss.length ((ss.mergeSort (fun x y => decide (x ≤ y))).map encStr) ∧ (v = .slice none 0 0 ↔ ss = []) ∧ Below (w.alloc (.cells #[.map (some b)] 182)).heap.size (w.alloc (.cells #[.map (some b)] 182)) w':=by
 have hbl:=hown.lt
 have hseq:SeqGives Fence.wide 2 Tryz.prog 203 #[.pointer (some ⟨w.heap.size,0,none⟩)] encStr (fun ss => ss.Perm (strKeys D0)) (Maps.size D0) (w.alloc (.cells #[.map (some b)] 182)):=
  AnyZ.keys_gives (ρ:=Tryz.keys138_ren) { Tryz.keys138 with } Fence.wide _ trivial rfl (by omega) w.heap.size b nn D0 _ (by simp) (by simp) (by
   obtain ⟨es,clock,hb,Ft,hs,hD⟩:=hown
   exact ⟨es,clock,(Below.heap_alloc _ _ b hbl).trans hb,Ft,hs,hD⟩)
 exact AnyZ.sorted_in Tryz.sorted137 Fence.wide 5 trivial trivial trivial trivial rfl (by omega) (Tryz.sorts137 _) (enters_of Tryz.func202 (by kernel_rfl) rfl) 203 #[.pointer (some ⟨w.heap.size,0,none⟩)] trivial (enters_of Tryz.func203 (by kernel_rfl) rfl) _ _ hmax hbytes _ hseq
end Go.Proofs.YtcjfmildalappaaGreat
