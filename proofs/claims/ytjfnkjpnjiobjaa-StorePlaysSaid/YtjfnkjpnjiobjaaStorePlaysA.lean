/-
  What StorePlays leans on, part 1: contracts of the functions that it reaches, and plain facts; each theorem bears its own conditions.
-/
import Derived.Shelf.Strings.Builder1
import Derived.Shelf.Strings.OnBuilder
import Derived.Shelf.Small.Strs
import Derived.Shelf.Strings.Search1
import Derived.Shelf.Strings.FieldsFuncAny
import Derived.Shelf.Slices.Turned
import Derived.Shelf.SlIter.Nil
import Derived.Shelf.SortM.Plain
import Derived.Shelf.SortM.SortNone
import Derived.Ground.GgzProg
import Derived.Ground.SlgmProg
import Derived.Test.YtjfnkjpnjiobjaaProg
import Derived.WalkKit
import Derived.WalkSpells
import Derived.WalkLawsBesides
import Derived.Lib.Hide
import Derived.BigQuiet
import Derived.Deep.QuietTactic
import Derived.Laws.DeepNot64
import Derived.WalkSmall
import Derived.Lib.FieldsP
import Derived.Lib.MapLaws
import Derived.Lib.Join
import Derived.ProofKit
import Derived.OpenShut
import Derived.ShutString
import Derived.ChangeOld
import Derived.Deep.Slices
import Derived.Deep.Fields
import Derived.ChangeSame
import Derived.Test.YtjfnkjpnjiobjaaRows
import Derived.Laws.IdiomStrings
import Derived.StillTailTactics
namespace Go.Proofs.Ytjfnkjpnjiobjaa
open Go.Shelf
def Try.lays156_ren : Go.Shelf.Ren := ⟨fun | 156 => 118 | 165 => 135 | 166 => 98 | 169 => 68 | 240 => 125 | 241 => 142 | 276 => 140 | 277 => 156 | n => n, fun | 31 => 101 | 9 => 9 | 3 => 3 | 4 => 4 | 0 => 0 | 20 => 20 | 72 => 108 | 76 => 140 | 70 => 105 | 37 => 106 | 75 => 139 | 127 => 145 | 164 => 186 | 5 => 5 | 80 => 103 | n => n, fun | n => n⟩
theorem Try.lays156 : Go.Proofs.Lays.n156 Try.prog Try.lays156_ren := {
  mixed := by kernel_rfl
  f156 := Try.func118.trans (congrArg some (by kernel_rfl))
  f165 := Try.func135.trans (congrArg some (by kernel_rfl))
  f166 := Try.func98.trans (congrArg some (by kernel_rfl))
  f169 := Try.func68.trans (congrArg some (by kernel_rfl))
  f240 := Try.func125.trans (congrArg some (by kernel_rfl))
  f241 := Try.func142.trans (congrArg some (by kernel_rfl))
  f276 := Try.func140.trans (congrArg some (by kernel_rfl))
  f277 := Try.func156.trans (congrArg some (by kernel_rfl))
  t0 := Try.underlying0
  a0 := Try.isAgg0
  z0 := Try.sizeOf0
  v0 := Try.zeroValue0
  t3 := Try.underlying3
  a3 := Try.isAgg3
  z3 := Try.sizeOf3
  v3 := Try.zeroValue3
  t4 := Try.underlying4
  a4 := Try.isAgg4
  z4 := Try.sizeOf4
  v4 := Try.zeroValue4
  t9 := Try.underlying9
  a9 := Try.isAgg9
  z9 := Try.sizeOf9
  v9 := Try.zeroValue9
  t20 := Try.underlying20
  a20 := Try.isAgg20
  z20 := Try.sizeOf20
  v20 := Try.zeroValue20
  t31 := Try.underlying101
  a31 := Try.isAgg101
  z31 := Try.sizeOf101
  v31 := Try.zeroValue101
  t37 := Try.underlying106
  a37 := Try.isAgg106
  z37 := Try.sizeOf106
  v37 := Try.zeroValue106
  t70 := Try.underlying105
  a70 := Try.isAgg105
  z70 := Try.sizeOf105
  v70 := Try.zeroValue105
  t72 := Try.underlying108
  a72 := Try.isAgg108
  z72 := Try.sizeOf108
  v72 := Try.zeroValue108
  t75 := Try.underlying139
  a75 := Try.isAgg139
  z75 := Try.sizeOf139
  v75 := Try.zeroValue139
  t76 := Try.underlying140
  a76 := Try.isAgg140
  z76 := Try.sizeOf140
  v76 := Try.zeroValue140
  t127 := Try.underlying145
  a127 := Try.isAgg145
  z127 := Try.sizeOf145
  v127 := Try.zeroValue145
  t164 := Try.underlying186
  a164 := Try.isAgg186
  z164 := Try.sizeOf186
  v164 := Try.zeroValue186 }
theorem Try.Builder_Extra_156 : Builder.Extra Try.prog Try.lays156_ren := {
  sizeBuilder := by kernel_rfl
  liesBuilder := by kernel_rfl
  t5 := Try.underlying5
  a5 := Try.isAgg5
  z5 := Try.sizeOf5
  v5 := Try.zeroValue5
  infoByte := by kernel_rfl
  cellsByte := by kernel_rfl
  sizeByte := by kernel_rfl
  neB5 := by decide }
open Go.RowKit in
theorem Try.strings_Join_none (a : Option Addr) (c : Nat) (sep : ByteArray) (w : World) :
    Calls Try.prog 118 #[.slice a 0 c, .string sep] w fun e w' => e = .returned (.string ⟨#[]⟩) ∧ w' = w := Any.strings_Join_none Try.lays156 Try.Builder_Extra_156 a c sep w
open Go.RowKit in
theorem Try.strings_Join (bk o c : Nat) (xs : List ByteArray) (sep : ByteArray) (w : World) (hcells : ∀ (j : Nat) x, xs[j]? = some x → w.cell? ⟨bk, o + j, none⟩ = some (.string x)) (hbk : bk < w.heap.size) (hN : xs.length ≤ 140737488355328) (hcap : xs.length ≤ c) (hlen : (Lib.join (xs.map (·.data.toList)) sep.data.toList).length ≤ 140737488355328) :
    Calls Try.prog 118 #[.slice (some ⟨bk, o, none⟩) xs.length c, .string sep] w fun e w' => e = .returned (.string ⟨(Lib.join (xs.map (·.data.toList)) sep.data.toList).toArray⟩) ∧ Below w.heap.size w w' := Any.strings_Join Try.lays156 Try.Builder_Extra_156 bk o c xs sep w hcells hbk hN hcap hlen
def Try.lays137_ren : Go.Shelf.Ren := ⟨fun | 137 => 121 | 217 => 136 | 266 => 143 | n => n, fun | 9 => 9 | 5 => 5 | 3 => 3 | n => n, fun | n => n⟩
theorem Try.lays137 : Go.Proofs.Lays.n137 Try.prog Try.lays137_ren := {
  mixed := by kernel_rfl
  f137 := Try.func121.trans (congrArg some (by kernel_rfl))
  f217 := Try.func136.trans (congrArg some (by kernel_rfl))
  f266 := Try.func143.trans (congrArg some (by kernel_rfl))
  t3 := Try.underlying3
  a3 := Try.isAgg3
  z3 := Try.sizeOf3
  v3 := Try.zeroValue3
  t5 := Try.underlying5
  a5 := Try.isAgg5
  z5 := Try.sizeOf5
  v5 := Try.zeroValue5
  t9 := Try.underlying9
  a9 := Try.isAgg9
  z9 := Try.sizeOf9
  v9 := Try.zeroValue9 }
open Go.RowKit in
theorem Try.strings_IndexByte (s : ByteArray) (c : Int) (w : World) :
    Calls Try.prog 121 #[.string s, .int .u8 c] w fun e w' => e = .returned (.int .i64 (Lib.indexByte s.data.toList c.toNat.toUInt8)) ∧ w' = w := Any.strings_IndexByte Try.lays137 s c w
def Try.lays229_ren : Go.Shelf.Ren := ⟨fun | 229 => 119 | n => n, fun | 9 => 9 | 40 => 166 | 31 => 101 | 152 => 180 | 3 => 3 | 0 => 0 | 4 => 4 | 21 => 21 | 154 => 182 | n => n, fun | n => n⟩
theorem Try.lays229 : Go.Proofs.Lays.n229 Try.prog Try.lays229_ren := {
  mixed := by kernel_rfl
  f229 := Try.func119.trans (congrArg some (by kernel_rfl))
  t0 := Try.underlying0
  a0 := Try.isAgg0
  z0 := Try.sizeOf0
  v0 := Try.zeroValue0
  t3 := Try.underlying3
  a3 := Try.isAgg3
  z3 := Try.sizeOf3
  v3 := Try.zeroValue3
  t4 := Try.underlying4
  a4 := Try.isAgg4
  z4 := Try.sizeOf4
  v4 := Try.zeroValue4
  t9 := Try.underlying9
  a9 := Try.isAgg9
  z9 := Try.sizeOf9
  v9 := Try.zeroValue9
  t21 := Try.underlying21
  a21 := Try.isAgg21
  z21 := Try.sizeOf21
  v21 := Try.zeroValue21
  t31 := Try.underlying101
  a31 := Try.isAgg101
  z31 := Try.sizeOf101
  v31 := Try.zeroValue101
  t40 := Try.underlying166
  a40 := Try.isAgg166
  z40 := Try.sizeOf166
  v40 := Try.zeroValue166
  t152 := Try.underlying180
  a152 := Try.isAgg180
  z152 := Try.sizeOf180
  v152 := Try.zeroValue180
  t154 := Try.underlying182
  a154 := Try.isAgg182
  z154 := Try.sizeOf182
  v154 := Try.zeroValue182 }
open Go.RowKit Go.Lib in
theorem Try.strings_FieldsFunc_runes (g : Nat) (lb : Array Value) (eg : ∀ args w, (callFunc g args).run Try.prog w = .ok (.enter g args) w) (p : Nat → Bool) (s : ByteArray) (w : World) (hs : s.size ≤ 4294967296) (hp : PredAtRunes Try.prog g lb p w) :
    Calls Try.prog 119 #[.string s, .func (.func g) #[] lb] w fun e w' => ∃ A, e = .returned (.slice (some ⟨A, 0, none⟩) (Lib.goFieldsP p s).length (Lib.goFieldsP p s).length) ∧ w.heap.size ≤ A ∧
      w'.ownsRow w.heap.size 9 1 (.slice (some ⟨A, 0, none⟩) (Lib.goFieldsP p s).length (Lib.goFieldsP p s).length) (Lib.goFieldsP p s).length ((Lib.goFieldsP p s).map Value.string) ∧ Below w.heap.size w w' := Any.strings_FieldsFunc_runes Try.lays229 g lb eg p s w hs hp (by kernel_rfl) (by kernel_rfl)
open Go.RowKit Go.Lib in
theorem Try.strings_FieldsFunc (g : Nat) (lb : Array Value) (eg : ∀ args w, (callFunc g args).run Try.prog w = .ok (.enter g args) w) (p : Nat → Bool) (s : ByteArray) (w : World) (hs : s.size ≤ 4294967296) (hp : PredAt Try.prog g lb encR p w) :
    Calls Try.prog 119 #[.string s, .func (.func g) #[] lb] w fun e w' => ∃ A, e = .returned (.slice (some ⟨A, 0, none⟩) (Lib.goFieldsP p s).length (Lib.goFieldsP p s).length) ∧ w.heap.size ≤ A ∧
      w'.ownsRow w.heap.size 9 1 (.slice (some ⟨A, 0, none⟩) (Lib.goFieldsP p s).length (Lib.goFieldsP p s).length) (Lib.goFieldsP p s).length ((Lib.goFieldsP p s).map Value.string) ∧ Below w.heap.size w w' := Any.strings_FieldsFunc Try.lays229 g lb eg p s w hs hp (by kernel_rfl) (by kernel_rfl)
def Try.lays107_ren : Go.Shelf.Ren := ⟨fun | 107 => 104 | 108 => 130 | n => n, fun | 28 => 144 | 3 => 3 | 4 => 4 | 0 => 0 | n => n, fun | n => n⟩
theorem Try.lays107 : Go.Proofs.Lays.n107 Try.prog Try.lays107_ren := {
  mixed := by kernel_rfl
  f107 := Try.func104.trans (congrArg some (by kernel_rfl))
  f108 := Try.func130.trans (congrArg some (by kernel_rfl))
  t0 := Try.underlying0
  a0 := Try.isAgg0
  z0 := Try.sizeOf0
  v0 := Try.zeroValue0
  t3 := Try.underlying3
  a3 := Try.isAgg3
  z3 := Try.sizeOf3
  v3 := Try.zeroValue3
  t4 := Try.underlying4
  a4 := Try.isAgg4
  z4 := Try.sizeOf4
  v4 := Try.zeroValue4
  t28 := Try.underlying144
  a28 := Try.isAgg144
  z28 := Try.sizeOf144
  v28 := Try.zeroValue144 }
open Go.Lib in
theorem Try.slices_Contains_int (b off n c : Nat) (zs : List Int) (x : Int) (w : World) (hz : n ≤ zs.length) (hbig : n ≤ 9223372036854775807) (hc : ∀ j, j < zs.length → w.cell? ⟨b, off + j, none⟩ = some (.int .i64 (zs.getD j 0))) :
    Calls Try.prog 104 #[.slice (some ⟨b, off, none⟩) n c, .int .i64 x] w fun e w' => e = .returned (.bool ((zs.take n).contains x)) ∧ w' = w := Any.slices_Contains_int Try.lays107 b off n c zs x w hz hbig hc
open Go.Lib in
theorem Try.slices_Contains_int_empty (a : Option Addr) (c : Nat) (x : Int) (w : World) :
    Calls Try.prog 104 #[.slice a 0 c, .int .i64 x] w fun e w' => e = .returned (.bool false) ∧ w' = w := Any.slices_Contains_int_empty Try.lays107 a c x w
def Try.keys97_ren : Go.Shelf.Ren := ⟨fun | 7 => 97 | 10 => 124 | n => n, fun | 23 => 89 | 26 => 9 | 3 => 92 | 28 => 136 | 0 => 0 | 27 => 135 | 33 => 76 | 4 => 4 | n => n, fun | n => n⟩
theorem Try.keys97 : Go.Proofs.SlLaysZ.n7 Try.prog Try.keys97_ren := {
  mixed := by kernel_rfl
  f7 := ⟨Try.f97.name, by decide, Try.func97.trans (congrArg some (by kernel_rfl))⟩
  f10 := ⟨Try.f124.name, by decide, Try.func124.trans (congrArg some (by kernel_rfl))⟩
  t0 := Try.underlying0
  a0 := Try.isAgg0
  z0 := Try.sizeOf0
  v0 := Try.zeroValue0
  t4 := Try.underlying4
  a4 := Try.isAgg4
  z4 := Try.sizeOf4
  v4 := Try.zeroValue4
  t23 := Try.underlying89
  a23 := Try.isAgg89
  z23 := Try.sizeOf89
  v23 := Try.zeroValue89
  t26 := Try.underlying9
  a26 := Try.isAgg9
  z26 := Try.sizeOf9
  v26 := Try.zeroValue9
  t27 := Try.underlying135
  a27 := Try.isAgg135
  z27 := Try.sizeOf135
  v27 := Try.zeroValue135
  t28 := Try.underlying136
  a28 := Try.isAgg136
  z28 := Try.sizeOf136
  v28 := Try.zeroValue136
  t33 := Try.underlying76
  a33 := Try.isAgg76
  z33 := Try.sizeOf76
  v33 := Try.zeroValue76 }
def Try.sorted96_ren : Go.Shelf.Ren := ⟨fun | 6 => 96 | 8 => 122 | 9 => 123 | 11 => 137 | 13 => 139 | 12 => 138 | 23 => 153 | 24 => 154 | 14 => 144 | 15 => 145 | 16 => 146 | 17 => 147 | 18 => 148 | 19 => 149 | 20 => 150 | 21 => 151 | 22 => 152 | 25 => 157 | 26 => 158 | 27 => 159 | 28 => 160 | 29 => 161 | 30 => 162 | 31 => 163 | n => n, fun | 26 => 9 | 28 => 136 | 24 => 101 | 0 => 0 | 3 => 3 | 37 => 179 | 48 => 198 | 50 => 148 | 4 => 4 | 40 => 191 | 39 => 190 | 45 => 58 | 5 => 5 | 9 => 9 | 51 => 202 | 55 => 124 | 57 => 207 | 58 => 208 | 33 => 76 | n => n, fun | n => n⟩
theorem Try.sorted96 : Go.Proofs.SlLaysZ.n6 Try.prog Try.sorted96_ren := {
  mixed := by kernel_rfl
  f6 := ⟨Try.f96.name, by decide, Try.func96.trans (congrArg some (by kernel_rfl))⟩
  f8 := ⟨Try.f122.name, by decide, Try.func122.trans (congrArg some (by kernel_rfl))⟩
  f11 := ⟨Try.f137.name, by decide, Try.func137.trans (congrArg some (by kernel_rfl))⟩
  t0 := Try.underlying0
  a0 := Try.isAgg0
  z0 := Try.sizeOf0
  v0 := Try.zeroValue0
  t24 := Try.underlying101
  a24 := Try.isAgg101
  z24 := Try.sizeOf101
  v24 := Try.zeroValue101
  t26 := Try.underlying9
  a26 := Try.isAgg9
  z26 := Try.sizeOf9
  v26 := Try.zeroValue9
  t28 := Try.underlying136
  a28 := Try.isAgg136
  z28 := Try.sizeOf136
  v28 := Try.zeroValue136
  i26 := by kernel_rfl }
def Try.sort123_ren : Go.Shelf.Ren := ⟨fun | 6 => 123 | 8 => 139 | 9 => 138 | 19 => 153 | 20 => 154 | 21 => 144 | 22 => 145 | 23 => 146 | 24 => 147 | 25 => 148 | 26 => 149 | 27 => 150 | 28 => 151 | 29 => 152 | 36 => 157 | 31 => 158 | 32 => 159 | 37 => 160 | 38 => 161 | 39 => 162 | 41 => 163 | n => n, fun | 27 => 101 | 29 => 9 | 3 => 3 | 32 => 179 | 26 => 101 | 0 => 0 | 44 => 198 | 46 => 148 | 4 => 4 | 36 => 191 | 35 => 190 | 41 => 58 | 5 => 5 | 9 => 9 | 53 => 202 | 57 => 124 | 63 => 207 | 64 => 208 | n => n, fun | n => n⟩
theorem Try.sort123 : Go.Proofs.SlLaysM.n6 Try.prog Try.sort123_ren := {
  mixed := by kernel_rfl
  f6 := ⟨Try.f123.name, by decide, Try.func123.trans (congrArg some (by kernel_rfl))⟩
  f8 := Try.func139.trans (congrArg some (by kernel_rfl))
  f9 := ⟨Try.f138.name, by decide, Try.func138.trans (congrArg some (by kernel_rfl))⟩
  f19 := Try.func153.trans (congrArg some (by kernel_rfl))
  f20 := Try.func154.trans (congrArg some (by kernel_rfl))
  f21 := ⟨Try.f144.name, by decide, Try.func144.trans (congrArg some (by kernel_rfl))⟩
  f22 := ⟨Try.f145.name, by decide, Try.func145.trans (congrArg some (by kernel_rfl))⟩
  f23 := ⟨Try.f146.name, by decide, Try.func146.trans (congrArg some (by kernel_rfl))⟩
  f24 := ⟨Try.f147.name, by decide, Try.func147.trans (congrArg some (by kernel_rfl))⟩
  f25 := ⟨Try.f148.name, by decide, Try.func148.trans (congrArg some (by kernel_rfl))⟩
  f26 := ⟨Try.f149.name, by decide, Try.func149.trans (congrArg some (by kernel_rfl))⟩
  f27 := ⟨Try.f150.name, by decide, Try.func150.trans (congrArg some (by kernel_rfl))⟩
  f28 := ⟨Try.f151.name, by decide, Try.func151.trans (congrArg some (by kernel_rfl))⟩
  f29 := ⟨Try.f152.name, by decide, Try.func152.trans (congrArg some (by kernel_rfl))⟩
  f31 := Try.func158.trans (congrArg some (by kernel_rfl))
  f32 := Try.func159.trans (congrArg some (by kernel_rfl))
  f36 := ⟨Try.f157.name, by decide, Try.func157.trans (congrArg some (by kernel_rfl))⟩
  f37 := ⟨Try.f160.name, by decide, Try.func160.trans (congrArg some (by kernel_rfl))⟩
  f38 := ⟨Try.f161.name, by decide, Try.func161.trans (congrArg some (by kernel_rfl))⟩
  f39 := ⟨Try.f162.name, by decide, Try.func162.trans (congrArg some (by kernel_rfl))⟩
  f41 := ⟨Try.f163.name, by decide, Try.func163.trans (congrArg some (by kernel_rfl))⟩
  t0 := Try.underlying0
  a0 := Try.isAgg0
  z0 := Try.sizeOf0
  v0 := Try.zeroValue0
  t3 := Try.underlying3
  a3 := Try.isAgg3
  z3 := Try.sizeOf3
  v3 := Try.zeroValue3
  t4 := Try.underlying4
  a4 := Try.isAgg4
  z4 := Try.sizeOf4
  v4 := Try.zeroValue4
  t5 := Try.underlying5
  a5 := Try.isAgg5
  z5 := Try.sizeOf5
  v5 := Try.zeroValue5
  t9 := Try.underlying9
  a9 := Try.isAgg9
  z9 := Try.sizeOf9
  v9 := Try.zeroValue9
  t26 := Try.underlying101
  a26 := Try.isAgg101
  z26 := Try.sizeOf101
  v26 := Try.zeroValue101
  t27 := Try.underlying101
  a27 := Try.isAgg101
  z27 := Try.sizeOf101
  v27 := Try.zeroValue101
  t29 := Try.underlying9
  a29 := Try.isAgg9
  z29 := Try.sizeOf9
  v29 := Try.zeroValue9
  t32 := Try.underlying179
  a32 := Try.isAgg179
  z32 := Try.sizeOf179
  v32 := Try.zeroValue179
  t35 := Try.underlying190
  a35 := Try.isAgg190
  z35 := Try.sizeOf190
  v35 := Try.zeroValue190
  t36 := Try.underlying191
  a36 := Try.isAgg191
  z36 := Try.sizeOf191
  v36 := Try.zeroValue191
  t41 := Try.underlying58
  a41 := Try.isAgg58
  z41 := Try.sizeOf58
  v41 := Try.zeroValue58
  t44 := Try.underlying198
  a44 := Try.isAgg198
  z44 := Try.sizeOf198
  v44 := Try.zeroValue198
  t46 := Try.underlying148
  a46 := Try.isAgg148
  z46 := Try.sizeOf148
  v46 := Try.zeroValue148
  t53 := Try.underlying202
  a53 := Try.isAgg202
  z53 := Try.sizeOf202
  v53 := Try.zeroValue202
  t57 := Try.underlying124
  a57 := Try.isAgg124
  z57 := Try.sizeOf124
  v57 := Try.zeroValue124
  t63 := Try.underlying207
  a63 := Try.isAgg207
  z63 := Try.sizeOf207
  v63 := Try.zeroValue207
  t64 := Try.underlying208
  a64 := Try.isAgg208
  z64 := Try.sizeOf208
  v64 := Try.zeroValue208 }
open Go.RowKit Go.Maps Go.Sort in
theorem Try.sorts96 (m : Nat) : AnyZ.SortsIn Try.prog Try.sorted96_ren Fence.wide m :=
  ⟨fun blk off cap ss W hH hblk hsz => callsIn_wide.2 (AnyM.slices_Sort_string Try.sort123 blk off cap ss W hH hblk hsz),
   fun p cap W => callsIn_wide.2 (AnyM.slices_Sort_string_none Try.sort123 p cap W)⟩
open Go.RowKit Go.Maps Go.Sort in
theorem Try.maps_Keys_97 (mb : Option Nat) (W : World) : CallsIn Fence.wide 5 Try.prog 97 #[.map mb] W fun e w' => e = .returned (.func (.func 124) #[] #[.pointer (some ⟨W.heap.size, 0, none⟩)]) ∧ w' = W.alloc (.cells #[.map mb] 89) :=
  AnyZ.keys_in Try.keys97 Fence.wide 5 trivial rfl mb W
open Go.RowKit Go.Maps Go.Sort in
theorem Try.slices_Sorted_keys_96_97 {H : Type} (b nn : Nat) (D0 : DataW H) (R : Value → Option (DataW H × List MemPlace)) (w : World) (hown : w.ownsMap Try.prog 9 R b nn D0) (hmax : Maps.size D0 ≤ maxLen) (hbytes : Maps.size D0 * 16 ≤ 140737488355328) :
    CallsIn Fence.wide 5 Try.prog 96 #[.func (.func 124) #[] #[.pointer (some ⟨w.heap.size, 0, none⟩)]] (w.alloc (.cells #[.map (some b)] 89)) fun e w' => ∃ (v : Value) (ss : List (List UInt8)), e = .returned v ∧ ss.Perm (strKeys D0) ∧
      w'.ownsRow (w.alloc (.cells #[.map (some b)] 89)).heap.size 9 1 v ss.length ((ss.mergeSort (fun x y => decide (x ≤ y))).map encStr) ∧ (v = .slice none 0 0 ↔ ss = []) ∧ Below (w.alloc (.cells #[.map (some b)] 89)).heap.size (w.alloc (.cells #[.map (some b)] 89)) w' := by
  have hbl := hown.lt
  have hseq : SeqGives Fence.wide 2 Try.prog 124 #[.pointer (some ⟨w.heap.size, 0, none⟩)] encStr (fun ss => ss.Perm (strKeys D0)) (Maps.size D0) (w.alloc (.cells #[.map (some b)] 89)) :=
    AnyZ.keys_gives (ρ := Try.keys97_ren) { Try.keys97 with } Fence.wide _ trivial rfl (by omega) w.heap.size b nn D0 _ (by simp) (by simp) (by
      obtain ⟨es, clock, hb, Ft, hs, hD⟩ := hown
      exact ⟨es, clock, (Below.heap_alloc _ _ b hbl).trans hb, Ft, hs, hD⟩)
  exact AnyZ.sorted_in Try.sorted96 Fence.wide 5 trivial trivial trivial trivial rfl (by omega) (Try.sorts96 _) (enters_of Try.func123 (by kernel_rfl) rfl) 124 #[.pointer (some ⟨w.heap.size, 0, none⟩)] trivial (enters_of Try.func124 (by kernel_rfl) rfl) _ _ hmax hbytes _ hseq
open Go.RowKit Go.Maps Go.Sort in
theorem Try.slices_Sorted_keys_nil_96_97 (w : World) :
    CallsIn Fence.wide 5 Try.prog 96 #[.func (.func 124) #[] #[.pointer (some ⟨w.heap.size, 0, none⟩)]] (w.alloc (.cells #[.map none] 89)) fun e w' => ∃ (v : Value) (ss : List (List UInt8)), e = .returned v ∧ ss = [] ∧
      w'.ownsRow (w.alloc (.cells #[.map none] 89)).heap.size 9 1 v ss.length ((ss.mergeSort (fun x y => decide (x ≤ y))).map encStr) ∧ (v = .slice none 0 0 ↔ ss = []) ∧ Below (w.alloc (.cells #[.map none] 89)).heap.size (w.alloc (.cells #[.map none] 89)) w' := by
  have hseq : SeqGives Fence.wide 2 Try.prog 124 #[.pointer (some ⟨w.heap.size, 0, none⟩)] encStr (fun ss : List (List UInt8) => ss = []) 0 (w.alloc (.cells #[.map none] 89)) :=
    AnyZ.keys_gives_nil (ρ := Try.keys97_ren) { Try.keys97 with } Fence.wide _ trivial rfl w.heap.size _ (by simp) (by simp)
  exact AnyZ.sorted_in Try.sorted96 Fence.wide 5 trivial trivial trivial trivial rfl (by omega) (Try.sorts96 _) (enters_of Try.func123 (by kernel_rfl) rfl) 124 #[.pointer (some ⟨w.heap.size, 0, none⟩)] trivial (enters_of Try.func124 (by kernel_rfl) rfl) _ 0 (Nat.zero_le _) (by omega) _ hseq
end Go.Proofs.Ytjfnkjpnjiobjaa
namespace Go.Proofs.Ytjfnkjpnjiobjaa
open Go.RowKit

/-- Block b holds just these cells, none frozen. -/
def Cells (w : World) (b : Nat) (t : TypeId) (cs : List Value) : Prop := w.heap[b]? = some (.cells cs.toArray t (0, 0))

/-- Of what was there in a only the blocks of S may have turned in w. -/
structure Only (S : List Nat) (a w : World) : Prop where
  os : w.os = a.os
  tape : w.tape = a.tape
  output : w.output = a.output
  size : a.heap.size ≤ w.heap.size
  block : ∀ k, k < a.heap.size → k ∉ S → w.heap[k]? = a.heap[k]?

section
variable {S S' : List Nat} {a w w' : World} {b : Nat} {t : TypeId} {cs : List Value}

theorem Only.refl (S : List Nat) (w : World) : Only S w w := ⟨rfl, rfl, rfl, Nat.le_refl _, fun _ _ _ => rfl⟩
theorem Only.trans (h : Only S a w) (k : Only S' w w') (hS : ∀ x, x ∈ S' → x ∈ S ∨ a.heap.size ≤ x) : Only S a w' :=
  ⟨k.os.trans h.os, k.tape.trans h.tape, k.output.trans h.output, Nat.le_trans h.size k.size, fun i hi hn =>
    (k.block i (Nat.lt_of_lt_of_le hi h.size) (fun hm => by
      rcases hS i hm with h1 | h1
      · exact hn h1
      · omega)).trans (h.block i hi hn)⟩
theorem Only.tr (h : Only S a w) (k : Only S w w') : Only S a w' := h.trans k fun _ hx => .inl hx
theorem Only.tr0 (h : Only S a w) (k : Only [] w w') : Only S a w' := h.trans k fun _ hx => by cases hx
theorem Only.mono (h : Only S a w) (hS : ∀ x, x ∈ S → x ∈ S' ∨ a.heap.size ≤ x) : Only S' a w :=
  ⟨h.os, h.tape, h.output, h.size, fun i hi hn => h.block i hi (fun hm => by
      rcases hS i hm with h1 | h1
      · exact hn h1
      · omega)⟩
theorem Only.of0 (h : Only [] a w) : Only S a w := h.mono fun _ hx => by cases hx
theorem Only.drew (h : Only S a w) : Only S a w.drew := ⟨h.os, h.tape, h.output, h.size, h.block⟩
theorem Only.drewN (h : Only S a w) (n : Nat) : Only S a (w.drewN n) := ⟨h.os, h.tape, h.output, h.size, h.block⟩
theorem Only.alloc (h : Only S a w) (o : Obj) : Only S a (w.alloc o) :=
  ⟨h.os, h.tape, h.output, Nat.le_trans h.size (by simp), fun i hi hn => (Below.heap_alloc w o i (Nat.lt_of_lt_of_le hi h.size)).trans (h.block i hi hn)⟩
theorem Only.setCell (h : Only S a w) {p : Addr} (hp : p.block ∈ S ∨ a.heap.size ≤ p.block) (u : Value) : Only S a (w.setCell p u) :=
  ⟨h.os, h.tape, h.output, by simpa [World.setCell] using h.size, fun i hi hn => (Below.heap_setCell w p u i (by
    rintro rfl
    rcases hp with hp | hp
    · exact hn hp
    · omega)).trans (h.block i hi hn)⟩
theorem Only.below (h : Only [] a w) : Below a.heap.size a w := ⟨h.os, h.tape, h.output, h.size, fun k hk => h.block k hk (by simp)⟩
theorem Only.of_below (h : Below a.heap.size a w) : Only S a w := ⟨h.os, h.tape, h.output, h.size, fun k hk _ => h.block k hk⟩
theorem Only.grown {row : Option Nat} (h : Only S a w) (hg : w.grownBy w' row) (hr : ∀ g, row = some g → g ∈ S ∨ a.heap.size ≤ g) : Only S a w' :=
  ⟨hg.os.trans h.os, hg.tape.trans h.tape, hg.output.trans h.output, Nat.le_trans h.size hg.size, fun i hi hn =>
    (hg.block i (Nat.lt_of_lt_of_le hi h.size) (fun e => by
      rcases hr i e.symm with h1 | h1
      · exact hn h1
      · omega)).trans (h.block i hi hn)⟩
theorem Only.cell (h : Only S a w) {p : Addr} (hp : p.block < a.heap.size) (hn : p.block ∉ S) : w.cell? p = a.cell? p := World.cell?_of_block (w := a) (h.block p.block hp hn)
theorem Only.frozen (h : Only S a w) {p : Addr} (hp : p.block < a.heap.size) (hn : p.block ∉ S) : w.frozen? p = a.frozen? p := World.frozen?_of_block (w := a) (h.block p.block hp hn)

theorem Cells.lt (h : Cells w b t cs) : b < w.heap.size := by
  rcases Nat.lt_or_ge b w.heap.size with hlt | hge
  · exact hlt
  · unfold Cells at h; rw [Array.getElem?_eq_none hge] at h; cases h
theorem Cells.cell (h : Cells w b t cs) {k : Nat} {v : Value} (hv : cs[k]? = some v) : w.cell? ⟨b, k, none⟩ = some v := by
  have := cell_of_row w b k cs.toArray t (0, 0) h
  rw [this]; simpa using hv
theorem Cells.frozen (h : Cells w b t cs) (k : Nat) : w.frozen? ⟨b, k, none⟩ = false := by
  unfold Cells at h
  simp [World.frozen?, h]
theorem Cells.new (w : World) (t : TypeId) (cs : List Value) : Cells (w.alloc (.cells cs.toArray t)) w.heap.size t cs := heap_alloc_new w _
theorem Cells.drew (h : Cells w b t cs) : Cells w.drew b t cs := h
theorem Cells.drewN (h : Cells w b t cs) (n : Nat) : Cells (w.drewN n) b t cs := h
theorem Cells.alloc (h : Cells w b t cs) (o : Obj) : Cells (w.alloc o) b t cs := (Below.heap_alloc w o b h.lt).trans h
theorem Cells.set (h : Cells w b t cs) (i : Nat) (u : Value) : Cells (w.setCell ⟨b, i, none⟩ u) b t (cs.set i u) := by
  unfold Cells at h ⊢
  simp [World.setCell, Array.getElem?_modify, h]
theorem Cells.far (h : Cells w b t cs) {p : Addr} (hp : b ≠ p.block) (u : Value) : Cells (w.setCell p u) b t cs := (Below.heap_setCell w p u b hp).trans h
theorem Cells.only (h : Cells a b t cs) (ho : Only S a w) (hb : b ∉ S) : Cells w b t cs := (ho.block b h.lt hb).trans h
theorem Cells.ne {b' : Nat} {t' : TypeId} {cs' : List Value} (h : Cells w b t cs) (h' : Cells w b' t' cs') (hne : t ≠ t') : b ≠ b' := by
  rintro rfl
  unfold Cells at h h'
  rw [h] at h'
  injection h' with h'
  injection h' with _ ht
  exact hne ht
end

/-! ### Regions that draw their order, whose operations read and whose callees read and make memory -/
/-- A world in which nothing of W has turned. -/
structure Since (W : World) where
  w : World
  h : Only [] W w
instance (W : World) : Nonempty (Since W) := ⟨⟨W, Only.refl _ _⟩⟩
theorem wp_region_only {P : Program} {id : Nat} {Q : Exit → Act → World → Prop} {a : Act} {w : World} {l : List Oper} (W : World) (hw : Only [] W w) (hm : P.follows .mixedOrders = true) (hB : Region.lexB .any l.toArray = true)
    (h : wpQuiet P l.toArray (fun w' => ∃ u : Since W, w' = u.w) (fun a' => ∀ u : Since W, Q .normal a' u.w) l a) : (Code.region id l.toArray true).wp P Q a w := by
  refine wp_region_quiet (C := fun w' => ∃ u : Since W, w' = u.w) hm hB ⟨⟨_, hw.drew⟩, rfl⟩ ?_
  have : (fun a' => ∀ w', (∃ u : Since W, w' = u.w) → Q .normal a' w') = (fun a' => ∀ u : Since W, Q .normal a' u.w) := by
    funext a'
    exact propext ⟨fun h u => h _ ⟨u, rfl⟩, fun h w' ⟨u, hu⟩ => hu ▸ h u⟩
  rw [this]
  exact h
theorem Calls.only {P : Program} {f : FuncId} {args : Array Value} {W : World} {u : Since W} {v : Value} (h : Calls P f args u.w fun e w' => e = .returned v ∧ Only [] u.w w') :
    Calls P f args u.w fun e w'' => e = .returned v ∧ ∃ u' : Since W, w'' = u'.w :=
  h.mono fun _ w' ⟨he, ho⟩ => ⟨he, ⟨w', u.h.tr0 ho⟩, rfl⟩
theorem Calls.only_same {P : Program} {f : FuncId} {args : Array Value} {W : World} {u : Since W} {v : Value} (h : Calls P f args u.w fun e w' => e = .returned v ∧ u.w = w') :
    Calls P f args u.w fun e w'' => e = .returned v ∧ ∃ u' : Since W, w'' = u'.w :=
  h.mono fun _ _ ⟨he, ho⟩ => ⟨he, u, ho.symm⟩
theorem Since.cell {W : World} (u : Since W) {p : Addr} {v : Value} (h : W.cell? p = some v) : u.w.cell? p = some v :=
  (u.h.cell (World.block_lt_of_cell? W _ h) (by simp)).trans h

/-! ### Rows of the call's own -/
theorem own_only {S : List Nat} {w w' : World} {base : Nat} {e : TypeId} {sz n : Nat} {v : Value} {xs : List Value} (h : w.ownsRow base e sz v n xs) (ho : Only S w w') (hS : ∀ x, x ∈ S → x < base) : w'.ownsRow base e sz v n xs := by
  obtain ⟨hl, h⟩ := h
  refine ⟨hl, ?_⟩
  rcases h with h | ⟨g, cap, cur, hv, hb, hh, hr⟩
  · exact .inl h
  · refine .inr ⟨g, cap, cur, hv, hb, ?_, hr⟩
    have hlt : g < w.heap.size := by
      rcases Nat.lt_or_ge g w.heap.size with hlt | hge
      · exact hlt
      · rw [Array.getElem?_eq_none hge] at hh; cases hh
    rw [ho.block g hlt (fun hm => by have := hS g hm; omega)]
    exact hh
theorem Only.own {S : List Nat} {a w w' : World} {base : Nat} {e : TypeId} {sz n : Nat} {v : Value} {xs : List Value} (h : Only S a w) (hown : w.ownsRow base e sz v n xs) (hg : w.grownBy w' v.ownBlock) (hb : a.heap.size ≤ base) : Only S a w' :=
  h.grown hg fun g e => .inr (Nat.le_trans hb (hown.lt g e).1)
theorem own_cell {w : World} {base : Nat} {e : TypeId} {sz n k : Nat} {v u : Value} {xs : List Value} (h : w.ownsRow base e sz v n xs) (hk : xs[k]? = some u) : ∃ g cap, v = .slice (some ⟨g, 0, none⟩) n cap ∧ base ≤ g ∧ g < w.heap.size ∧ w.cell? ⟨g, k, none⟩ = some u := by
  obtain ⟨hl, h⟩ := h
  have hkl : k < xs.length := (List.getElem?_eq_some_iff.1 hk).1
  rcases h with ⟨_, rfl⟩ | ⟨g, cap, cur, hv, hb, hh, hnc, _, hsz, hxs⟩
  · simp at hl; rw [hl] at hkl; simp at hkl
  · refine ⟨g, cap, hv, hb, ?_, ?_⟩
    · rcases Nat.lt_or_ge g w.heap.size with hlt | hge
      · exact hlt
      · rw [Array.getElem?_eq_none hge] at hh; cases hh
    · rw [cell_of_row w g k cur e (0, 0) hh, ← hk, ← hxs, List.getElem?_take_of_lt (by omega)]
      simp
theorem own_ne_block {w : World} {base b : Nat} {e t : TypeId} {sz n : Nat} {v : Value} {xs cs : List Value} (h : w.ownsRow base e sz v n xs) (hc : Cells w b t cs) (hne : e ≠ t) : v.ownBlock ≠ some b := by
  intro hb
  obtain ⟨_, h⟩ := h
  rcases h with ⟨rfl, _⟩ | ⟨g, cap, cur, rfl, _, hh, _⟩
  · simp [Value.ownBlock] at hb
  · simp [Value.ownBlock] at hb
    subst hb
    unfold Cells at hc
    rw [hh] at hc
    injection hc with hc
    injection hc with _ h2
    exact hne h2
theorem Cells.grown {w w' : World} {b : Nat} {t : TypeId} {cs : List Value} {row : Option Nat} (h : Cells w b t cs) (hg : w.grownBy w' row) (hne : row ≠ some b) : Cells w' b t cs :=
  (hg.block b h.lt (fun e => hne e.symm)).trans h
/-- An append of elements that have just been laid in a block of their own. -/
theorem wpList_app {P : Program} {ops : Array Oper} {rest : List Oper} {o : Oper} {a : Act} {Q : Exit → Act → World → Prop} (hgd : o.guard = none) (s x : Operand) (t : TypeId)
    (ho : o.op = .call { callee := .builtin .append, args := #[s, x], argTypes := #[t, t] })
    (base : Nat) (e : TypeId) (i : TypeInfo) (z : Value) (size bytes : Nat) (ht : P.underlying t = some (.slice e)) (hi : P.info? e = some i) (hz : i.zero = some z)
    (hsize : i.size = size) (hby : i.bytes = bytes) (hzs : z.cells.size = size) (hsz : 0 < size) (w : World)
    (v : Value) (n : Nat) (xs : List Value) (hs : a.eval s = v) (hown : w.ownsRow base e size v n xs)
    (m c : Nat) (cs : List Value) (hx : a.eval x = .slice (some ⟨w.heap.size, 0, none⟩) m c) (hl : cs.length = m * size) (h1 : ∀ u ∈ cs, u.oneCell' = true)
    (h63 : n + m ≤ maxLen) (hbytes : (n + m) * bytes ≤ 140737488355328) (hbase : base ≤ w.heap.size)
    (h : ∀ v' w', w'.ownsRow base e size v' (n + m) (xs ++ cs) → w.grownBy w' v.ownBlock → (v' = .slice none 0 0 ↔ v = .slice none 0 0 ∧ m = 0) → wpList P ops Q rest (a.put o.dst v') w') :
    wpList P ops Q (o :: rest) a (w.alloc (.cells cs.toArray e)) := by
  refine wpList_append_own _ hgd s x t ho base e i z size bytes ht hi hz hsize hby hzs hsz v n xs hs (hown.alloc _) ⟨w.heap.size, 0, none⟩ m c cs hx hl (fun j u hu => ?_) h1 h63 hbytes (by simp; omega) fun v' w' h2 h3 h4 => h v' w' h2 ?_ h4
  · have := (Cells.new w e cs).cell hu
    unfold Addr.add
    by_cases hj : j = 0
    · subst hj; simpa using this
    · simp only [hj, if_false, Nat.zero_add]; exact this
  · exact ⟨h3.os, h3.tape, h3.output, Nat.le_trans (by simp) h3.size, fun k hk hne => (h3.block k (by simp; omega) hne).trans (Below.heap_alloc w _ k hk)⟩

/-! ### Rows of structs of n cells -/
theorem flat_get {α : Type} (f : α → List Value) (n : Nat) (hf : ∀ x, (f x).length = n) : ∀ (l : List α) (i j : Nat) (x : α), l[i]? = some x → j < n → (l.flatMap f)[i * n + j]? = (f x)[j]?
  | [], i, j, x, h, _ => by simp at h
  | y :: l, 0, j, x, h, hj => by
    simp at h; subst h
    rw [List.flatMap_cons, Nat.zero_mul, Nat.zero_add, List.getElem?_append_left (by rw [hf]; exact hj)]
  | y :: l, i + 1, j, x, h, hj => by
    rw [List.flatMap_cons, List.getElem?_append_right (by rw [hf, Nat.succ_mul]; omega), hf]
    rw [show (i + 1) * n + j - n = i * n + j from by rw [Nat.succ_mul]; omega]
    exact flat_get f n hf l i j x (by simpa using h) hj
theorem flat_set {α : Type} (f : α → List Value) (n : Nat) (hf : ∀ x, (f x).length = n) : ∀ (l : List α) (i j : Nat) (x x' : α) (v : Value), l[i]? = some x → j < n → (f x).set j v = f x' →
    (l.flatMap f).set (i * n + j) v = (l.set i x').flatMap f
  | [], i, j, x, x', v, h, _, _ => by simp at h
  | y :: l, 0, j, x, x', v, h, hj, hs => by
    simp at h; subst h
    rw [List.flatMap_cons, Nat.zero_mul, Nat.zero_add, List.set_append_left _ _ (by rw [hf]; exact hj), hs, List.set_cons_zero, List.flatMap_cons]
  | y :: l, i + 1, j, x, x', v, h, hj, hs => by
    rw [List.flatMap_cons, List.set_append_right _ _ (by rw [hf, Nat.succ_mul]; omega), hf]
    rw [show (i + 1) * n + j - n = i * n + j from by rw [Nat.succ_mul]; omega]
    rw [flat_set f n hf l i j x x' v (by simpa using h) hj hs, List.set_cons_succ, List.flatMap_cons]
theorem flat_length {α : Type} (f : α → List Value) (n : Nat) (hf : ∀ x, (f x).length = n) (l : List α) : (l.flatMap f).length = l.length * n := by
  induction l with
  | nil => simp
  | cons y l ih => rw [List.flatMap_cons, List.length_append, hf, ih, List.length_cons, Nat.succ_mul]; omega
end Go.Proofs.Ytjfnkjpnjiobjaa
namespace Go.Proofs.Ytjfnkjpnjiobjaa
open Go.RowKit

theorem str_extract (l : List UInt8) (a b : Nat) : (⟨l.toArray⟩ : ByteArray).extract a b = ⟨((l.drop a).take (b - a)).toArray⟩ := by
  rw [ByteArray.extract_mk]
  try simp [List.extract_eq_take_drop]
theorem str_to_end (l : List UInt8) (a : Nat) : (⟨l.toArray⟩ : ByteArray).extract a l.length = ⟨(l.drop a).toArray⟩ := by
  rw [str_extract, List.take_of_length_le (by simp)]
theorem str_from_start (l : List UInt8) (b : Nat) : (⟨l.toArray⟩ : ByteArray).extract 0 b = ⟨(l.take b).toArray⟩ := by
  rw [str_extract]; simp
theorem str_of (s : ByteArray) : ∃ l : List UInt8, s = ⟨l.toArray⟩ ∧ s.size = l.length := ⟨s.data.toList, by simp, by simp⟩
theorem str_size (l : List UInt8) : (⟨l.toArray⟩ : ByteArray).size = l.length := rfl
theorem str_inj {l m : List UInt8} (h : (⟨l.toArray⟩ : ByteArray) = ⟨m.toArray⟩) : l = m := by
  have := congrArg (fun b : ByteArray => b.data.toList) h
  simpa using this

theorem bits_xor_comm (k : IntKind) (x y : Int) : bits .xor k x y = bits .xor k y x := by
  show k.wrap ((BitVec.ofInt k.bits x ^^^ BitVec.ofInt k.bits y).toNat : Int) = k.wrap ((BitVec.ofInt k.bits y ^^^ BitVec.ofInt k.bits x).toNat : Int)
  rw [BitVec.xor_comm]
theorem ofInt_i64' (a : Nat) (ha : a < 9223372036854775808) : (BitVec.ofInt 64 (a : Int)).toNat = a := by
  rw [BitVec.ofInt_natCast, BitVec.toNat_ofNat]; exact Nat.mod_eq_of_lt (by omega)
theorem i64_xor_zero (a : Nat) (ha : a < 9223372036854775808) : bits .xor .i64 (a : Int) 0 = (a : Int) := by
  show IntKind.i64.wrap ((BitVec.ofInt 64 (a : Int) ^^^ BitVec.ofInt 64 ((0 : Nat) : Int)).toNat : Int) = _
  rw [BitVec.toNat_xor, ofInt_i64' a ha, ofInt_i64' 0 (by omega), Nat.xor_zero, IntKind.wrap_i64]
  omega
end Go.Proofs.Ytjfnkjpnjiobjaa
namespace Go.Proofs.Ytjfnkjpnjiobjaa
open Go.RowKit Go.Lib
def blank (b : UInt8) : Bool := b == 32 || b == 9 || b == 10 || b == 13
def blankR (r : Nat) : Bool := r == 32 || r == 9 || r == 10 || r == 13
theorem blank_nat (b : UInt8) : blank b = blankR b.toNat := by
  unfold blank blankR
  rw [Bool.eq_iff_iff]
  simp only [Bool.or_eq_true, beq_iff_eq, ← UInt8.toNat_inj]
  rfl
theorem blankR_high {r : Nat} (h : 128 ≤ r) : blankR r = false := by
  unfold blankR
  simp only [Bool.or_eq_false_iff, beq_eq_false_iff_ne]
  omega
def fieldsB : Option (List UInt8) → List UInt8 → List (List UInt8)
  | cur, [] => cur.toList
  | cur, b :: r => if blank b then cur.toList ++ fieldsB none r else fieldsB (some (cur.getD [] ++ [b])) r
theorem fieldsB_run (u : List UInt8) : ∀ (cur : Option (List UInt8)) (r : List UInt8), (∀ b ∈ u, blank b = false) → u ≠ [] → fieldsB cur (u ++ r) = fieldsB (some (cur.getD [] ++ u)) r := by
  induction u with
  | nil => intro _ _ _ h; exact absurd rfl h
  | cons b u ih =>
    intro cur r h _
    have hb := h b (by simp)
    rw [List.cons_append, fieldsB, if_neg (by simp [hb])]
    cases u with
    | nil => rfl
    | cons c u =>
      rw [ih _ r (fun x hx => h x (List.mem_cons_of_mem _ hx)) (by simp)]
      simp
theorem get_list (l : List UInt8) (i : Nat) : (⟨l.toArray⟩ : ByteArray).get! i = l.getD i 0 := by
  show l.toArray[i]! = _
  rw [List.getElem!_toArray, List.getElem!_eq_getElem?_getD, List.getD_eq_getElem?_getD]
  rfl
theorem dec_step (l : List UInt8) (pos : Nat) (h : pos < l.length) : ∃ r n, Utf8.decode ⟨l.toArray⟩ pos = (r, n) ∧ blank l[pos] = blankR r ∧ 1 ≤ n ∧ pos + n ≤ l.length ∧ (blankR r = true → n = 1) ∧ ∀ j, j < n → 0 < j → blank (l.getD (pos + j) 0) = false := by
  rw [decode_at]
  have e0 : (⟨l.toArray⟩ : ByteArray).get! pos = l[pos] := by rw [get_list]; simp [List.getD_eq_getElem?_getD, List.getElem?_eq_getElem h]
  rw [e0, get_list, get_list, get_list, str_size]
  have hb := blank_nat l[pos]
  have hb8 := l[pos].toNat_lt
  have hh : ∀ c : UInt8, c.toNat / 64 = 2 → blank c = false := fun c hc => by rw [blank_nat]; exact blankR_high (by omega)
  by_cases h0 : l[pos].toNat < 128
  · refine ⟨l[pos].toNat, 1, ?_, hb, Nat.le_refl _, by omega, fun _ => rfl, fun j h1 h2 => by omega⟩
    unfold decodeN
    rw [if_pos h0]
  · have hbf : blank l[pos] = false := by rw [hb]; exact blankR_high (by omega)
    rcases decodeN_shape (l.length - pos) l[pos].toNat (l.getD (pos + 1) 0).toNat (l.getD (pos + 2) 0).toNat (l.getD (pos + 3) 0).toNat with ⟨c, e⟩ | ⟨c1, c2, c3, cv, e⟩ | ⟨c1, c2, c3, c4, cv, cs, e⟩ | ⟨c1, c2, c3, c4, c5, cv, cw, e⟩ | e
    · omega
    · have hr := blankR_high cv
      refine ⟨_, 2, e, by rw [hbf, hr], by omega, by omega, fun h => (by rw [hr] at h; cases h), fun j h1 h2 => ?_⟩
      obtain rfl : j = 1 := by omega
      exact hh _ c3
    · have hr := blankR_high (Nat.le_trans (by omega : 128 ≤ 2048) cv)
      refine ⟨_, 3, e, by rw [hbf, hr], by omega, by omega, fun h => (by rw [hr] at h; cases h), fun j h1 h2 => ?_⟩
      have : j = 1 ∨ j = 2 := by omega
      rcases this with rfl | rfl
      · exact hh _ c3
      · exact hh _ c4
    · have hr := blankR_high (Nat.le_trans (by omega : 128 ≤ 65536) cv)
      refine ⟨_, 4, e, by rw [hbf, hr], by omega, by omega, fun h => (by rw [hr] at h; cases h), fun j h1 h2 => ?_⟩
      have : j = 1 ∨ j = 2 ∨ j = 3 := by omega
      rcases this with rfl | rfl | rfl
      · exact hh _ c3
      · exact hh _ c4
      · exact hh _ c5
    · have hr : blankR 65533 = false := rfl
      exact ⟨_, 1, e, by rw [hbf, hr], Nat.le_refl _, by omega, fun h => rfl, fun j h1 h2 => by omega⟩
theorem extr (l : List UInt8) (a b : Nat) : (⟨l.toArray⟩ : ByteArray).extract a b = ⟨((l.drop a).take (b - a)).toArray⟩ := by
  apply ByteArray.ext
  simp [List.extract_eq_take_drop]
theorem spans_eq (l : List UInt8) : ∀ (f pos : Nat) (st : Option Nat) (acc : List (Nat × Nat)), pos ≤ l.length → l.length - pos ≤ f → (∀ a, st = some a → a ≤ pos) →
    (closeSpans ⟨l.toArray⟩ (spansFromP blankR ⟨l.toArray⟩ f pos st acc)).map (fun x => (l.drop x.1).take (x.2 - x.1)) = acc.map (fun x => (l.drop x.1).take (x.2 - x.1)) ++ fieldsB (st.map fun a => (l.drop a).take (pos - a)) (l.drop pos) := by
  intro f
  induction f with
  | zero =>
    intro pos st acc h1 h2 h3
    have he : l.drop pos = [] := List.drop_eq_nil_of_le (by omega)
    rw [he]
    cases st with
    | none => simp [spansFromP, closeSpans, fieldsB]
    | some a =>
      have : pos = l.length := by omega
      simp [spansFromP, closeSpans, fieldsB, str_size, this]
  | succ f ih =>
    intro pos st acc h1 h2 h3
    by_cases hlt : pos < l.length
    · obtain ⟨r, n, hd, hb, hn1, hn2, hn3, hrest⟩ := dec_step l pos hlt
      unfold spansFromP
      rw [str_size, if_pos hlt, hd]
      dsimp only
      have hdr := List.drop_eq_getElem_cons hlt
      by_cases hp : blankR r = true
      · have hn := hn3 hp
        subst hn
        rw [if_pos hp]
        have hfb : ∀ cur, fieldsB cur (l.drop pos) = cur.toList ++ fieldsB none (l.drop (pos + 1)) := fun cur => by rw [hdr, fieldsB, if_pos (by rw [hb]; exact hp)]
        cases st with
        | none =>
          dsimp only
          rw [ih _ _ _ hn2 (by omega) (fun a h => by cases h), hfb]
          rfl
        | some a =>
          dsimp only
          rw [ih _ _ _ hn2 (by omega) (fun a h => by cases h), hfb]
          simp
      · rw [if_neg hp]
        have hp : blankR r = false := by simpa using hp
        have hu : l.drop pos = (l.drop pos).take n ++ l.drop (pos + n) := by rw [← List.drop_drop, List.take_append_drop]
        have hall : ∀ b ∈ (l.drop pos).take n, blank b = false := by
          intro b hbm
          obtain ⟨j, hj, rfl⟩ := List.getElem_of_mem hbm
          have hjn : j < n := by rw [List.length_take] at hj; omega
          have hjl : pos + j < l.length := by omega
          rw [List.getElem_take, List.getElem_drop]
          by_cases hj0 : j = 0
          · subst hj0; simpa [hp] using hb
          · have := hrest j hjn (by omega)
            rw [List.getD_eq_getElem?_getD, List.getElem?_eq_getElem hjl] at this
            exact this
        have hne : (l.drop pos).take n ≠ [] := fun h => by
          have := congrArg List.length h
          rw [List.length_take, List.length_drop, List.length_nil] at this
          omega
        have hfb : ∀ cur, fieldsB cur (l.drop pos) = fieldsB (some (cur.getD [] ++ (l.drop pos).take n)) (l.drop (pos + n)) := fun cur => by
          conv => lhs; rw [hu]
          exact fieldsB_run _ cur _ hall hne
        cases st with
        | none =>
          dsimp only
          rw [ih _ _ _ hn2 (by omega) (fun a h => by cases h; omega), hfb]
          simp
        | some a =>
          have ha := h3 a rfl
          dsimp only
          rw [ih _ _ _ hn2 (by omega) (fun a' h => by cases h; omega), hfb]
          simp only [Option.map_some, Option.getD_some]
          rw [show pos + n - a = (pos - a) + n from by omega, List.take_add, List.drop_drop, show a + (pos - a) = pos from by omega]
    · have he : l.drop pos = [] := List.drop_eq_nil_of_le (by omega)
      rw [spansFromP_end _ _ _ _ _ _ (by rw [str_size]; exact hlt), he]
      cases st with
      | none => simp [closeSpans, fieldsB]
      | some a =>
        have : pos = l.length := by omega
        simp [closeSpans, fieldsB, str_size, this]
/-- The text, squeezed. -/
def sq (l : List UInt8) : List UInt8 := Lib.join (fieldsB none l) [32]
theorem fields_eq (l : List UInt8) : (goFieldsP blankR ⟨l.toArray⟩).map (fun x => x.data.toList) = fieldsB none l := by
  have := spans_eq l l.length 0 none [] (Nat.zero_le _) (by omega) (fun a h => by cases h)
  simp only [List.map_nil, List.nil_append, Option.map_none, List.drop_zero] at this
  rw [← this]
  unfold goFieldsP spansOfP
  rw [List.map_map, str_size]
  apply List.map_congr_left
  intro x _
  show ((⟨l.toArray⟩ : ByteArray).extract x.1 x.2).data.toList = _
  rw [extr]
/-- The document's way: byte by byte. -/
def sqStep (s : List UInt8 × Bool) (c : UInt8) : List UInt8 × Bool :=
  if blank c then (s.1, decide (0 < s.1.length)) else (if s.2 then s.1 ++ [32] ++ [c] else s.1 ++ [c], false)
theorem join_snoc (xs : List (List UInt8)) (x : List UInt8) (h : xs ≠ []) (sep : List UInt8) : Lib.join (xs ++ [x]) sep = Lib.join xs sep ++ sep ++ x := by
  obtain ⟨y, r, rfl⟩ := List.exists_cons_of_ne_nil h
  rw [List.cons_append, Lib.join_cons, Lib.join_cons]
  unfold Lib.joinTail
  simp
theorem join_grow (xs : List (List UInt8)) (x y : List UInt8) (sep : List UInt8) : Lib.join (xs ++ [x ++ y]) sep = Lib.join (xs ++ [x]) sep ++ y := by
  cases xs with
  | nil => simp [Lib.join_one]
  | cons a r => rw [join_snoc _ _ (by simp), join_snoc _ _ (by simp)]; simp only [List.append_assoc]
theorem sq_steps : ∀ (r : List UInt8) (F : List (List UInt8)) (cur : Option (List UInt8)) (s : List UInt8 × Bool), (∀ x ∈ F, x ≠ []) → (∀ x, cur = some x → x ≠ []) → s.1 = Lib.join (F ++ cur.toList) [32] → s.2 = (cur.isNone && !F.isEmpty) →
    (r.foldl sqStep s).1 = Lib.join (F ++ fieldsB cur r) [32] := by
  intro r
  induction r with
  | nil => intro F cur s _ _ h _; simpa [fieldsB] using h
  | cons c r ih =>
    intro F cur s hF hc h1 h2
    rw [List.foldl_cons]
    have hpos : ∀ G : List (List UInt8), G ≠ [] → (∀ x ∈ G, x ≠ []) → 0 < (Lib.join G [32]).length := fun G hG hne => by
      obtain ⟨y, t, rfl⟩ := List.exists_cons_of_ne_nil hG
      rw [Lib.join_cons, List.length_append]
      have := List.length_pos_iff.2 (hne y (by simp))
      omega
    by_cases hb : blank c = true
    · unfold sqStep
      rw [if_pos hb, fieldsB, if_pos hb, ← List.append_assoc]
      have hne : ∀ x ∈ F ++ cur.toList, x ≠ [] := fun x hx => by
        rcases List.mem_append.1 hx with hx | hx
        · exact hF x hx
        · exact hc x (by simpa using hx)
      refine ih (F ++ cur.toList) none _ hne (fun x hx => by cases hx) (by simpa using h1) ?_
      dsimp only
      rw [h1]
      by_cases he : F ++ cur.toList = []
      · rw [he]; simp [Lib.join_nil]
      · have := hpos _ he hne
        simp only [Option.isNone_none, Bool.true_and]
        cases hE : (F ++ cur.toList) with
        | nil => exact absurd hE he
        | cons a t => rw [hE] at this; simpa using this
    · have hb' : blank c = false := by simpa using hb
      unfold sqStep
      rw [if_neg hb, fieldsB, if_neg hb]
      refine ih F (some (cur.getD [] ++ [c])) _ hF (fun x hx => by cases hx; simp) ?_ (by simp)
      dsimp only
      rw [h2, h1]
      cases cur with
      | some x =>
        simp only [Option.isNone_some, Bool.false_and, Bool.false_eq_true, if_false, Option.toList_some, Option.getD_some]
        exact (join_grow F x [c] [32]).symm
      | none =>
        cases F with
        | nil => simp [Lib.join_nil, Lib.join_one]
        | cons a t =>
          simp only [Option.isNone_none, List.isEmpty_cons, Bool.not_false, Bool.and_true, if_true, Option.toList_none, List.append_nil, Option.toList_some, Option.getD_none, List.nil_append]
          exact (join_snoc _ _ (by simp) _).symm
theorem sq_doc (l : List UInt8) : (l.foldl sqStep ([], false)).1 = sq l := by
  have := sq_steps l [] none ([], false) (by simp) (by simp) rfl rfl
  simpa [sq] using this
end Go.Proofs.Ytjfnkjpnjiobjaa
namespace Go.Proofs.Ytjfnkjpnjiobjaa
open Go.RowKit Go.ChangeShapes Go.WideShapes Go.Deep

/-- The slice value v has n elements of sz cells each, these cells; it lies below block B. -/
def SlAt (w : World) (B : Nat) (v : Value) (sz n : Nat) (xs : List Value) : Prop :=
  xs.length = n * sz ∧ ∃ A c, v = .slice A n c ∧ n ≤ c ∧ c ≤ maxLen ∧ (0 < n * sz → ∃ b o, A = some ⟨b, o, none⟩ ∧ b < B ∧ ∀ j u, xs[j]? = some u → w.cell? ⟨b, o + j, none⟩ = some u)

theorem SlAt.only {S : List Nat} {w w' : World} {B sz n : Nat} {v : Value} {xs : List Value} (h : SlAt w B v sz n xs) (ho : Only S w w') (hB : B ≤ w.heap.size) (hS : ∀ x, x ∈ S → B ≤ x) : SlAt w' B v sz n xs := by
  obtain ⟨hl, A, c, hv, hnc, hc, h⟩ := h
  refine ⟨hl, A, c, hv, hnc, hc, fun hn => ?_⟩
  obtain ⟨b, o, hA, hb, hh⟩ := h hn
  exact ⟨b, o, hA, hb, fun j u hu => (ho.cell (p := ⟨b, o + j, none⟩) (show b < _ by omega) (fun hm => by have := hS b hm; omega)).trans (hh j u hu)⟩
theorem SlAt.more {w : World} {B B' sz n : Nat} {v : Value} {xs : List Value} (h : SlAt w B v sz n xs) (hB : B ≤ B') : SlAt w B' v sz n xs := by
  obtain ⟨hl, A, c, hv, hnc, hc, h⟩ := h
  refine ⟨hl, A, c, hv, hnc, hc, fun hn => ?_⟩
  obtain ⟨b, o, hA, hb, hh⟩ := h hn
  exact ⟨b, o, hA, by omega, hh⟩
theorem SlAt.shape {w : World} {B sz n : Nat} {v : Value} {xs : List Value} (h : SlAt w B v sz n xs) : ∃ A c, v = .slice A n c := by
  obtain ⟨_, A, c, hv, _⟩ := h; exact ⟨A, c, hv⟩
theorem SlAt.at_ {w : World} {B sz n : Nat} {v : Value} {xs : List Value} (h : SlAt w B v sz n xs) (hn : 0 < n * sz) :
    ∃ b o c, v = .slice (some ⟨b, o, none⟩) n c ∧ b < B ∧ ∀ j u, xs[j]? = some u → w.cell? ⟨b, o + j, none⟩ = some u := by
  obtain ⟨_, A, c, hv, _, _, h⟩ := h
  obtain ⟨b, o, rfl, hb, hh⟩ := h hn
  exact ⟨b, o, c, hv, hb, hh⟩
theorem SlAt.of_own {w : World} {base : Nat} {e : TypeId} {sz n : Nat} {v : Value} {xs : List Value} (h : w.ownsRow base e sz v n xs) : SlAt w w.heap.size v sz n xs := by
  obtain ⟨hl, h⟩ := h
  refine ⟨hl, ?_⟩
  rcases h with ⟨rfl, rfl⟩ | ⟨g, cap, cur, hv, hb, hh, hnc, hcm, hsz, hxs⟩
  · exact ⟨none, 0, rfl, by omega, by simp [maxLen], fun hn => by simp at hn⟩
  · refine ⟨some ⟨g, 0, none⟩, cap, hv, hnc, hcm, fun hn => ⟨g, 0, rfl, ?_, fun j u hu => ?_⟩⟩
    · rcases Nat.lt_or_ge g w.heap.size with hlt | hge
      · exact hlt
      · rw [Array.getElem?_eq_none hge] at hh; cases hh
    · have hj : j < xs.length := (List.getElem?_eq_some_iff.1 hu).1
      rw [Nat.zero_add, cell_of_row w g j cur e (0, 0) hh, ← hu, ← hxs, List.getElem?_take_of_lt (by omega)]
      simp

theorem map_one {α : Type} (f : α → Value) (l : List α) : l.map f = l.flatMap fun x => [f x] := by
  induction l with
  | nil => rfl
  | cons x l ih => rw [List.map_cons, List.flatMap_cons, ih]; rfl
/-- A list out of its members. -/
theorem list_of {α : Type} (p : Nat → α → Prop) : ∀ n : Nat, (∀ i, i < n → ∃ x, p i x) → ∃ l : List α, l.length = n ∧ ∀ (i : Nat) (x : α), l[i]? = some x → p i x
  | 0, _ => ⟨[], rfl, fun i x h => by simp at h⟩
  | n + 1, h => by
    obtain ⟨l, hl, hp⟩ := list_of p n fun i hi => h i (by omega)
    obtain ⟨x, hx⟩ := h n (by omega)
    refine ⟨l ++ [x], by simp [hl], fun i y hy => ?_⟩
    by_cases hi : i < l.length
    · rw [List.getElem?_append_left hi] at hy; exact hp i y hy
    · rw [List.getElem?_append_right (by omega)] at hy
      by_cases h0 : i - l.length = 0
      · rw [h0] at hy; simp at hy; subst hy
        rw [show i = n from by omega]; exact hx
      · simp [h0] at hy
/-- Cells that read as structs, one by one, are the cells of a list. -/
theorem flat_of {α : Type} (f : α → List Value) (sz : Nat) (hf : ∀ x, (f x).length = sz) (good : α → Prop) (n : Nat) (xs : List Value) (hl : xs.length = n * sz)
    (h : ∀ i, i < n → ∃ x : α, good x ∧ ∀ j, j < sz → xs[i * sz + j]? = (f x)[j]?) : ∃ l : List α, l.length = n ∧ xs = l.flatMap f ∧ ∀ x ∈ l, good x := by
  obtain ⟨l, hln, hp⟩ := list_of (fun i x => good x ∧ ∀ j, j < sz → xs[i * sz + j]? = (f x)[j]?) n h
  refine ⟨l, hln, ?_, fun x hx => ?_⟩
  · apply List.ext_getElem?
    intro k
    by_cases hk : k < n * sz
    · have hsz : 0 < sz := by rcases Nat.eq_zero_or_pos sz with h0 | h0; · simp [h0] at hk
                              · exact h0
      have hi : k / sz < n := by rw [Nat.div_lt_iff_lt_mul hsz]; exact hk
      have hx : l[k / sz]? = some l[k / sz] := List.getElem?_eq_getElem (by omega)
      have hk2 : k = k / sz * sz + k % sz := by rw [Nat.mul_comm]; exact (Nat.div_add_mod k sz).symm
      rw [hk2, (hp _ _ hx).2 _ (Nat.mod_lt _ hsz), flat_get f sz hf l _ _ _ hx (Nat.mod_lt _ hsz)]
    · rw [List.getElem?_eq_none (by omega), List.getElem?_eq_none (by rw [flat_length f sz hf, hln]; omega)]
  · obtain ⟨i, hi⟩ := List.getElem?_of_mem hx
    exact (hp i x hi).1

section
variable {H : Type} {enc : TypeId × Value → H} {P : Program} {w : World} {base : Nat} {spare : Nat → Bool} {held : Bool}
theorem cell_spot {w : World} {a : Addr} {v : Value} (h : w.cell? a = some v) : a = ⟨a.block, a.off, none⟩ := by
  have := World.cell?_spot h
  cases a; simp_all
/-- A slice of structs whose fields are one cell each. -/
theorem open_structs {r : Reach} {b0 : Nat} {t e : TypeId} {fs : Array Field} {v : Value} {d : DataW H} {p : List MemPlace} (ht : P.underlying t = some (.slice e)) (he : P.underlying e = some (.struct fs))
    (hone : oneCellFields P fs = true) (hC : P.cellsOf e = fs.size) (hv : Value.okWide P w r b0 t v) (h : DataW.Trod enc P w base spare held t v d p) :
    ∃ n xs, SlAt w w.heap.size v fs.size n xs ∧ ∀ i, i < n → ∀ (j : Nat) (f : Field), fs[j]? = some f → ∃ u y m, xs[i * fs.size + j]? = some u ∧ DataW.trod enc P w base spare held m f.type [u] = some y := by
  obtain ⟨a0, len, cap, rfl⟩ := okWide_slice ht hv
  obtain ⟨fuel, hf⟩ := h
  simp only [Value.cells] at hf
  rcases open_slice ht hf with ⟨hcs, _⟩ | ⟨a, len', cap', m, n, D, Pl, hcs, hb, hl, hm, hmm, hx, hi⟩
  · simp at hcs
    obtain ⟨rfl, rfl, rfl⟩ := hcs
    exact ⟨0, [], ⟨by simp, none, 0, rfl, by omega, by simp [maxLen], fun h => by simp at h⟩, fun i hi => by omega⟩
  · simp at hcs
    obtain ⟨rfl, rfl, rfl⟩ := hcs
    have hlm : len ≤ m := by rw [hmm]; split <;> omega
    have key : ∀ i, i < len → ∀ (j : Nat) (f : Field), fs[j]? = some f → ∃ u y m, w.cell? (a.add (i * fs.size + j)) = some u ∧ DataW.trod enc P w base spare held m f.type [u] = some y := by
      intro i hil j f hj
      obtain ⟨cs', hc, ht'⟩ := hi i (by omega)
      rw [hC] at hc
      obtain ⟨ys, n', hn', hy, hlen, hyl, hf'⟩ := DataW.trod_struct he ht'
      obtain ⟨_, hcl, hat⟩ := World.cells?_some hc
      obtain ⟨ho, hk⟩ := hone_of hone j f hj
      have hjl : j < fs.size := (Array.getElem?_eq_some_iff.1 hj).1
      have hcell := hat j hjl
      have hv : cs'[j]? = some (cs'[j]'(by omega)) := List.getElem?_eq_getElem (by omega)
      have h1 := hf' j f hj
      rw [ho, hk] at h1
      have hone' : (cs'.drop j).take 1 = [cs'[j]'(by omega)] := by
        rw [List.drop_eq_getElem_cons (by omega)]
        rfl
      rw [hone'] at h1
      have hys : ys[j]? = some (ys[j]'(by omega)) := List.getElem?_eq_getElem (by omega)
      refine ⟨cs'[j]'(by omega), _, _, ?_, h1.trans hys⟩
      rw [← Go.Deep.add_add, hcell, hv]
    by_cases hz : 0 < len * fs.size
    · have hfs : 0 < fs.size := by rcases Nat.eq_zero_or_pos fs.size with h0 | h0; · simp [h0] at hz
                                   · exact h0
      have hlen : 0 < len := by rcases Nat.eq_zero_or_pos len with h0 | h0; · simp [h0] at hz
                                · exact h0
      obtain ⟨u0, _, _, hc0, _⟩ := key 0 hlen 0 fs[0] (Array.getElem?_eq_getElem hfs)
      have ha : a = ⟨a.block, a.off, none⟩ := by simpa [Addr.add] using cell_spot hc0
      have hblt : a.block < w.heap.size := by simpa [Addr.add] using World.block_lt_of_cell? w _ hc0
      have hadd : ∀ k, a.add k = ⟨a.block, a.off + k, none⟩ := by
        intro k; rw [ha]; unfold Addr.add; by_cases hk : k = 0 <;> simp [hk]
      refine ⟨len, (List.range (len * fs.size)).map fun k => (w.cell? ⟨a.block, a.off + k, none⟩).getD undef, ⟨by simp, some a, cap, rfl, hl, hm, fun _ => ⟨a.block, a.off, by rw [← ha], hblt, fun j u hu => ?_⟩⟩, fun i hil j f hj => ?_⟩
      · simp only [List.getElem?_map] at hu
        have hjl : j < len * fs.size := by
          rcases Nat.lt_or_ge j (len * fs.size) with h0 | h0
          · exact h0
          · rw [List.getElem?_eq_none (by simpa using h0)] at hu; simp at hu
        rw [List.getElem?_range hjl] at hu
        simp only [Option.map_some, Option.some.injEq] at hu
        obtain ⟨u', _, _, hc', _⟩ := key (j / fs.size) ((Nat.div_lt_iff_lt_mul hfs).2 hjl) (j % fs.size) (fs[j % fs.size]'(Nat.mod_lt _ hfs)) (Array.getElem?_eq_getElem (Nat.mod_lt _ hfs))
        rw [Nat.mul_comm, Nat.div_add_mod, hadd] at hc'
        rw [hc'] at hu ⊢
        simpa using hu
      · obtain ⟨u, y, m', hc', hy⟩ := key i hil j f hj
        have hjl : j < fs.size := (Array.getElem?_eq_some_iff.1 hj).1
        have hlt : i * fs.size + j < len * fs.size := by
          have : (i + 1) * fs.size ≤ len * fs.size := Nat.mul_le_mul_right _ hil
          rw [Nat.succ_mul] at this; omega
        refine ⟨u, y, m', ?_, hy⟩
        rw [List.getElem?_map, List.getElem?_range hlt]
        rw [hadd] at hc'
        simp [hc']
    · refine ⟨len, [], ⟨by simp; omega, some a, cap, rfl, hl, hm, fun h => absurd h hz⟩, fun i hil j f hj => ?_⟩
      have hjl : j < fs.size := (Array.getElem?_eq_some_iff.1 hj).1
      exact absurd (Nat.mul_pos (by omega) (by omega)) hz
/-- A slice whose elements are one cell each. -/
theorem open_ones {r : Reach} {b0 : Nat} {t e : TypeId} {v : Value} {d : DataW H} {p : List MemPlace} (ht : P.underlying t = some (.slice e)) (hC : P.cellsOf e = 1)
    (hv : Value.okWide P w r b0 t v) (h : DataW.Trod enc P w base spare held t v d p) :
    ∃ n xs, SlAt w w.heap.size v 1 n xs ∧ ∀ i, i < n → ∃ u y m, xs[i]? = some u ∧ DataW.trod enc P w base spare held m e [u] = some y := by
  obtain ⟨a0, len, cap, rfl⟩ := okWide_slice ht hv
  obtain ⟨fuel, hf⟩ := h
  simp only [Value.cells] at hf
  rcases open_slice ht hf with ⟨hcs, _⟩ | ⟨a, len', cap', m, n, D, Pl, hcs, hb, hl, hm, hmm, hx, hi⟩
  · simp at hcs
    obtain ⟨rfl, rfl, rfl⟩ := hcs
    exact ⟨0, [], ⟨by simp, none, 0, rfl, by omega, by simp [maxLen], fun h => by simp at h⟩, fun i hi => by omega⟩
  · simp at hcs
    obtain ⟨rfl, rfl, rfl⟩ := hcs
    have hlm : len ≤ m := by rw [hmm]; split <;> omega
    have key : ∀ i, i < len → ∃ u y m, w.cell? (a.add i) = some u ∧ DataW.trod enc P w base spare held m e [u] = some y := by
      intro i hil
      obtain ⟨cs', hc, ht'⟩ := hi i (by omega)
      rw [hC, Nat.mul_one] at hc
      obtain ⟨_, hcl, hat⟩ := World.cells?_some hc
      have hcell := hat 0 (by omega)
      match cs', hcl with
      | [u], _ => exact ⟨u, _, _, by simpa [Addr.add] using hcell, ht'⟩
    by_cases hz : 0 < len
    · obtain ⟨u0, _, _, hc0, _⟩ := key 0 hz
      have ha : a = ⟨a.block, a.off, none⟩ := by simpa [Addr.add] using cell_spot hc0
      have hblt : a.block < w.heap.size := by simpa [Addr.add] using World.block_lt_of_cell? w _ hc0
      have hadd : ∀ k, a.add k = ⟨a.block, a.off + k, none⟩ := by
        intro k; rw [ha]; unfold Addr.add; by_cases hk : k = 0 <;> simp [hk]
      refine ⟨len, (List.range len).map fun k => (w.cell? ⟨a.block, a.off + k, none⟩).getD undef, ⟨by simp, some a, cap, rfl, hl, hm, fun _ => ⟨a.block, a.off, by rw [← ha], hblt, fun j u hu => ?_⟩⟩, fun i hil => ?_⟩
      · simp only [List.getElem?_map] at hu
        have hjl : j < len := by
          rcases Nat.lt_or_ge j len with h0 | h0
          · exact h0
          · rw [List.getElem?_eq_none (by simpa using h0)] at hu; simp at hu
        rw [List.getElem?_range hjl] at hu
        simp only [Option.map_some, Option.some.injEq] at hu
        obtain ⟨u', _, _, hc', _⟩ := key j hjl
        rw [hadd] at hc'
        rw [hc'] at hu ⊢
        simpa using hu
      · obtain ⟨u, y, m', hc', hy⟩ := key i hil
        refine ⟨u, y, m', ?_, hy⟩
        rw [List.getElem?_map, List.getElem?_range hil]
        rw [hadd] at hc'
        simp [hc']
    · exact ⟨len, [], ⟨by simp; omega, some a, cap, rfl, hl, hm, fun h => by omega⟩, fun i hil => by omega⟩
/-- A slice of ints. -/
theorem open_intlist {r : Reach} {b0 : Nat} {t e : TypeId} {k : IntKind} {v : Value} {d : DataW H} {p : List MemPlace} (ht : P.underlying t = some (.slice e)) (he : P.underlying e = some (.int k)) (hC : P.cellsOf e = 1)
    (hv : Value.okWide P w r b0 t v) (h : DataW.Trod enc P w base spare held t v d p) :
    ∃ l : List Int, SlAt w w.heap.size v 1 l.length (l.map (Value.int k)) ∧ ∀ x ∈ l, (Lit.int k x).wf = true := by
  obtain ⟨n, xs, hs, hx⟩ := open_ones ht hC hv h
  obtain ⟨l, hl, rfl, hg⟩ := flat_of (fun x : Int => [Value.int k x]) 1 (fun _ => rfl) (fun x => (Lit.int k x).wf = true) n xs hs.1 fun i hi => by
    obtain ⟨u, y, m, hu, hy⟩ := hx i hi
    obtain ⟨z, hz, _, hw⟩ := DataW.trod_int he hy
    simp at hz
    refine ⟨z, hw, fun j hj => ?_⟩
    obtain rfl : j = 0 := by omega
    simp [hu, hz]
  subst hl
  refine ⟨l, ?_, hg⟩
  rw [map_one]
  exact hs
/-- A slice of strings. -/
theorem open_strlist {r : Reach} {b0 : Nat} {t e : TypeId} {v : Value} {d : DataW H} {p : List MemPlace} (ht : P.underlying t = some (.slice e)) (he : P.underlying e = some .string) (hC : P.cellsOf e = 1)
    (hv : Value.okWide P w r b0 t v) (h : DataW.Trod enc P w base spare held t v d p) :
    ∃ l : List ByteArray, SlAt w w.heap.size v 1 l.length (l.map Value.string) ∧ ∀ x ∈ l, x.size ≤ maxLen := by
  obtain ⟨n, xs, hs, hx⟩ := open_ones ht hC hv h
  obtain ⟨l, hl, rfl, hg⟩ := flat_of (fun x : ByteArray => [Value.string x]) 1 (fun _ => rfl) (fun x => x.size ≤ maxLen) n xs hs.1 fun i hi => by
    obtain ⟨u, y, m, hu, hy⟩ := hx i hi
    obtain ⟨z, hz, _, hw⟩ := DataW.trod_string he hy
    simp at hz
    refine ⟨z, hw, fun j hj => ?_⟩
    obtain rfl : j = 0 := by omega
    simp [hu, hz]
  subst hl
  refine ⟨l, ?_, hg⟩
  rw [map_one]
  exact hs
end
end Go.Proofs.Ytjfnkjpnjiobjaa
namespace Go.Proofs.Ytjfnkjpnjiobjaa
open Go.RowKit

def bytes (l : List UInt8) : List Value := l.map fun c => Value.int .u8 c.toNat
theorem bytes_length (l : List UInt8) : (bytes l).length = l.length := by simp [bytes]
theorem bytes_append (l m : List UInt8) : bytes (l ++ m) = bytes l ++ bytes m := by simp [bytes]
theorem info_byte : (Try.prog.info? 5).map (fun i => (i.zero, i.size, i.bytes)) = some (some (.int .u8 0), 1, 1) := by kernel_rfl
theorem size_builder : (Try.prog.info? 108).map (·.size) = some 2 := by kernel_rfl

/-- A builder in block b of type T, holding the bytes l; 'p': what its first cell holds. -/
def Bld (T : TypeId) (B b : Nat) (p : Value) (l : List UInt8) (w : World) : Prop :=
  B ≤ b ∧ ∃ v, Cells w b T [p, v] ∧ w.ownsRow B 5 1 v l.length (bytes l) ∧ (l = [] → v = .slice none 0 0)
def IsBld (T : TypeId) (B b : Nat) (l : List UInt8) (w : World) : Prop := Bld T B b (.pointer none) l w ∨ Bld T B b (.pointer (some ⟨b, 0, none⟩)) l w
/-- What a type must be to hold a builder at its head. -/
structure Holds (T : TypeId) : Prop where
  lies : liesAt Try.prog Try.prog.depth T (2 / Try.prog.cellsOf T) 0 108 1 = true
  ne : 5 ≠ T

set_option maxRecDepth 100000 in
theorem copyCheck_used (b : Nat) (w : World) (h0 : w.cell? ⟨b, 0, none⟩ = some (.pointer (some ⟨b, 0, none⟩))) :
    Calls Try.prog 125 #[.pointer (some ⟨b, 0, none⟩)] w fun e w' => e = .returned (.tuple #[]) ∧ w = w' := by
  obtain ⟨j, hj, _⟩ := Option.map_eq_some_iff.1 size_builder
  go_enter Try.func125, Try.ntmps125
  go_wp2
  rw [Lib.run_neq_ptr_same w _ Try.underlying105 hj]
  go_wp2
  go_end0
  exact ⟨rfl, rfl⟩

set_option maxHeartbeats 1000000 in
set_option maxRecDepth 100000 in
theorem copyCheck_fresh (T : TypeId) (hT : Holds T) (b : Nat) (w : World) (h0 : w.cell? ⟨b, 0, none⟩ = some (.pointer none)) (hsh : w.shape? b = some (T, 2)) (hfz : w.frozen? ⟨b, 0, none⟩ = false) :
    Calls Try.prog 125 #[.pointer (some ⟨b, 0, none⟩)] w fun e w' => e = .returned (.tuple #[]) ∧ w' = w.setCell ⟨b, 0, none⟩ (.pointer (some ⟨b, 0, none⟩)) := by
  obtain ⟨j, hj, hjs⟩ := Option.map_eq_some_iff.1 size_builder
  go_enter Try.func125, Try.ntmps125
  go_wp2
  rw [Lib.run_to_unsafe w ⟨b, 0, none⟩ Try.underlying105 Try.underlying186 hj (by rw [hjs]; decide) hsh (Nat.zero_lt_succ 1)]
  simp only [Result.andThen]
  rw [Oper.upon_value]
  go_wp2
  rw [run_callFunc_extern Try.func140 (by kernel_rfl) (by kernel_rfl) (by kernel_rfl) (e := Extern.AbiNoEscape.same) (by kernel_rfl)]
  rw [Lib.run_noEscape]
  simp only [Result.andThen]
  rw [Oper.upon_value]
  go_wp2
  rw [Lib.run_from_unsafe w ⟨b, 0, none⟩ Try.underlying186 Try.underlying105 hj hsh hT.lies]
  simp only [Result.andThen]
  rw [Oper.upon_value]
  go_wp2
  go_end0
  exact ⟨rfl, rfl⟩

theorem copyCheck (T : TypeId) (hT : Holds T) (B b : Nat) (l : List UInt8) (w : World) (h : IsBld T B b l w) :
    Calls Try.prog 125 #[.pointer (some ⟨b, 0, none⟩)] w fun e w' => e = .returned (.tuple #[]) ∧ Bld T B b (.pointer (some ⟨b, 0, none⟩)) l w' ∧ Below B w w' ∧ w.heap.size = w'.heap.size := by
  rcases h with ⟨hB, v, hc, hown, hnil⟩ | ⟨hB, v, hc, hown, hnil⟩
  · refine (copyCheck_fresh T hT b w (hc.cell rfl) ?_ (hc.frozen 0)).mono ?_
    · unfold Cells at hc; simp [World.shape?, hc]
    · rintro e w' ⟨rfl, rfl⟩
      refine ⟨rfl, ⟨hB, v, hc.set 0 _, ?_, hnil⟩, (Below.refl B w).setCell (p := ⟨b, 0, none⟩) hB _, by simp [World.setCell]⟩
      exact ownsRow_setCell_other hown (own_ne_block hown hc hT.ne) _
  · refine (copyCheck_used b w (hc.cell rfl)).mono ?_
    rintro e w' ⟨rfl, rfl⟩
    exact ⟨rfl, ⟨hB, v, hc, hown, hnil⟩, Below.refl B w, rfl⟩

set_option maxHeartbeats 1000000 in
set_option maxRecDepth 100000 in
theorem writeByte (T : TypeId) (hT : Holds T) (B b : Nat) (l : List UInt8) (c : UInt8) (w : World) (h : IsBld T B b l w) (hlen : l.length + 1 ≤ 140737488355328) (hBw : B ≤ w.heap.size) :
    Calls Try.prog 155 #[.pointer (some ⟨b, 0, none⟩), .int .u8 c.toNat] w fun e w' => e = .returned .nilIface ∧ Bld T B b (.pointer (some ⟨b, 0, none⟩)) (l ++ [c]) w' ∧ Below B w w' := by
  obtain ⟨i0, hi, hz0, hz1, hz2⟩ := info_parts info_byte
  have HC := Lib.hid (copyCheck T hT B b l w h)
  have hbl := bytes_length l
  have HBL := Lib.hid hbl
  clear h hbl
  go_enter Try.func155, Try.ntmps155
  go_wp2_with fail
  refine HC.out.mono ?_
  rintro e w1 ⟨rfl, ⟨hB, v, hc, hown, _⟩, hb1, hsz⟩
  have hsz1 : B ≤ w1.heap.size := Nat.le_trans hBw hb1.size
  have c1 := hc.cell (k := 1) rfl
  have hlt := hc.lt
  have H := Lib.hid hc
  have hne := own_ne_block hown hc hT.ne
  clear hc hsz
  go_wp2_with (at_builtin; refine wpList_app rfl _ _ 106 rfl B 5 i0 (.int .u8 0) 1 1 Try.underlying106 hi hz0 hz1 hz2 rfl (by decide) w1 v l.length (bytes l) rfl hown 1 1 [.int .u8 (c.toNat : Int)] rfl rfl (by simp [Value.oneCell']) (by unfold maxLen; omega) (by omega) hsz1 ?_)
  intro v' w2 hown' hgrow _
  obtain ⟨g, cap, hv⟩ : ∃ g cap, v' = .slice (some ⟨g, 0, none⟩) (l.length + 1) cap := by
    rcases hown'.2 with ⟨_, h0⟩ | ⟨g, cap, cur, hv, _⟩
    · omega
    · exact ⟨g, cap, hv⟩
  subst hv
  have hc2 := H.out.grown hgrow hne
  have d1 := hc2.cell (k := 1) rfl
  have f1 := hc2.frozen 1
  have hlt2 := hc2.lt
  have H2 := Lib.hid hc2
  clear hc2
  go_wp2
  go_ret
  refine ⟨rfl, ⟨hB, _, H2.out.set 1 _, ?_, fun h => by simp at h⟩, (hb1.grown hgrow hsz1 (fun k hk => (hown.lt k hk).1)).setCell (p := ⟨b, 1, none⟩) hB _⟩
  have := ownsRow_setCell_other hown' (a := ⟨b, 1, none⟩) (own_ne_block hown' H2.out hT.ne) (.slice (some ⟨g, 0, none⟩) (l.length + 1) cap)
  rw [List.length_append, bytes_append]
  exact this

set_option maxHeartbeats 2000000 in
set_option maxRecDepth 100000 in
theorem builder_string (T : TypeId) (B b : Nat) (p : Value) (l : List UInt8) (w : World) (h : Bld T B b p l w) (h0 : l ≠ []) :
    Calls Try.prog 68 #[.pointer (some ⟨b, 0, none⟩)] w fun e w' => e = .returned (.string ⟨l.toArray⟩) ∧ Below B w w' := by
  obtain ⟨hB, v, hc, hown, _⟩ := h
  have hl0 : l.length ≠ 0 := by simpa using h0
  obtain ⟨g, cap, cur, rfl, hbg, hg, hnc, hcm, hcs, htake⟩ : ∃ g cap cur, v = .slice (some ⟨g, 0, none⟩) l.length cap ∧ B ≤ g ∧ w.heap[g]? = some (.cells cur 5 (0, 0)) ∧ l.length ≤ cap ∧ cap ≤ maxLen ∧ cur.size = cap * 1 ∧ cur.toList.take (l.length * 1) = bytes l := by
    rcases hown.2 with ⟨_, hz⟩ | ⟨g, cap, cur, hv, r⟩
    · exact absurd hz hl0
    · exact ⟨g, cap, cur, hv, r⟩
  have c1 : w.drew.cell? ⟨b, 1, none⟩ = some (.slice (some ⟨g, 0, none⟩) l.length cap) := hc.drew.cell (k := 1) rfl
  have hSD : (Builtin.unsafeSliceData_ #[106] 145 #[.slice (some ⟨g, 0, none⟩) l.length cap]).run Try.prog w.drew = .ok (.pointer (some ⟨g, 0, none⟩)) w.drew :=
    Lib.run_unsafeSliceData_row _ _ _ _ _ _ (by omega)
  have hUS : (Builtin.unsafeString_ #[145, 3] 9 #[.pointer (some ⟨g, 0, none⟩), .int .i64 l.length]).run Try.prog w.drew = .ok (.string ⟨l.toArray⟩) (w.drew.freeze ⟨g, 0, none⟩ l.length) := by
    refine Lib.run_unsafeString_row w.drew 145 3 9 5 Try.underlying145 (by kernel_rfl) g cur.size (by have hg' : w.drew.heap[g]? = some (.cells cur 5 (0, 0)) := hg; simp [World.shape?, hg']) l h0 (by omega) (by unfold maxLen at hcm; omega) ?_
    intro j x hx
    have := hown.cells (g := g) rfl j (.int .u8 x.toNat) (by simp [bytes, hx])
    exact this
  clear hc hown htake hcs hnc hcm h0 hl0
  go_enter Try.func68, Try.ntmps68
  go_wp2
  go_region
  all_goals (go_wp2; go_ret; exact ⟨rfl, Lib.below_freeze (Below.drew (Below.refl B w)) (p := ⟨g, 0, none⟩) hbg _⟩)

set_option maxHeartbeats 2000000 in
set_option maxRecDepth 100000 in
theorem builder_string_nil (T : TypeId) (B b : Nat) (p : Value) (w : World) (h : Bld T B b p [] w) :
    Calls Try.prog 68 #[.pointer (some ⟨b, 0, none⟩)] w fun e w' => e = .returned (.string ⟨#[]⟩) ∧ Below B w w' := by
  obtain ⟨hB, v, hc, hown, hnil⟩ := h
  obtain rfl := hnil rfl
  have hUS : ∀ W : World, (Builtin.unsafeString_ #[145, 3] 9 #[.pointer none, .int .i64 0]).run Try.prog W = .ok (.string .empty) W := fun W => Lib.run_unsafeString_none W _ _ _ none
  have c1 : w.drew.cell? ⟨b, 1, none⟩ = some (.slice none 0 0) := hc.drew.cell (k := 1) rfl
  have hSD : (Builtin.unsafeSliceData_ #[106] 145 #[.slice none 0 0]).run Try.prog w.drew = .ok (.pointer none) w.drew := rfl
  clear hc hown hnil
  go_enter Try.func68, Try.ntmps68
  go_wp2
  go_region
  all_goals (go_wp2; go_ret; exact ⟨rfl, Below.drew (Below.refl B w)⟩)
/-- String, whatever the builder holds. -/
theorem builder_string_any (T : TypeId) (B b : Nat) (l : List UInt8) (w : World) (h : IsBld T B b l w) :
    Calls Try.prog 68 #[.pointer (some ⟨b, 0, none⟩)] w fun e w' => e = .returned (.string ⟨l.toArray⟩) ∧ Below B w w' := by
  by_cases h0 : l = []
  · subst h0
    rcases h with h | h
    · exact builder_string_nil T B b _ w h
    · exact builder_string_nil T B b _ w h
  · rcases h with h | h
    · exact builder_string T B b _ l w h h0
    · exact builder_string T B b _ l w h h0
/-- A builder that has just been laid. -/
theorem Bld.new (T : TypeId) (w : World) : Bld T w.heap.size w.heap.size (.pointer none) [] (w.alloc (.cells #[.pointer none, .slice none 0 0] T)) :=
  ⟨Nat.le_refl _, .slice none 0 0, Cells.new w T _, World.ownsRow_nil _ _ _ _, fun _ => rfl⟩
end Go.Proofs.Ytjfnkjpnjiobjaa
namespace Go.Proofs.Ytjfnkjpnjiobjaa
open Go.RowKit
theorem below_only0 {w w' : World} (h : Below w.heap.size w w') : Only [] w w' := ⟨h.os, h.tape, h.output, h.size, fun k hk _ => h.block k hk⟩
theorem sq_len (l : List UInt8) : (sq l).length ≤ 2 * l.length := by
  rw [← sq_doc]
  have : ∀ (r : List UInt8) (s : List UInt8 × Bool), (r.foldl sqStep s).1.length ≤ s.1.length + 2 * r.length := by
    intro r
    induction r with
    | nil => intro s; simp
    | cons c r ih =>
      intro s
      rw [List.foldl_cons]
      have h1 := ih (sqStep s c)
      have h2 : (sqStep s c).1.length ≤ s.1.length + 2 := by
        unfold sqStep
        split
        · show s.1.length ≤ _; omega
        · show (if s.2 = true then s.1 ++ [32] ++ [c] else s.1 ++ [c]).length ≤ _; split <;> simp
      simp only [List.length_cons]
      omega
  simpa using this l ([], false)
theorem toNat_byte17 (x : Nat) (h : x < 256) : (UInt8.ofNat x).toNat = x := by
  rw [UInt8.toNat_ofNat']; omega
theorem index_blank (b : UInt8) : Lib.indexByte [32, 9, 10, 13] b < 0 ↔ blank b = false := by
  unfold blank
  by_cases h0 : b = 32
  · subst h0; decide
  by_cases h1 : b = 9
  · subst h1; decide
  by_cases h2 : b = 10
  · subst h2; decide
  by_cases h3 : b = 13
  · subst h3; decide
  have e : ∀ k : UInt8, ¬ b = k → ¬ k = b := fun k h e => h e.symm
  simp [Lib.indexByte, h0, h1, h2, h3, e 32 h0, e 9 h1, e 10 h2, e 13 h3]
set_option maxRecDepth 100000 in
theorem squeeze1 (x : Nat) (hx : x ≤ 1114111) (W : World) : Calls Try.prog 120 #[.int .i32 x] W fun e w' => e = .returned (.bool (blankR x)) ∧ w' = W := by
  by_cases h : x < 128
  · have d1 : decide ((x : Int) < 128) = true := by simp; omega
    have hb : ((UInt8.ofNat x).toNat : Int) = x := by rw [toNat_byte17 _ (by omega)]
    have hbl := blank_nat (UInt8.ofNat x)
    rw [toNat_byte17 _ (by omega)] at hbl
    have CI := Lib.hid (fun w' => Try.strings_IndexByte ⟨#[32, 9, 10, 13]⟩ x w')
    go_enter Try.func120, Try.ntmps120
    go_wp2_with fail
    refine (CI.out _).mono ?_
    rintro e w' ⟨rfl, rfl⟩
    have hI := index_blank (UInt8.ofNat x)
    rw [hbl] at hI
    rw [show ((x : Int)).toNat.toUInt8 = UInt8.ofNat x from rfl]
    obtain ⟨I, hIe⟩ : ∃ I, Lib.indexByte [32, 9, 10, 13] (UInt8.ofNat x) = I := ⟨_, rfl⟩
    rw [hIe] at hI ⊢
    have hd : decide (0 ≤ I) = blankR x := by
      cases hb : blankR x with
      | true => rw [hb] at hI; have : ¬ I < 0 := fun h => by cases hI.1 h
                simp; omega
      | false => rw [hb] at hI; have : I < 0 := hI.2 rfl
                 simp; omega
    clear hI hIe hbl hb
    go_wp2_with fail
    go_ret
    exact ⟨by rw [← hd]; rfl, rfl⟩
  · have d1 : decide ((x : Int) < 128) = false := by simp; omega
    have hr := blankR_high (r := x) (by omega)
    go_enter Try.func120, Try.ntmps120
    go_wp2_with fail
    go_ret
    exact ⟨by rw [hr]; rfl, rfl⟩
theorem fieldsB_len : ∀ (l : List UInt8) (cur : Option (List UInt8)), (fieldsB cur l).length ≤ l.length + cur.toList.length := by
  intro l
  induction l with
  | nil => intro cur; simp [fieldsB]
  | cons b r ih =>
    intro cur
    unfold fieldsB
    split
    · have := ih none
      rw [List.length_append]
      simp at this ⊢
      omega
    · have := ih (some (cur.getD [] ++ [b]))
      simp at this ⊢
      omega
theorem enters_sq : ∀ args w, (callFunc 120 args).run Try.prog w = .ok (.enter 120 args) w := fun args w => enters_of Try.func120 (by kernel_rfl) rfl args w
set_option maxRecDepth 100000 in
theorem tree_squeeze (l : List UInt8) (w : World) (hl : l.length ≤ 4294967296) :
    Calls Try.prog 92 #[.string ⟨l.toArray⟩] w fun e w' => e = .returned (.string ⟨(sq l).toArray⟩) ∧ Only [] w w' := by
  have hp : PredAtRunes Try.prog 120 #[] blankR w := fun W x hx _ => (squeeze1 x hx W).mono fun e w' ⟨h1, h2⟩ => ⟨h1, 0, h2⟩
  have CF := Lib.hid (Try.strings_FieldsFunc_runes 120 #[] enters_sq blankR ⟨l.toArray⟩ w hl hp)
  have hfe := fields_eq l
  obtain ⟨xs, hxs⟩ : ∃ xs, Lib.goFieldsP blankR ⟨l.toArray⟩ = xs := ⟨_, rfl⟩
  rw [hxs] at CF hfe
  have hjn : Lib.join (xs.map (·.data.toList)) [32] = sq l := by rw [hfe]; rfl
  have hsl := sq_len l
  have hxl : xs.length ≤ l.length + 0 := by rw [← List.length_map (f := fun x : ByteArray => x.data.toList), hfe]; exact fieldsB_len l none
  clear hp hxs hfe
  go_enter Try.func92, Try.ntmps92
  go_wp2_with fail
  refine CF.out.mono ?_
  rintro e w1 ⟨A, rfl, hA, hown, hb⟩
  have HB := Lib.hid (Only.of_below (S := []) hb)
  have hcells : ∀ (j : Nat) x, xs[j]? = some x → w1.cell? ⟨A, 0 + j, none⟩ = some (.string x) := fun j x hx => by
    have := hown.cells (g := A) rfl j (.string x) (by rw [List.getElem?_map, hx]; rfl)
    rw [Addr.add_lit] at this
    exact this
  have hAl := (hown.lt A rfl).2
  have hN : xs.length ≤ 140737488355328 := by omega
  have CJ := Lib.hid (Try.strings_Join A 0 xs.length xs ⟨#[32]⟩ w1 hcells hAl hN (Nat.le_refl _) (by rw [show (⟨#[32]⟩ : ByteArray).data.toList = [32] from rfl, hjn]; omega))
  rw [show (⟨#[32]⟩ : ByteArray).data.toList = [32] from rfl, hjn] at CJ
  clear hcells hown hb
  go_wp2_with fail
  refine CJ.out.mono ?_
  rintro e w2 ⟨rfl, hb2⟩
  have HB2 := Lib.hid (HB.out.tr (Only.of_below (S := []) hb2))
  go_wp2_with fail
  go_ret
  exact ⟨rfl, HB2.out⟩
theorem ref12_blank (b : UInt8) (w : World) : Calls Try.prog 131 #[.int .u8 b.toNat] w fun e w' => e = .returned (.bool (blank b)) ∧ w = w' := by
  have hb := blank_nat b
  have hb8 := b.toNat_lt
  unfold blankR at hb
  obtain ⟨n, hn⟩ : ∃ n, b.toNat = n := ⟨_, rfl⟩
  rw [hn] at hb hb8 ⊢
  by_cases h0 : n = 32
  · subst h0
    go_enter Try.func131, Try.ntmps131
    go_wp2_with fail
    go_ret
    exact ⟨by rw [hb]; rfl, rfl⟩
  by_cases h1 : n = 9
  · subst h1
    go_enter Try.func131, Try.ntmps131
    go_wp2_with fail
    go_ret
    exact ⟨by rw [hb]; rfl, rfl⟩
  by_cases h2 : n = 10
  · subst h2
    go_enter Try.func131, Try.ntmps131
    go_wp2_with fail
    go_ret
    exact ⟨by rw [hb]; rfl, rfl⟩
  have d0 : ((n : Int) == 32) = false := by simp; omega
  have d1 : ((n : Int) == 9) = false := by simp; omega
  have d2 : ((n : Int) == 10) = false := by simp; omega
  have hb3 : blank b = ((n : Int) == 13) := by
    rw [hb, Bool.eq_iff_iff]; simp; omega
  obtain ⟨z, hz⟩ : ∃ z, blank b = z := ⟨_, rfl⟩
  rw [hz] at hb3 ⊢
  clear hb hz
  go_enter Try.func131, Try.ntmps131
  go_wp2_with fail
  go_ret
  exact ⟨by rw [hb3]; rfl, rfl⟩
set_option maxRecDepth 100000 in
theorem conv_row_back {w : World} {B : Nat} {l : List UInt8} {A : Option Addr} {c : Nat} (h : w.ownsRow B 5 1 (.slice A l.length c) l.length (bytes l)) :
    (convert 106 9 (.slice A l.length c)).run Try.prog w = .ok (.string ⟨l.toArray⟩) w := by
  rcases h.2 with ⟨h1, h2⟩ | ⟨g, cap, cur, hv, _⟩
  · injection h1 with e1 e2 e3
    subst e1 e3
    obtain rfl : l = [] := List.eq_nil_of_length_eq_zero h2
    kernel_rfl
  · injection hv with e1 e2 e3
    subst e1 e3
    refine run_convert_bytes_back _ _ _ _ _ _ l Try.underlying106 Try.underlying5 Try.underlying9 fun j hj => ?_
    exact h.cells (g := g) rfl j (.int .u8 (l[j].toNat : Int)) (by unfold bytes; rw [List.getElem?_map, List.getElem?_eq_getElem hj]; rfl)
set_option maxRecDepth 100000 in
set_option maxHeartbeats 1000000 in
theorem ref12_squeeze (l : List UInt8) (w : World) (hl : l.length ≤ 4294967296) :
    Calls Try.prog 105 #[.string ⟨l.toArray⟩] w fun e w' => e = .returned (.string ⟨(sq l).toArray⟩) ∧ Only [] w w' := by
  obtain ⟨i0, hi, hz0, hz1, hz2⟩ := info_parts info_byte
  have hdoc := Lib.hid (sq_doc l)
  have CB := Lib.hid (fun b w' => ref12_blank b w')
  go_enter Try.func105, Try.ntmps105
  go_wp2_with fail
  go_loopw [3, 4, 5] (fun v g i wr => ∃ (k : Nat) (st : List UInt8 × Bool), k ≤ l.length ∧ i = .int .i64 k ∧ Hid ((l.take k).foldl sqStep ([], false) = st) ∧ st.1.length ≤ 2 * k ∧ g = .bool st.2 ∧ wr.ownsRow w.heap.size 5 1 v st.1.length (bytes st.1) ∧ Only [] w wr) (fun _ _ i _ => l.length - (intOf i).toNat)
  case atStart => exact ⟨0, ([], false), by omega, rfl, Lib.hid rfl, by simp, rfl, World.ownsRow_nil _ _ _ _, Only.refl _ _⟩
  case round =>
    obtain ⟨k, ⟨b, g⟩, hk, rfl, hst, hsl, rfl, hown, ho⟩ := hrel
    have hsl : b.length ≤ 2 * k := hsl
    have hown : wr.ownsRow w.heap.size 5 1 u3 b.length (bytes b) := hown
    have hbl := bytes_length b
    have hsz1 : w.heap.size ≤ wr.heap.size := ho.size
    obtain ⟨VA, vc, rfl⟩ := (SlAt.of_own hown).shape
    by_cases hlt : k < l.length
    · have hlt' : decide ((k : Int) < (l.length : Int)) = true := by simp; omega
      have hk1 := List.getElem?_eq_getElem hlt
      obtain ⟨c, hc⟩ : ∃ c, l[k] = c := ⟨_, rfl⟩
      rw [hc] at hk1
      have hix : ∀ h : k < (⟨l.toArray⟩ : ByteArray).size, (⟨l.toArray⟩ : ByteArray)[k]'h = c := fun _ => hc
      have hc8 := c.toNat_lt
      have HT : Hid ((l.take (k + 1)).foldl sqStep ([], false) = sqStep (b, g) c) := by
        show _ = _
        rw [List.take_add_one, hk1, List.foldl_append, hst.out]; rfl
      clear hc hk1 hst
      go_wp2_with fail
      refine (CB.out c _).mono ?_
      rintro e w1 ⟨rfl, rfl⟩
      cases hb : blank c with
      | true =>
        have HT2 : Hid ((l.take (k + 1)).foldl sqStep ([], false) = (b, decide (0 < b.length))) := by
          show _ = _
          rw [HT.out]; unfold sqStep; rw [if_pos hb]
        have hdl : decide (0 < (b.length : Int)) = decide (0 < b.length) := by rw [Bool.eq_iff_iff]; simp
        obtain ⟨z, hz⟩ : ∃ z, decide (0 < b.length) = z := ⟨_, rfl⟩
        rw [hz] at HT2 hdl
        clear hb HT
        go_wp2_with fail
        go_roundw
        case rel => exact ⟨k + 1, (b, z), by omega, by go_num, HT2, by show b.length ≤ _; omega, by first | rfl | (rw [hz]), hown, ho⟩
        case measure => simp [intOf]; omega
      | false =>
        cases g with
        | false =>
          have HT2 : Hid ((l.take (k + 1)).foldl sqStep ([], false) = (b ++ [c], false)) := by
            show _ = _
            rw [HT.out]; unfold sqStep; rw [if_neg (by rw [hb]; simp)]; rfl
          clear hb HT
          go_wp2_with (at_builtin; go_loud (refine wpList_app rfl _ _ 106 rfl w.heap.size 5 i0 (.int .u8 0) 1 1 Try.underlying106 hi hz0 hz1 hz2 rfl (by decide) wr (.slice VA b.length vc) b.length (bytes b) rfl hown 1 1 [.int .u8 (c.toNat : Int)] rfl rfl (by simp [Value.oneCell']) (by unfold maxLen; omega) (by omega) hsz1 ?_))
          intro v' w2 hown' hgrow _
          go_wp2_with fail
          go_roundw
          case rel => exact ⟨k + 1, (b ++ [c], false), by omega, by go_num, HT2, by show (b ++ [c]).length ≤ _; simp; omega, rfl, by rw [List.length_append, bytes_append]; exact hown', (ho.own hown hgrow (Nat.le_refl _))⟩
          case measure => simp [intOf]; omega
        | true =>
          have HT2 : Hid ((l.take (k + 1)).foldl sqStep ([], false) = (b ++ [32] ++ [c], false)) := by
            show _ = _
            rw [HT.out]; unfold sqStep; rw [if_neg (by rw [hb]; simp)]; rfl
          clear hb HT
          go_wp2_with (at_builtin; go_loud (refine wpList_app rfl _ _ 106 rfl w.heap.size 5 i0 (.int .u8 0) 1 1 Try.underlying106 hi hz0 hz1 hz2 rfl (by decide) wr (.slice VA b.length vc) b.length (bytes b) rfl hown 1 1 [.int .u8 32] rfl rfl (by simp [Value.oneCell']) (by unfold maxLen; omega) (by omega) hsz1 ?_))
          intro v' w2 hown' hgrow _
          have hsz2 := (ho.own hown hgrow (Nat.le_refl _)).size
          obtain ⟨VB, vd, rfl⟩ := (SlAt.of_own hown').shape
          go_wp2_with (at_builtin; go_loud (refine wpList_app rfl _ _ 106 rfl w.heap.size 5 i0 (.int .u8 0) 1 1 Try.underlying106 hi hz0 hz1 hz2 rfl (by decide) w2 (.slice VB (b.length + 1) vd) (b.length + 1) (bytes b ++ [.int .u8 32]) rfl hown' 1 1 [.int .u8 (c.toNat : Int)] rfl rfl (by simp [Value.oneCell']) (by unfold maxLen; omega) (by omega) hsz2 ?_))
          intro v3 w3 hown3 hgrow3 _
          go_wp2_with fail
          go_roundw
          case rel => exact ⟨k + 1, (b ++ [32] ++ [c], false), by omega, by go_num, HT2, by show (b ++ [32] ++ [c]).length ≤ _; simp; omega, rfl, by rw [List.length_append, List.length_append, bytes_append, bytes_append, List.append_assoc]; exact hown3, ((ho.own hown hgrow (Nat.le_refl _)).own hown' hgrow3 (Nat.le_refl _))⟩
          case measure => simp [intOf]; omega
    · have hlt' : decide ((k : Int) < (l.length : Int)) = false := by simp; omega
      obtain rfl : k = l.length := by omega
      have hR : b = sq l := by
        have := hst.out
        rw [List.take_length] at this
        rw [← hdoc.out, this]
      have hcv : (convert 106 9 (.slice VA b.length vc)).run Try.prog wr = .ok (.string ⟨b.toArray⟩) wr := conv_row_back hown
      clear hst
      subst hR
      go_wp2_with fail
      go_ret
      exact ⟨rfl, ho⟩
end Go.Proofs.Ytjfnkjpnjiobjaa
namespace Go.Proofs.Ytjfnkjpnjiobjaa

/-- What an int is turned into, and back. -/
def zig (n : Int) : Nat := if 0 ≤ n then 2 * n.toNat else 2 * (-(n + 1)).toNat + 1
def unzig (v : Nat) : Int := if v % 2 = 0 then (v / 2 : Nat) else -((v / 2 : Nat) : Int) - 1
theorem unzig_zig (n : Int) : unzig (zig n) = n := by
  unfold zig unzig
  by_cases h : 0 ≤ n
  · rw [if_pos h, if_pos (by omega)]; omega
  · rw [if_neg h, if_neg (by omega)]; omega
theorem zig_unzig (v : Nat) : zig (unzig v) = v := by
  unfold unzig zig
  by_cases h : v % 2 = 0
  · rw [if_pos h, if_pos (by omega)]; omega
  · rw [if_neg h, if_neg (by omega)]; omega
theorem zig_lt (n : Int) (h0 : -9223372036854775808 ≤ n) (h1 : n ≤ 9223372036854775807) : zig n < 18446744073709551616 := by
  unfold zig; split <;> omega
theorem unzig_wide (v : Nat) (h : v < 18446744073709551616) : -9223372036854775808 ≤ unzig v ∧ unzig v ≤ 9223372036854775807 := by
  unfold unzig; split <;> omega

/-- The bytes ahead of the last one. -/
def hiF : Nat → Nat → List UInt8
  | 0, _ => []
  | f + 1, u => if u = 0 then [] else hiF f (u / 128) ++ [UInt8.ofNat (128 + u % 128)]
theorem hiF_more : ∀ (f g u : Nat), u < 128 ^ f → f ≤ g → hiF g u = hiF f u
  | 0, g, u, h, _ => by
    have : u = 0 := by simpa using h
    subst this
    cases g <;> rfl
  | f + 1, 0, u, _, hg => by omega
  | f + 1, g + 1, u, h, hg => by
    unfold hiF
    split
    · rfl
    · rw [hiF_more f g (u / 128) (by rw [Nat.div_lt_iff_lt_mul (by omega)]; rw [Nat.pow_succ] at h; exact h) (by omega)]
def hi (u : Nat) : List UInt8 := hiF 10 u
theorem hi_zero : hi 0 = [] := rfl
theorem hi_step (u : Nat) (h0 : u ≠ 0) (h : u < 18446744073709551616) : hi u = hi (u / 128) ++ [UInt8.ofNat (128 + u % 128)] := by
  show (if u = 0 then [] else hiF 9 (u / 128) ++ [UInt8.ofNat (128 + u % 128)]) = _
  rw [if_neg h0]
  unfold hi
  rw [hiF_more 9 10 (u / 128) (by omega) (by omega)]
/-- A natural's bytes. -/
def vb (v : Nat) : List UInt8 := hi (v / 128) ++ [UInt8.ofNat (v % 128)]

/-- How bytes are read: the natural, and what is left. -/
def go : Nat → List UInt8 → Option (Nat × List UInt8)
  | _, [] => none
  | v, c :: t => if (v = 0 ∧ c.toNat = 128) ∨ 144115188075855872 ≤ v then none else if c.toNat < 128 then some (v * 128 + c.toNat, t) else go (v * 128 + c.toNat % 128) t
theorem go_hi (n : Nat) : ∀ u t, u ≤ n → u < 18446744073709551616 → go 0 (hi u ++ t) = go u t := by
  induction n with
  | zero =>
    intro u t h _
    obtain rfl : u = 0 := by omega
    rfl
  | succ n ih =>
    intro u t h hu
    by_cases h0 : u = 0
    · subst h0; rfl
    · rw [hi_step u h0 hu, List.append_assoc, ih (u / 128) _ (by omega) (by omega)]
      have hc : (UInt8.ofNat (128 + u % 128)).toNat = 128 + u % 128 := by
        rw [UInt8.toNat_ofNat']; omega
      show go (u / 128) (UInt8.ofNat (128 + u % 128) :: t) = _
      unfold go
      rw [hc, if_neg (by omega), if_neg (by omega)]
      rw [show u / 128 * 128 + (128 + u % 128) % 128 = u from by omega]
      cases t <;> rfl
theorem go_vb (v : Nat) (hv : v < 18446744073709551616) (r : List UInt8) : go 0 (vb v ++ r) = some (v, r) := by
  unfold vb
  rw [List.append_assoc, go_hi (v / 128) _ _ (Nat.le_refl _) (by omega)]
  have hc : (UInt8.ofNat (v % 128)).toNat = v % 128 := by rw [UInt8.toNat_ofNat']; omega
  show go (v / 128) (UInt8.ofNat (v % 128) :: r) = _
  unfold go
  rw [hc, if_neg (by omega), if_pos (by omega)]
  rw [show v / 128 * 128 + v % 128 = v from by omega]
theorem go_some : ∀ (t : List UInt8) (v u : Nat) (r : List UInt8), v < 18446744073709551616 → go v t = some (u, r) → u < 18446744073709551616 ∧ hi v ++ t = vb u ++ r
  | [], v, u, r, _, h => by simp [go] at h
  | c :: t, v, u, r, hv, h => by
    unfold go at h
    split at h
    · cases h
    · rename_i hn
      have hc8 := c.toNat_lt
      split at h
      · rename_i hc
        simp only [Option.some.injEq, Prod.mk.injEq] at h
        obtain ⟨rfl, rfl⟩ := h
        refine ⟨by omega, ?_⟩
        unfold vb
        rw [show (v * 128 + c.toNat) / 128 = v from by omega, show (v * 128 + c.toNat) % 128 = c.toNat from by omega]
        simp
      · rename_i hc
        have hlt : v * 128 + c.toNat % 128 < 18446744073709551616 := by omega
        obtain ⟨h1, h2⟩ := go_some t _ u r hlt h
        refine ⟨h1, ?_⟩
        rw [← h2, hi_step (v * 128 + c.toNat % 128) (by omega) hlt]
        rw [show (v * 128 + c.toNat % 128) / 128 = v from by omega, show 128 + (v * 128 + c.toNat % 128) % 128 = c.toNat from by omega]
        simp
/-- What is read was written so; what was written is read. -/
theorem go_iff (s : List UInt8) (u : Nat) (r : List UInt8) : go 0 s = some (u, r) ↔ u < 18446744073709551616 ∧ s = vb u ++ r :=
  ⟨fun h => by
    have := go_some s 0 u r (by omega) h
    rwa [hi_zero, List.nil_append] at this, fun ⟨h1, h2⟩ => by rw [h2]; exact go_vb u h1 r⟩
theorem hiF_length : ∀ f u, (hiF f u).length ≤ f
  | 0, _ => by simp [hiF]
  | f + 1, u => by
    unfold hiF
    split
    · simp
    · have := hiF_length f (u / 128); simp; omega
theorem vb_length (v : Nat) (h : v < 18446744073709551616) : 1 ≤ (vb v).length ∧ (vb v).length ≤ 10 := by
  unfold vb hi
  rw [hiF_more 9 10 (v / 128) (by omega) (by omega)]
  have := hiF_length 9 (v / 128)
  simp; omega

/-- A number's bytes; numbers' bytes; how a number is read. -/
def ib (n : Int) : List UInt8 := vb (zig n)
def isb (l : List Int) : List UInt8 := l.flatMap ib
def rdI (s : List UInt8) : Option (Int × List UInt8) := (go 0 s).map fun (u, r) => (unzig u, r)
def Wide64 (x : Int) : Prop := -9223372036854775808 ≤ x ∧ x ≤ 9223372036854775807
theorem rdI_iff (s : List UInt8) (n : Int) (r : List UInt8) : rdI s = some (n, r) ↔ Wide64 n ∧ s = ib n ++ r := by
  unfold rdI ib
  constructor
  · intro h
    rw [Option.map_eq_some_iff] at h
    obtain ⟨⟨u, r'⟩, h1, h2⟩ := h
    simp only [Prod.mk.injEq] at h2
    obtain ⟨rfl, rfl⟩ := h2
    obtain ⟨h3, h4⟩ := (go_iff _ _ _).1 h1
    exact ⟨unzig_wide u h3, by rw [zig_unzig]; exact h4⟩
  · rintro ⟨⟨h0, h1⟩, h2⟩
    rw [(go_iff _ _ _).2 ⟨zig_lt n h0 h1, h2⟩, Option.map_some]
    show some (unzig (zig n), r) = _
    rw [unzig_zig]
theorem ib_length (n : Int) (h : Wide64 n) : 1 ≤ (ib n).length ∧ (ib n).length ≤ 10 := vb_length _ (zig_lt n h.1 h.2)
theorem isb_length (l : List Int) (h : ∀ x ∈ l, Wide64 x) : (isb l).length ≤ 10 * l.length := by
  unfold isb
  induction l with
  | nil => simp
  | cons x l ih =>
    have h1 := ib_length x (h x (by simp))
    have h2 := ih fun y hy => h y (by simp [hy])
    rw [List.flatMap_cons, List.length_append, List.length_cons]; omega

/-! ### The bytes as the program writes them: from the highest place down -/
def w7 (v : Nat) : Nat → List UInt8
  | 0 => [UInt8.ofNat (v % 128)]
  | j + 1 => UInt8.ofNat (128 + v / 128 ^ (j + 1) % 128) :: w7 v j
def wd : Nat → Nat → Nat
  | 0, _ => 0
  | f + 1, v => if v / 128 = 0 then 0 else wd f (v / 128) + 1
theorem w7_snoc (v : Nat) : ∀ j, w7 v (j + 1) = (w7 (v / 128) j).dropLast ++ [UInt8.ofNat (128 + v / 128 % 128)] ++ [UInt8.ofNat (v % 128)]
  | 0 => by simp [w7]
  | j + 1 => by
    rw [w7, w7_snoc v j]
    rw [show v / 128 ^ (j + 1 + 1) = v / 128 / 128 ^ (j + 1) from by rw [Nat.div_div_eq_div_mul, Nat.pow_succ, Nat.mul_comm (128 ^ (j + 1))]]
    have : w7 (v / 128) (j + 1) = UInt8.ofNat (128 + v / 128 / 128 ^ (j + 1) % 128) :: w7 (v / 128) j := rfl
    rw [this]
    have hne : w7 (v / 128) j ≠ [] := by cases j <;> simp [w7]
    rw [List.dropLast_cons_of_ne_nil hne]
    simp
theorem w7_hi (f : Nat) : ∀ v, v / 128 < 128 ^ f → (w7 v (wd f v)).dropLast = hiF f (v / 128) ∧ (w7 v (wd f v)).getLast? = some (UInt8.ofNat (v % 128)) := by
  induction f with
  | zero =>
    intro v h
    simp [wd, w7, hiF]
  | succ f ih =>
    intro v h
    unfold wd hiF
    by_cases h0 : v / 128 = 0
    · rw [if_pos h0, if_pos h0]; simp [w7]
    · rw [if_neg h0, if_neg h0, w7_snoc]
      have h2 : v / 128 / 128 < 128 ^ f := by rw [Nat.div_lt_iff_lt_mul (by omega)]; rw [Nat.pow_succ] at h; exact h
      rw [(ih (v / 128) h2).1]
      simp
theorem vb_eq_w7 (v : Nat) (h : v < 18446744073709551616) : vb v = w7 v (wd 9 v) := by
  obtain ⟨h1, h2⟩ := w7_hi 9 v (by omega)
  unfold vb hi
  rw [hiF_more 9 10 (v / 128) (by omega) (by omega), ← h1]
  obtain ⟨ys, hy⟩ := List.getLast?_eq_some_iff.1 h2
  rw [hy]
  simp
end Go.Proofs.Ytjfnkjpnjiobjaa
namespace Go.Proofs.Ytjfnkjpnjiobjaa
open Go.RowKit

theorem holds_writer : Holds 169 := ⟨by kernel_rfl, by decide⟩

theorem and127 (c : Nat) (h : c < 256) : bits BinOp.and IntKind.u8 (c : Int) 127 = ((c % 128 : Nat) : Int) := by
  have : ∀ c : Fin 256, bits BinOp.and IntKind.u8 (c.val : Int) 127 = ((c.val % 128 : Nat) : Int) := by decide +kernel
  exact this ⟨c, h⟩
theorem or128 (c : Nat) (h : c < 256) : bits BinOp.or IntKind.u8 (c : Int) 128 = ((128 + c % 128 : Nat) : Int) := by
  have : ∀ c : Fin 256, bits BinOp.or IntKind.u8 (c.val : Int) 128 = ((128 + c.val % 128 : Nat) : Int) := by decide +kernel
  exact this ⟨c, h⟩
theorem last_byte (v : Nat) : bits BinOp.and IntKind.u8 ((v : Int) % 256) 127 = ((UInt8.ofNat (v % 128)).toNat : Int) := by
  rw [show ((v : Int) % 256) = ((v % 256 : Nat) : Int) from by omega, and127 _ (by omega), UInt8.toNat_ofNat']
  omega
theorem high_byte (v q : Nat) : bits BinOp.or IntKind.u8 ((v : Int) / 2 ^ (7 * q + 7) % 256) 128 = ((UInt8.ofNat (128 + v / 128 ^ (q + 1) % 128)).toNat : Int) := by
  have e : (2 : Nat) ^ (7 * q + 7) = 128 ^ (q + 1) := by
    rw [show 7 * q + 7 = 7 * (q + 1) from by omega, Nat.pow_mul]
  rw [show ((v : Int) / 2 ^ (7 * q + 7) % 256) = ((v / 2 ^ (7 * q + 7) % 256 : Nat) : Int) from by simp, or128 _ (by omega), UInt8.toNat_ofNat', e]
  omega
theorem wd_stop (f u : Nat) (h : u / 128 = 0) : wd f u = 0 := by cases f <;> simp [wd, h]
theorem wd_next (f u : Nat) (h : u / 128 ≠ 0) : wd (f + 1) u = wd f (u / 128) + 1 := by rw [wd, if_neg h]
set_option maxRecDepth 100000 in
set_option maxHeartbeats 1000000 in
theorem writer_natural (B b v : Nat) (l : List UInt8) (w : World) (hv : v < 18446744073709551616) (h : IsBld 169 B b l w) (hB : B ≤ w.heap.size) (hl : l.length ≤ 70368744177664) :
    Calls Try.prog 141 #[.pointer (some ⟨b, 0, none⟩), .int .u64 v] w fun e w' => e = .returned (.tuple #[]) ∧ Bld 169 B b (.pointer (some ⟨b, 0, none⟩)) (l ++ vb v) w' ∧ Below B w w' := by
  have H := Lib.hid h
  clear h
  go_enter Try.func141, Try.ntmps141
  go_wp2_with fail
  go_loop [4, 5] (fun n k => ∃ j : Nat, j ≤ 9 ∧ n = .int .i64 ((7 * j : Nat) : Int) ∧ k = .int .u64 ((v / 128 ^ j / 128 : Nat) : Int) ∧ wd 9 v = j + wd (9 - j) (v / 128 ^ j)) (fun _ k => (intOf k).toNat)
  case atStart => exact ⟨0, by omega, rfl, by simp, by simp⟩
  case round =>
    obtain ⟨j, hj, rfl, rfl, hw⟩ := hrel
    obtain ⟨u, hu⟩ : ∃ u, v / 128 ^ j = u := ⟨_, rfl⟩
    rw [hu] at hw ⊢
    have hu2 : v / 128 ^ (j + 1) = u / 128 := by rw [Nat.pow_succ, ← Nat.div_div_eq_div_mul, hu]
    have HU := Lib.hid hu
    have HU2 := Lib.hid hu2
    have HW := Lib.hid hw
    clear hu hu2 hw
    by_cases h0 : u / 128 = 0
    · have HJ : Hid (wd 9 v = j) := by have := HW.out; rw [wd_stop _ _ h0] at this; exact this
      rw [h0]
      clear h0 HW
      go_wp2_with fail
      go_loopw [4] (fun n wr => ∃ (q : Nat) (p : List UInt8), q ≤ 9 ∧ n = .int .i64 (7 * (q : Int)) ∧ Hid (p ++ w7 v q = vb v) ∧ Hid (IsBld 169 B b (l ++ p) wr) ∧ Below B w wr) (fun n _ => (intOf n).toNat)
      case atStart => exact ⟨j, [], hj, rfl, by rw [vb_eq_w7 v hv, HJ.out]; rfl, by simpa using H, Below.refl _ _⟩
      case round =>
        obtain ⟨q, p, hq, rfl, hp, hb, hbel⟩ := hrel
        have hpl : (p ++ w7 v q).length ≤ 10 := by rw [hp.out]; exact (vb_length v hv).2
        cases q with
        | zero =>
          have hbs := hbel.size
          go_wp2_with fail
          rw [last_byte]
          refine (writeByte _ holds_writer B b _ _ _ hb.out (by rw [List.length_append]; rw [List.length_append] at hpl; omega) (by omega)).mono ?_
          rintro e w1 ⟨rfl, hb1, hbel1⟩
          have HB1 := Lib.hid hb1
          clear hb1
          go_wp2_with fail
          go_end0
          refine ⟨rfl, ?_, hbel.trans hbel1⟩
          rw [← hp.out]
          have := HB1.out
          rwa [List.append_assoc] at this
        | succ q =>
          have hbs := hbel.size
          have e7 : (7 * ((q + 1 : Nat) : Int)) = 7 * (q : Int) + 7 := by omega
          rw [e7]
          have hpos : (0 : Int) < 7 * (q : Int) + 7 := by omega
          have hpos' : (0 : Int) ≤ 7 * (q : Int) + 7 := by omega
          have hpos3 : 7 * (q : Int) + 7 ≤ 63 := by omega
          clear e7 hpl
          go_wp2_with fail
          go_still_tail 8, (by kernel_rfl)
          change wpList _ _ _ _ _ wr.drew
          go_wp2_with fail
          rw [high_byte]
          refine (writeByte _ holds_writer B b _ _ _ (show IsBld _ B b (l ++ p) wr.drew from hb.out) (by rw [List.length_append]; have := (vb_length v hv).2; rw [← hp.out, List.length_append] at this; omega) (show B ≤ wr.heap.size by omega)).mono ?_
          rintro e w1 ⟨rfl, hb1, hbel1⟩
          have HB1 : Hid (IsBld 169 B b (l ++ (p ++ [UInt8.ofNat (128 + v / 128 ^ (q + 1) % 128)])) w1) := by
            show _
            rw [← List.append_assoc]; exact .inr hb1
          clear hb1
          go_wp2_with fail
          go_roundw
          case rel => exact ⟨q, p ++ [UInt8.ofNat (128 + v / 128 ^ (q + 1) % 128)], by omega, by go_num, by show _ = _; rw [List.append_assoc]; exact hp.out, HB1, hbel.drew.trans hbel1⟩
          case measure => simp [intOf]; omega
    · have hpos : (0 : Int) < ((u / 128 : Nat) : Int) := by omega
      have hj9 : j ≤ 8 := by
        rcases Nat.lt_or_ge j 9 with h | h
        · omega
        · obtain rfl : j = 9 := by omega
          have := HU.out
          have e : (128 : Nat) ^ 9 = 9223372036854775808 := by decide
          rw [e] at this
          omega
      have HW2 : Hid (wd 9 v = (j + 1) + wd (9 - (j + 1)) (v / 128 ^ (j + 1))) := by
        have := HW.out
        rw [show 9 - j = (9 - (j + 1)) + 1 from by omega, wd_next _ _ h0] at this
        show _ = _
        rw [HU2.out]; omega
      clear h0 HW
      go_wp2_with fail
      go_round
      case rel => exact ⟨j + 1, by omega, by go_num, by rw [HU2.out]; go_num, HW2.out⟩
      case measure => simp [intOf]; omega

theorem xor_ones (x : Nat) (h : x < 18446744073709551616) : x ^^^ 18446744073709551615 = 18446744073709551615 - x := by
  apply Nat.eq_of_testBit_eq
  intro i
  rw [Nat.testBit_xor, show (18446744073709551615 : Nat) = 2 ^ 64 - 1 from by decide, Nat.testBit_two_pow_sub_one]
  rw [show 2 ^ 64 - 1 - x = 2 ^ 64 - (x + 1) from by omega, Nat.testBit_two_pow_sub_succ (by simpa using h)]
  by_cases hi : i < 64
  · simp [hi]
  · simp [hi]
    exact Nat.testBit_lt_two_pow (Nat.lt_of_lt_of_le (show x < 2 ^ 64 by simpa using h) (Nat.pow_le_pow_right (by omega) (by omega)))
theorem zig_pos (n : Int) (h0 : 0 ≤ n) (h1 : n ≤ 9223372036854775807) : bits BinOp.xor IntKind.u64 (n * 2) (n / 9223372036854775808) = ((zig n : Nat) : Int) := by
  have e1 : n * 2 = ((2 * n.toNat : Nat) : Int) := by omega
  have e2 : n / 9223372036854775808 = ((0 : Nat) : Int) := by omega
  rw [e1, e2, bits_xor_u64_nat _ _ (by omega) (by omega)]
  unfold zig
  rw [if_pos h0]; simp
theorem zig_neg (n : Int) (h0 : n < 0) (h1 : -9223372036854775808 ≤ n) : bits BinOp.xor IntKind.u64 (IntKind.u64.wrap (IntKind.u64.wrap n * 2)) (IntKind.u64.wrap (n / 9223372036854775808)) = ((zig n : Nat) : Int) := by
  have e1 : IntKind.u64.wrap (IntKind.u64.wrap n * 2) = (((n + 18446744073709551616) * 2 % 18446744073709551616).toNat : Nat) := by
    simp [IntKind.wrap, IntKind.signed, IntKind.bits]
    omega
  have e2 : IntKind.u64.wrap (n / 9223372036854775808) = ((18446744073709551615 : Nat) : Int) := by
    simp [IntKind.wrap, IntKind.signed, IntKind.bits]
    omega
  rw [e1, e2, bits_xor_u64_nat _ _ (by omega) (by omega), xor_ones _ (by omega)]
  unfold zig
  rw [if_neg (by omega)]
  omega
set_option maxRecDepth 100000 in
theorem writer_int (B b : Nat) (n : Int) (l : List UInt8) (w : World) (hn : Wide64 n) (h : IsBld 169 B b l w) (hB : B ≤ w.heap.size) (hl : l.length ≤ 70368744177664) :
    Calls Try.prog 127 #[.pointer (some ⟨b, 0, none⟩), .int .i64 n] w fun e w' => e = .returned (.tuple #[]) ∧ Bld 169 B b (.pointer (some ⟨b, 0, none⟩)) (l ++ ib n) w' ∧ Below B w w' := by
  obtain ⟨n0, n1⟩ := hn
  have HN := Lib.hid (writer_natural B b (zig n) l w (zig_lt n n0 n1) h hB hl)
  clear h
  by_cases h0 : 0 ≤ n
  · have HZ := Lib.hid (zig_pos n h0 n1)
    go_enter Try.func127, Try.ntmps127
    go_wp2_with fail
    rw [HZ.out]
    refine HN.out.mono ?_
    rintro e w1 ⟨rfl, hb, hbel⟩
    have HB := Lib.hid hb
    clear hb
    go_wp2_with fail
    go_end0
    exact ⟨rfl, HB.out, hbel⟩
  · have h0' : n < 0 := by omega
    have HZ := Lib.hid (zig_neg n h0' n0)
    clear h0
    go_enter Try.func127, Try.ntmps127
    go_wp2_with fail
    rw [HZ.out]
    refine HN.out.mono ?_
    rintro e w1 ⟨rfl, hb, hbel⟩
    have HB := Lib.hid hb
    clear hb
    go_wp2_with fail
    go_end0
    exact ⟨rfl, HB.out, hbel⟩
def ivs (l : List Int) : List Value := l.map (Value.int .i64)
theorem SlAt.below {w w' : World} {B sz n : Nat} {v : Value} {xs : List Value} (h : SlAt w B v sz n xs) (hb : Below B w w') : SlAt w' B v sz n xs := by
  obtain ⟨hl, A, c, hv, hnc, hc, h⟩ := h
  refine ⟨hl, A, c, hv, hnc, hc, fun hn => ?_⟩
  obtain ⟨b, o, hA, hbk, hh⟩ := h hn
  exact ⟨b, o, hA, hbk, fun j u hu => (hb.cell (p := ⟨b, o + j, none⟩) hbk).trans (hh j u hu)⟩
theorem isb_snoc (l : List Int) (k : Nat) (x : Int) (h : l[k]? = some x) : isb (l.take (k + 1)) = isb (l.take k) ++ ib x := by
  unfold isb
  rw [List.take_add_one, h, List.flatMap_append]; simp
set_option maxRecDepth 100000 in
set_option maxHeartbeats 1000000 in
theorem each_int (B b : Nat) (v : Value) (xs : List Int) (l : List UInt8) (w : World) (hs : SlAt w B v 1 xs.length (ivs xs)) (hx : ∀ x ∈ xs, Wide64 x) (h : IsBld 169 B b l w) (hB : B ≤ w.heap.size) (hl : l.length + 10 * xs.length ≤ 70368744177664) :
    Calls Try.prog 126 #[v, .func (.func 127) #[.pointer (some ⟨b, 0, none⟩)] #[]] w fun e w' => e = .returned (.tuple #[]) ∧ IsBld 169 B b (l ++ isb xs) w' ∧ Below B w w' := by
  obtain ⟨A, c, rfl⟩ := hs.shape
  have H := Lib.hid h
  have HS := Lib.hid hs
  have HX := Lib.hid hx
  have hxl : xs.length ≤ 70368744177664 := by omega
  clear h hs hx
  go_enter Try.func126, Try.ntmps126
  go_wp2_with fail
  go_loopw [8] (fun i wr => ∃ k : Nat, k ≤ xs.length ∧ i = .int .i64 k ∧ Hid (IsBld 169 B b (l ++ isb (xs.take k)) wr) ∧ Below B w wr) (fun i _ => xs.length - (intOf i).toNat)
  case atStart => exact ⟨0, by omega, rfl, by simpa [isb] using H, Below.refl _ _⟩
  case round =>
    obtain ⟨k, hk, rfl, hb, hbel⟩ := hrel
    by_cases hlt : k < xs.length
    · have hlt' : (k : Int) < (xs.length : Int) := by omega
      have hk1 := List.getElem?_eq_getElem hlt
      obtain ⟨x, hx⟩ : ∃ x, xs[k] = x := ⟨_, rfl⟩
      rw [hx] at hk1
      have hw := HX.out x (List.mem_of_getElem? hk1)
      obtain ⟨ab, ao, ac, hv, hab, hc⟩ := (HS.out.below hbel).at_ (by omega)
      have q0 := hc k (.int .i64 x) (by unfold ivs; rw [List.getElem?_map, hk1]; rfl)
      have hsz := hbel.size
      have hlen := isb_length (xs.take k) fun y hy => HX.out y (List.mem_of_mem_take hy)
      have HW := Lib.hid (writer_int B b x _ wr hw hb.out (by omega) (by rw [List.length_append]; rw [List.length_take] at hlen; omega))
      have HE := Lib.hid (isb_snoc xs k x hk1)
      injection hv with e1 e2 e3
      subst e1; subst e3
      clear e2 hx hk1 hw hc hlen
      go_wp2_with (go_at_call 127; refine HW.out.mono ?_; rintro e w1 ⟨rfl, hb1, hbel1⟩; have HB1 := Lib.hid hb1; clear hb1)
      go_roundw
      case rel => exact ⟨k + 1, by omega, by go_num, by show IsBld _ _ _ _ _; rw [HE.out, ← List.append_assoc]; exact .inr HB1.out, hbel.trans hbel1⟩
      case measure => simp [intOf]; omega
    · have hd0 : decide ((k : Int) < (xs.length : Int)) = false := by simp; omega
      obtain rfl : k = xs.length := by omega
      rw [List.take_length] at hb
      go_wp2_with fail
      go_end0
      exact ⟨rfl, hb.out, hbel⟩

set_option maxRecDepth 100000 in
theorem codec_int (v : Value) (xs : List Int) (w : World) (hs : SlAt w w.heap.size v 1 xs.length (ivs xs)) (hx : ∀ x ∈ xs, Wide64 x) (hl : xs.length ≤ 1000000000) :
    Calls Try.prog 99 #[v] w fun e w' => e = .returned (.string ⟨(isb xs).toArray⟩) ∧ Only [] w w' := by
  obtain ⟨A, c, rfl⟩ := hs.shape
  have hs1 : SlAt (w.alloc (.cells #[.pointer none, .slice none 0 0] 169)) w.heap.size (.slice A xs.length c) 1 xs.length (ivs xs) := hs.below ((Below.refl _ w).alloc (Nat.le_refl _) _)
  have HE := Lib.hid (each_int w.heap.size w.heap.size _ xs [] _ hs1 hx (.inl (Bld.new 169 w)) (by simp) (by simp; omega))
  clear hs hs1 hx
  go_enter Try.func99, Try.ntmps99
  go_wp2_with fail
  refine HE.out.mono ?_
  rintro e w1 ⟨rfl, hb, hbel⟩
  have HS := Lib.hid (builder_string_any _ _ _ _ _ hb)
  clear hb
  go_wp2_with fail
  refine HS.out.mono ?_
  rintro e w2 ⟨rfl, hbel2⟩
  go_wp2_with fail
  go_ret
  exact ⟨by simp, Only.of_below ((((Below.refl _ w).alloc (Nat.le_refl _) _).trans hbel).trans hbel2)⟩
end Go.Proofs.Ytjfnkjpnjiobjaa
namespace Go.Proofs.Ytjfnkjpnjiobjaa
open Go.RowKit
def rdV : Option (Int × List UInt8) → Value
  | some (n, r) => .tuple #[.int .i64 n, .string ⟨r.toArray⟩, .bool true]
  | none => .tuple #[.int .i64 0, .string ⟨#[]⟩, .bool false]
theorem unzig_bits (x : Nat) (hx : x < 18446744073709551616) : bits BinOp.xor IntKind.i64 ((x : Int) / 2) (wrap64 (-wrap64 (bits BinOp.and IntKind.u64 (x : Int) 1))) = unzig x := by
  rw [and_one_u64 _ (by omega) (by omega)]
  unfold unzig
  by_cases h : x % 2 = 0
  · rw [if_pos h, show ((x : Int) % 2) = 0 from by omega]
    rw [show wrap64 (-wrap64 0) = 0 from by decide +kernel, show ((x : Int) / 2) = ((x / 2 : Nat) : Int) from by omega, i64_xor_zero _ (by omega)]
  · rw [if_neg h, show ((x : Int) % 2) = 1 from by omega]
    rw [show wrap64 (-wrap64 1) = -1 from by decide +kernel, show ((x : Int) / 2) = ((x / 2 : Nat) : Int) from by omega, bits_xor_comm, i64_not _ (by omega)]
    omega
theorem go_cons (v : Nat) (c : UInt8) (t : List UInt8) : go v (c :: t) = if (v = 0 ∧ c.toNat = 128) ∨ 144115188075855872 ≤ v then none else if c.toNat < 128 then some (v * 128 + c.toNat, t) else go (v * 128 + c.toNat % 128) t := rfl
theorem or7 (u : Nat) (c : UInt8) (hu : u < 144115188075855872) : bits BinOp.or IntKind.u64 ((u : Int) * 128) (IntKind.u64.wrap (bits BinOp.and IntKind.u8 (c.toNat : Int) 127)) = ((u * 128 + c.toNat % 128 : Nat) : Int) := by
  rw [and127 _ c.toNat_lt]
  rw [show IntKind.u64.wrap ((c.toNat % 128 : Nat) : Int) = ((c.toNat % 128 : Nat) : Int) from by
    simp [IntKind.wrap, IntKind.signed, IntKind.bits]; omega]
  rw [show (u : Int) * 128 = ((u * 128 : Nat) : Int) from by omega, bits_or_u64_nat _ _ (by omega) (by omega)]
  have := Nat.two_pow_add_eq_or_of_lt (i := 7) (b := c.toNat % 128) (by omega) u
  rw [show u * 128 = 2 ^ 7 * u from by omega, ← this]
set_option maxRecDepth 100000 in
set_option maxHeartbeats 1000000 in
theorem codec_toInt (s : List UInt8) (w : World) (hl : s.length ≤ 1000000000000) :
    Calls Try.prog 112 #[.string ⟨s.toArray⟩] w fun e w' => e = .returned (rdV (rdI s)) ∧ Only [] w w' := by
  go_enter Try.func112, Try.ntmps112
  go_wp2_with fail
  go_loopw [5, 11] (fun v i wr => ∃ (k u : Nat), k ≤ s.length ∧ k ≤ 10 ∧ i = .int .i64 k ∧ v = .int .u64 u ∧ u < 18446744073709551616 ∧ Hid (go 0 s = go u (s.drop k)) ∧ (u = 0 ↔ k = 0) ∧ (1 ≤ k → 128 ^ (k - 1) ≤ u) ∧ Only [] w wr) (fun _ i _ => 10 - (intOf i).toNat)
  case atStart => exact ⟨0, 0, by omega, by omega, rfl, rfl, by omega, by rw [List.drop_zero]; rfl, by simp, by omega, Only.refl _ _⟩
  case round =>
    obtain ⟨k, u, hk, hk10, rfl, rfl, hu, hgo, hz, hge, ho⟩ := hrel
    by_cases hlt : k < s.length ∧ k < 10
    · obtain ⟨hlt, hlt10⟩ := hlt
      have hk1 := List.getElem?_eq_getElem hlt
      obtain ⟨c, hc⟩ : ∃ c, s[k] = c := ⟨_, rfl⟩
      have hix : ∀ h : k < (⟨s.toArray⟩ : ByteArray).size, (⟨s.toArray⟩ : ByteArray)[k]'h = c := fun _ => hc
      have hdrop : s.drop k = c :: s.drop (k + 1) := by rw [List.drop_eq_getElem_cons hlt, hc]
      have hgo' := hgo.out
      rw [hdrop] at hgo'
      rw [go_cons] at hgo'
      have hr : rdI s = (go 0 s).map fun (u, r) => (unzig u, r) := rfl
      have hmin : (k : Int) < min (s.length : Int) 10 := by omega
      clear hc hk1 hdrop
      by_cases hbad : (u = 0 ∧ c.toNat = 128) ∨ 144115188075855872 ≤ u
      · rw [if_pos hbad] at hgo'
        have HR : Hid (rdI s = none) := by rw [hr, hgo']; rfl
        clear hgo hgo' hr
        by_cases h0 : k = 0 ∧ c.toNat = 128
        · obtain ⟨h01, h02⟩ := h0
          have d0 : ((k : Int) == 0) = true := by simp [h01]
          have d1 : ((c.toNat : Int) == 128) = true := by simp [h02]
          clear hbad h01 h02 hz hge
          go_wp2_with fail
          go_ret3
          exact ⟨by rw [HR.out]; rfl, ho⟩
        · have hu57 : 144115188075855872 ≤ u := by
            rcases hbad with h | h
            · exact absurd ⟨hz.1 h.1, h.2⟩ h0
            · exact h
          have hk0 : k ≠ 0 := fun h => by have := hz.2 h; omega
          have d0 : ((k : Int) == 0) = false := by simpa using hk0
          have d2 : decide ((0 : Int) < (u : Int) / 144115188075855872) = true := by simp; omega
          clear hbad h0 hu57 hk0 hz hge
          go_wp2_with fail
          go_ret3
          exact ⟨by rw [HR.out]; rfl, ho⟩
      · rw [if_neg hbad] at hgo'
        have hu57 : u < 144115188075855872 := by omega
        have hnc : ¬ (k = 0 ∧ c.toNat = 128) := fun h => hbad (.inl ⟨hz.2 h.1, h.2⟩)
        have d2 : decide ((0 : Int) < (u : Int) / 144115188075855872) = false := by simp; omega
        obtain ⟨b0, d0, hb0⟩ : ∃ b0, ((k : Int) == 0) = b0 ∧ (b0 = false ∨ (b0 = true ∧ ((c.toNat : Int) == 128) = false)) := by
          by_cases h : k = 0
          · refine ⟨true, by simp [h], .inr ⟨rfl, ?_⟩⟩
            have : c.toNat ≠ 128 := fun e => hnc ⟨h, e⟩
            simp; omega
          · exact ⟨false, by simpa using h, .inl rfl⟩
        have HO := Lib.hid (or7 u c hu57)
        have hc8 := c.toNat_lt
        have HZ := Lib.hid hz
        have HGE := Lib.hid hge
        have HB := Lib.hid hbad
        clear hnc hge hbad hz
        by_cases hc : c.toNat < 128
        · rw [if_pos hc] at hgo'
          have dc : decide ((c.toNat : Int) < 128) = true := by simp; omega
          have HR : Hid (rdI s = some (unzig (u * 128 + c.toNat), s.drop (k + 1))) := by rw [hr, hgo']; rfl
          clear hgo hgo' hr
          rcases hb0 with rfl | ⟨rfl, d1⟩
          all_goals
            go_wp2_with fail
            rw [HO.out]
            have hxl : u * 128 + c.toNat % 128 < 18446744073709551616 := by omega
            have HX : Hid (u * 128 + c.toNat % 128 = u * 128 + c.toNat) := by show _ = _; omega
            obtain ⟨x, hx⟩ : ∃ x, u * 128 + c.toNat % 128 = x := ⟨_, rfl⟩
            rw [hx] at hxl HX ⊢
            clear HO hx
            go_quiet (fail)
            rw [unzig_bits x hxl, str_to_end]
            go_wp2_with fail
            go_ret3
            exact ⟨by rw [HR.out, ← HX.out]; rfl, ho.drewN _⟩
        · rw [if_neg hc] at hgo'
          have dc : decide ((c.toNat : Int) < 128) = false := by simp; omega
          have HG := Lib.hid hgo'
          clear hgo hgo' hr
          rcases hb0 with rfl | ⟨rfl, d1⟩
          all_goals
            go_wp2_with fail
            go_roundw
            case rel =>
              refine ⟨k + 1, u * 128 + c.toNat % 128, by omega, by omega, by go_num, by rw [HO.out], by omega, HG.out, ⟨fun h => ?_, fun h => by omega⟩, fun _ => ?_, ho⟩
              · exact absurd (Or.inl ⟨by omega, by omega⟩) HB.out
              · rw [Nat.add_sub_cancel]
                by_cases h0 : k = 0
                · subst h0
                  have : c.toNat ≠ 128 := fun e => HB.out (.inl ⟨HZ.out.2 rfl, e⟩)
                  simp; omega
                · have := HGE.out (by omega)
                  rw [show k = (k - 1) + 1 from by omega, Nat.pow_succ]
                  omega
            case measure => simp [intOf]; omega
    · have hmin : decide ((k : Int) < min (s.length : Int) 10) = false := by simp; omega
      have HR : Hid (rdI s = none) := by
        show (go 0 s).map _ = none
        rw [hgo.out]
        rcases Nat.lt_or_ge k s.length with h | h
        · obtain rfl : k = 10 := by omega
          have := hge (by omega)
          rw [List.drop_eq_getElem_cons h]
          rw [go_cons, if_pos (.inr (by rw [show (128 : Nat) ^ (10 - 1) = 9223372036854775808 from by decide] at this; omega))]; rfl
        · rw [List.drop_eq_nil_of_le h]; rfl
      clear hgo hge hz hlt
      go_wp2_with fail
      go_ret3
      exact ⟨by rw [HR.out]; rfl, ho⟩
end Go.Proofs.Ytjfnkjpnjiobjaa
namespace Go.Proofs.Ytjfnkjpnjiobjaa
open Go.RowKit
theorem ba_toList (l : List UInt8) : (⟨l.toArray⟩ : ByteArray).toList = l := by simp
theorem ba_append (a b : List UInt8) : (⟨a.toArray⟩ : ByteArray) ++ ⟨b.toArray⟩ = ⟨(a ++ b).toArray⟩ := by
  ext1; simp
theorem ref_natural (n : Int) (w : World) (hn : Wide64 n) : Calls Try.prog 106 #[.int .i64 n] w fun e w' => e = .returned (.int .u64 (zig n : Nat)) ∧ w = w' := by
  obtain ⟨n0, n1⟩ := hn
  by_cases h0 : 0 ≤ n
  · have HZ : Hid (2 * n = ((zig n : Nat) : Int)) := by show _ = _; unfold zig; rw [if_pos h0]; omega
    go_enter Try.func106, Try.ntmps106
    go_wp2_with fail
    go_ret
    exact ⟨by rw [← HZ.out]; rfl, rfl⟩
  · have HZ : Hid (2 * (-(n + 1)) + 1 = ((zig n : Nat) : Int)) := by show _ = _; unfold zig; rw [if_neg h0]; omega
    have hd : decide (0 ≤ n) = false := by simpa using h0
    go_enter Try.func106, Try.ntmps106
    go_wp2_with fail
    go_ret
    exact ⟨by rw [← HZ.out]; rfl, rfl⟩

/-- A slice of bytes, as it is read. -/
def Bs (w : World) (v : Value) (l : List UInt8) : Prop :=
  ∃ g cap, v = .slice (some ⟨g, 0, none⟩) l.length cap ∧ g < w.heap.size ∧ ∀ j u, (bytes l)[j]? = some u → w.cell? (Addr.add ⟨g, 0, none⟩ j) = some u

theorem ofNat_byte (x : Nat) (h : x < 256) : ((UInt8.ofNat x).toNat : Int) = x := by
  rw [UInt8.toNat_ofNat']; omega
theorem Bs.new (w : World) (l : List UInt8) (hl : l.length ≤ maxLen) : Bs (w.alloc (.cells (bytes l).toArray 5)) (.slice (some ⟨w.heap.size, 0, none⟩) l.length l.length) l :=
  ⟨_, _, rfl, by simp, fun j u hu => (World.ownsRow_lit (base := w.heap.size) (size := 1) (e := 5) w (bytes l).toArray l.length (Nat.le_refl _) hl (by simp [bytes])).cells (g := w.heap.size) rfl j u hu⟩
theorem Bs.of_own {w : World} {base : Nat} {v : Value} {l : List UInt8} (h : w.ownsRow base 5 1 v l.length (bytes l)) (h0 : l ≠ []) : Bs w v l ∧ ∃ g, v.ownBlock = some g ∧ base ≤ g := by
  have hl : 0 < l.length := List.length_pos_iff.2 h0
  obtain ⟨g, cap, rfl, hb, hlt, _⟩ := own_cell (k := 0) h (List.getElem?_eq_getElem (by rw [bytes_length]; exact hl))
  exact ⟨⟨g, cap, rfl, hlt, fun j u hu => h.cells (g := g) rfl j u hu⟩, g, rfl, hb⟩
set_option maxRecDepth 100000 in
set_option maxHeartbeats 1000000 in
theorem ref_int (n : Int) (w : World) (hn : Wide64 n) : Calls Try.prog 77 #[.int .i64 n] w fun e w' => e = .returned (.string ⟨(ib n).toArray⟩) ∧ Only [] w w' := by
  obtain ⟨i0, hi0, hz0, hz1, hz2⟩ := info_parts info_byte
  have HN := Lib.hid (ref_natural n w hn)
  have hz := zig_lt n hn.1 hn.2
  have hvb : ib n = hi (zig n / 128) ++ [UInt8.ofNat (zig n % 128)] := rfl
  obtain ⟨z, hzz⟩ : ∃ z, zig n = z := ⟨_, rfl⟩
  rw [hzz] at HN hz hvb
  have HV := Lib.hid hvb
  clear hvb hzz
  go_enter Try.func77, Try.ntmps77
  go_wp2_with fail
  refine HN.out.mono ?_
  rintro e w1 ⟨rfl, rfl⟩
  go_wp2_with fail
  have hib := ib_length n hn
  clear hn
  go_loopw [3, 4] (fun v b wr => ∃ (u : Nat) (L : List UInt8), v = .int .u64 u ∧ u < 18446744073709551616 ∧ Hid (ib n = hi u ++ L) ∧ L ≠ [] ∧ Hid (Bs wr b L) ∧ Only [] w wr) (fun v _ _ => (intOf v).toNat)
  case atStart =>
    refine ⟨z / 128, [UInt8.ofNat (z % 128)], by go_num, by omega, HV, by simp, ?_, (Only.refl _ _).alloc _⟩
    have := Bs.new w [UInt8.ofNat (z % 128)] (by unfold maxLen; simp)
    simp only [bytes, List.map_cons, List.map_nil, ofNat_byte (z % 128) (by omega)] at this
    exact this
  case round =>
    obtain ⟨u, L, rfl, hu, hv, hL, hB, ho⟩ := hrel
    have hLl : L.length ≤ 10 := by have := congrArg List.length hv.out; rw [List.length_append] at this; omega
    obtain ⟨g, cap, rfl, hg, hr⟩ := hB.out
    have hsz := ho.size
    by_cases h0 : u = 0
    · subst h0
      have hd : decide ((0 : Int) < (0 : Int)) = false := by decide
      have HV2 : Hid (ib n = L) := by show _ = _; rw [hv.out, hi_zero]; rfl
      have hcv : (convert 106 9 (.slice (some ⟨g, 0, none⟩) L.length cap)).run Try.prog wr = .ok (.string ⟨L.toArray⟩) wr :=
        run_convert_bytes_back _ _ _ _ _ _ L Try.underlying106 Try.underlying5 Try.underlying9 fun j hj => hr j _ (by simp [bytes, List.getElem?_eq_getElem hj])
      clear hv hB hr
      go_wp2_with fail
      go_ret
      exact ⟨by rw [HV2.out]; rfl, ho⟩
    · have hd : decide ((0 : Int) < (u : Int)) = true := by simp; omega
      have HS : Hid (ib n = hi (u / 128) ++ ([UInt8.ofNat (128 + u % 128)] ++ L)) := by
        show _ = _; rw [hv.out, hi_step u h0 hu]; simp
      have HR := Lib.hid hr
      have hbe : bytes ([UInt8.ofNat (128 + u % 128)] ++ L) = .int .u8 (128 + (u : Int) % 128) :: bytes L := by
        rw [bytes_append]; simp only [bytes, List.map_cons, List.map_nil, ofNat_byte (128 + u % 128) (by omega)]; rfl
      have HBE := Lib.hid hbe
      clear hr hv hB hbe
      go_wp2_with (at_builtin; go_loud (refine wpList_append_own (wr.alloc (.cells #[.int .u8 (128 + (u : Int) % 128)] 5)) rfl _ _ 106 rfl w.heap.size 5 i0 (.int .u8 0) 1 1 Try.underlying106 hi0 hz0 hz1 hz2 rfl (by decide) _ 1 [.int .u8 (128 + (u : Int) % 128)] rfl (World.ownsRow_lit wr _ 1 hsz (by unfold maxLen; omega) rfl) ⟨g, 0, none⟩ L.length cap (bytes L) rfl (by rw [bytes_length, Nat.mul_one]) (fun j x hx => (Below.cell (B := wr.heap.size) ((Below.refl _ wr).alloc (Nat.le_refl _) _) (p := Addr.add ⟨g, 0, none⟩ j) (by unfold Addr.add; split <;> exact hg)).trans (HR.out j x hx)) (fun x hx => by simp only [bytes, List.mem_map] at hx; obtain ⟨_, _, rfl⟩ := hx; rfl) (by unfold maxLen; omega) (by omega) (by simp; omega) ?_))
      intro v' w2 hown' hgrow _
      rw [← HBE.out] at hown'
      obtain ⟨hB2, g2, hg2, hgb⟩ := Bs.of_own (by rw [List.length_append]; exact hown') (by simp)
      have HB2 := Lib.hid hB2
      have ho2 : Only [] w w2 := (ho.alloc _).grown hgrow fun g' e => .inr (by simp [Value.ownBlock] at e; subst e; exact hsz)
      clear hown' hgrow hB2
      go_wp2_with fail
      go_roundw
      case rel => exact ⟨u / 128, _, by go_num, by omega, HS, by simp, HB2, ho2⟩
      case measure => simp [intOf]; omega

/-- What bytes are as a number, seven bits each. -/
def val7 (l : List UInt8) : Nat := l.foldl (fun v c => 128 * v + c.toNat % 128) 0
theorem val7_snoc (l : List UInt8) (c : UInt8) : val7 (l ++ [c]) = 128 * val7 l + c.toNat % 128 := by
  unfold val7; rw [List.foldl_append]; rfl
theorem toNat_byte (x : Nat) (h : x < 256) : (UInt8.ofNat x).toNat = x := by
  rw [UInt8.toNat_ofNat']; omega
theorem hi_facts (n : Nat) : ∀ u, u ≤ n → u < 18446744073709551616 → val7 (hi u) = u ∧ ∀ c ∈ hi u, 128 ≤ c.toNat := by
  induction n with
  | zero =>
    intro u h _
    obtain rfl : u = 0 := by omega
    exact ⟨rfl, by simp [hi_zero]⟩
  | succ n ih =>
    intro u h hu
    by_cases h0 : u = 0
    · subst h0; exact ⟨rfl, by simp [hi_zero]⟩
    · obtain ⟨h1, h2⟩ := ih (u / 128) (by omega) (by omega)
      rw [hi_step u h0 hu]
      refine ⟨?_, fun c hc => ?_⟩
      · rw [val7_snoc, h1, toNat_byte _ (by omega)]; omega
      · rcases List.mem_append.1 hc with hc | hc
        · exact h2 c hc
        · rw [List.mem_singleton] at hc
          subst hc
          rw [toNat_byte _ (by omega)]; omega
theorem val7_vb (z : Nat) (h : z < 18446744073709551616) : val7 (vb z) = z := by
  unfold vb
  rw [val7_snoc, (hi_facts (z / 128) (z / 128) (by omega) (by omega)).1, toNat_byte _ (by omega)]; omega
theorem first_low (l r : List UInt8) (x : UInt8) (k : Nat) (c : UInt8) (hl : ∀ c ∈ l, 128 ≤ c.toNat) (hx : x.toNat < 128) (hk : (l ++ x :: r)[k]? = some c) (hc : c.toNat < 128) (hj : ∀ j d, j < k → (l ++ x :: r)[j]? = some d → 128 ≤ d.toNat) : k = l.length := by
  rcases Nat.lt_trichotomy k l.length with h | h | h
  · rw [List.getElem?_append_left h] at hk
    have := hl c (List.mem_of_getElem? hk)
    omega
  · exact h
  · have := hj l.length x h (by rw [List.getElem?_append_right (Nat.le_refl _)]; simp)
    omega
theorem vb_last (z : Nat) (h : z < 18446744073709551616) : ∃ l x, vb z = l ++ [x] ∧ (∀ c ∈ l, 128 ≤ c.toNat) ∧ x.toNat < 128 :=
  ⟨_, _, rfl, (hi_facts (z / 128) (z / 128) (by omega) (by omega)).2, by rw [toNat_byte _ (by omega)]; omega⟩
/-- At the first byte that is below 128: what is read. -/
theorem rdI_at (s : List UInt8) (k : Nat) (c : UInt8) (hk : s[k]? = some c) (hc : c.toNat < 128) (hj : ∀ j d, j < k → s[j]? = some d → 128 ≤ d.toNat) :
    rdI s = if ib (unzig (val7 (s.take (k + 1)) % 18446744073709551616)) = s.take (k + 1) then some (unzig (val7 (s.take (k + 1)) % 18446744073709551616), s.drop (k + 1)) else none := by
  split
  · rename_i h
    exact (rdI_iff _ _ _).2 ⟨unzig_wide _ (by omega), by rw [h, List.take_append_drop]⟩
  · rename_i h
    cases hr : rdI s with
    | none => rfl
    | some nr =>
      exfalso
      obtain ⟨n, r⟩ := nr
      obtain ⟨hw, hs⟩ := (rdI_iff _ _ _).1 hr
      have hz := zig_lt n hw.1 hw.2
      obtain ⟨l, x, hv, hl, hx⟩ := vb_last (zig n) hz
      have hs2 : s = l ++ x :: r := by rw [hs]; unfold ib; rw [hv]; simp
      obtain rfl : k = l.length := first_low l r x k c hl hx (hs2 ▸ hk) hc (fun j d h1 h2 => hj j d h1 (hs2 ▸ h2))
      have ht : s.take (l.length + 1) = vb (zig n) := by rw [hs2, hv, List.take_append]; simp; exact List.take_of_length_le (by omega)
      rw [ht, val7_vb _ hz, Nat.mod_eq_of_lt hz, unzig_zig] at h
      exact h rfl
theorem rdI_end (s : List UInt8) (k : Nat) (hk : k = s.length ∨ 10 ≤ k) (hj : ∀ j d, j < k → s[j]? = some d → 128 ≤ d.toNat) : rdI s = none := by
  cases hr : rdI s with
  | none => rfl
  | some nr =>
    exfalso
    obtain ⟨n, r⟩ := nr
    obtain ⟨hw, hs⟩ := (rdI_iff _ _ _).1 hr
    have hz := zig_lt n hw.1 hw.2
    obtain ⟨l, x, hv, hl, hx⟩ := vb_last (zig n) hz
    have hs2 : s = l ++ x :: r := by rw [hs]; unfold ib; rw [hv]; simp
    have h10 := (vb_length _ hz).2
    rw [hv, List.length_append, List.length_singleton] at h10
    have hsl : s.length = l.length + 1 + r.length := by rw [hs2]; simp; omega
    have := hj l.length x (by omega) (by rw [hs2, List.getElem?_append_right (Nat.le_refl _)]; simp)
    omega
theorem val7_next (s : List UInt8) (k : Nat) (c : UInt8) (hk : s[k]? = some c) : (128 * (val7 (s.take k) % 18446744073709551616) + c.toNat % 128) % 18446744073709551616 = val7 (s.take (k + 1)) % 18446744073709551616 := by
  have := val7_snoc (s.take k) c
  rw [List.take_add_one, hk]
  simp only [Option.toList_some]
  rw [this]
  omega

theorem un_even (x : Nat) (hx : x < 18446744073709551616) (h : ((x : Int).tmod 2 == 1) = false) : wrap64 (IntKind.u64.wrap ((x : Int).tdiv 2)) = unzig x := by
  have e : (x : Int).tdiv 2 = ((x / 2 : Nat) : Int) := by rw [Int.tdiv_eq_ediv_of_nonneg (by omega)]; omega
  have e2 : (x : Int).tmod 2 = ((x % 2 : Nat) : Int) := by rw [Int.tmod_eq_emod_of_nonneg (by omega)]; omega
  rw [e2] at h
  have h' : x % 2 = 0 := by simp at h; omega
  rw [e, IntKind.wrap_u64, unzig, if_pos h']
  unfold wrap64; omega
theorem un_odd (x : Nat) (hx : x < 18446744073709551616) (h : ((x : Int).tmod 2 == 1) = true) : wrap64 (wrap64 (-wrap64 (IntKind.u64.wrap ((x : Int).tdiv 2))) - 1) = unzig x := by
  have e : (x : Int).tdiv 2 = ((x / 2 : Nat) : Int) := by rw [Int.tdiv_eq_ediv_of_nonneg (by omega)]; omega
  have e2 : (x : Int).tmod 2 = ((x % 2 : Nat) : Int) := by rw [Int.tmod_eq_emod_of_nonneg (by omega)]; omega
  rw [e2] at h
  have h' : ¬x % 2 = 0 := by simp at h; omega
  rw [e, IntKind.wrap_u64, unzig, if_neg h']
  unfold wrap64; omega

set_option maxRecDepth 100000 in
set_option maxHeartbeats 1000000 in
theorem ref_toInt (s : List UInt8) (w : World) (hl : s.length ≤ 1000000000000) :
    Calls Try.prog 132 #[.string ⟨s.toArray⟩] w fun e w' => e = .returned (rdV (rdI s)) ∧ Only [] w w' := by
  go_enter Try.func132, Try.ntmps132
  go_wp2_with fail
  go_loop [5, 6] (fun v i => ∃ k : Nat, k ≤ s.length ∧ k ≤ 10 ∧ i = .int .i64 k ∧ v = .int .u64 (val7 (s.take k) % 18446744073709551616 : Nat) ∧ Hid (∀ j d, j < k → s[j]? = some d → 128 ≤ d.toNat)) (fun _ i => 10 - (intOf i).toNat)
  case atStart => exact ⟨0, by omega, by omega, rfl, rfl, fun j d h => by omega⟩
  case round =>
    obtain ⟨k, hk, hk10, rfl, rfl, hj⟩ := hrel
    by_cases hlt : k < s.length ∧ k < 10
    · obtain ⟨hlt, hlt10⟩ := hlt
      have hk1 := List.getElem?_eq_getElem hlt
      obtain ⟨c, hc⟩ : ∃ c, s[k] = c := ⟨_, rfl⟩
      rw [hc] at hk1
      have hix : ∀ h : k < (⟨s.toArray⟩ : ByteArray).size, (⟨s.toArray⟩ : ByteArray)[k]'h = c := fun _ => hc
      have hd0 : decide ((k : Int) < (s.length : Int)) = true := by simp; omega
      have hd1 : decide ((k : Int) < 10) = true := by simp; omega
      have hc8 := c.toNat_lt
      have hN := val7_next s k c hk1
      obtain ⟨u, hu⟩ : ∃ u, val7 (s.take k) % 18446744073709551616 = u := ⟨_, rfl⟩
      have hul : u < 18446744073709551616 := by omega
      rw [hu] at hN ⊢
      have HN := Lib.hid hN
      clear hu hc hN
      by_cases hlow : c.toNat < 128
      · have hdc : decide ((128 : Int) ≤ c.toNat) = false := by simp; omega
        have HA := Lib.hid (rdI_at s k c hk1 hlow hj.out)
        clear hk1 hj
        have hW : IntKind.u64.wrap (IntKind.u64.wrap (128 * (u : Int)) + (c.toNat : Int) % 128) = ((val7 (s.take (k + 1)) % 18446744073709551616 : Nat) : Int) := by
          rw [← HN.out, IntKind.wrap_u64, IntKind.wrap_u64]; omega
        obtain ⟨x, hx⟩ : ∃ x, val7 (s.take (k + 1)) % 18446744073709551616 = x := ⟨_, rfl⟩
        have hxl : x < 18446744073709551616 := by omega
        rw [hx] at hW HA
        have HW := Lib.hid hW
        have hy := unzig_wide x hxl
        have hsk : (⟨s.toArray⟩ : ByteArray).extract 0 (k + 1) = ⟨(s.take (k + 1)).toArray⟩ := str_from_start s (k + 1)
        have HK := Lib.hid hsk
        have hk1' : k + 1 ≤ s.length := hlt
        clear hx HN hW hsk
        go_wp2_with fail
        all_goals
          first
            | rw [HW.out, un_even x hxl (by rw [← HW.out]; assumption)]
            | rw [HW.out, un_odd x hxl (by rw [← HW.out]; assumption)]
          clear HW
          obtain ⟨y, hyy⟩ : ∃ y, unzig x = y := ⟨_, rfl⟩
          rw [hyy] at hy HA ⊢
          clear hyy
          refine wp_region_only w (Only.refl _ _) (by kernel_rfl) (by kernel_rfl) ?_
          repeat (go_big_quiet_step ((go_at_call 77; refine Calls.only (ref_int y _ hy))))
          refine wpQuiet_nil ?_
          rintro ⟨w8, ho8⟩
          dsimp only
          go_wp2_with fail
          · rename_i h
            have hq : ¬ib y = s.take (k + 1) := by rw [HK.out, ba_toList] at h; simpa using h
            go_ret3
            exact ⟨by rw [HA.out, if_neg hq]; rfl, ho8⟩
          · have h : (!ib y == ((⟨s.toArray⟩ : ByteArray).extract 0 (k + 1)).toList) = false := by assumption
            have hq : ib y = s.take (k + 1) := by rw [HK.out, ba_toList] at h; simpa using h
            have HR : Hid (rdI s = some (y, s.drop (k + 1))) := by show _ = _; rw [HA.out, if_pos hq]
            clear h hq HA
            go_quiet (fail)
            rw [str_to_end]
            go_wp2_with fail
            go_ret3
            exact ⟨by rw [HR.out]; rfl, ho8.drewN _⟩
      · have hdc : decide ((128 : Int) ≤ c.toNat) = true := by simp; omega
        have hj2 : Hid (∀ j d, j < k + 1 → s[j]? = some d → 128 ≤ d.toNat) := by
          intro j d h1 h2
          rcases Nat.lt_or_ge j k with h | h
          · exact hj.out j d h h2
          · obtain rfl : j = k := by omega
            rw [hk1] at h2
            injection h2 with h2
            subst h2
            omega
        clear hk1 hj
        go_wp2_with fail
        go_round
        case rel => exact ⟨k + 1, by omega, by omega, by go_num, by rw [← HN.out, IntKind.wrap_u64, IntKind.wrap_u64]; congr 1; omega, hj2⟩
        case measure => simp [intOf]; omega
    · have hR := Lib.hid (rdI_end s k (by omega) hj.out)
      clear hj
      rcases Nat.lt_or_ge k s.length with h | h
      · obtain rfl : k = 10 := by omega
        have hd0 : decide ((10 : Int) < (s.length : Int)) = true := by simp; omega
        have hd1 : decide ((10 : Int) < 10) = false := by decide
        go_wp2_with fail
        go_ret3
        exact ⟨by rw [hR.out]; rfl, Only.refl _ _⟩
      · have hd0 : decide ((k : Int) < (s.length : Int)) = false := by simp; omega
        go_wp2_with fail
        go_ret3
        exact ⟨by rw [hR.out]; rfl, Only.refl _ _⟩

end Go.Proofs.Ytjfnkjpnjiobjaa
namespace Go.Proofs.Ytjfnkjpnjiobjaa
open Go.RowKit
theorem strCells_bytes (s : List UInt8) : Lib.strCells ⟨s.toArray⟩ = bytes s := by
  simp [Lib.strCells, bytes]

set_option maxHeartbeats 1000000 in
set_option maxRecDepth 100000 in
theorem writeString (T : TypeId) (hT : Holds T) (B b : Nat) (l s : List UInt8) (w : World) (h : IsBld T B b l w) (hlen : l.length + s.length ≤ 140737488355328) (hBw : B ≤ w.heap.size) :
    Calls Try.prog 98 #[.pointer (some ⟨b, 0, none⟩), .string ⟨s.toArray⟩] w fun e w' => e = .returned (.tuple #[.int .i64 s.length, .nilIface]) ∧ Bld T B b (.pointer (some ⟨b, 0, none⟩)) (l ++ s) w' ∧ Below B w w' := by
  obtain ⟨i0, hi, hz0, hz1, hz2⟩ := info_parts info_byte
  have HC := Lib.hid (copyCheck T hT B b l w h)
  have hbl := bytes_length l
  have HBL := Lib.hid hbl
  clear h hbl
  go_enter Try.func98, Try.ntmps98
  go_wp2_with fail
  refine HC.out.mono ?_
  rintro e w1 ⟨rfl, ⟨hB, v, hc, hown, hnil⟩, hb1, hsz⟩
  have hsz1 : B ≤ w1.heap.size := Nat.le_trans hBw hb1.size
  have c1 := hc.cell (k := 1) rfl
  have hlt := hc.lt
  have H := Lib.hid hc
  have hne := own_ne_block hown hc hT.ne
  clear hc hsz
  go_wp2_with (at_builtin; refine Lib.wpList_append_own_string w1 rfl _ _ 106 9 rfl B 5 i0 Try.underlying106 Try.underlying9 hi hz0 hz1 hz2 v l.length (bytes l) rfl hown ⟨s.toArray⟩ rfl (by rw [str_size]; unfold maxLen; omega) (by rw [str_size]; omega) hsz1 ?_)
  rw [strCells_bytes]
  intro v' w2 hown' hgrow hnil'
  obtain ⟨A', cap', hv⟩ : ∃ A cap, v' = .slice A (l.length + s.length) cap := by
    rcases hown'.2 with ⟨hv, h0⟩ | ⟨g, cap, cur, hv, _⟩
    · exact ⟨none, 0, by rw [hv, h0]⟩
    · exact ⟨_, cap, hv⟩
  subst hv
  have hc2 := H.out.grown hgrow hne
  have d1 := hc2.cell (k := 1) rfl
  have f1 := hc2.frozen 1
  have hlt2 := hc2.lt
  have H2 := Lib.hid hc2
  clear hc2
  go_wp2
  go_ret2
  refine ⟨rfl, ⟨hB, _, H2.out.set 1 _, ?_, fun h => hnil'.2 ?_⟩, (hb1.grown hgrow hsz1 (fun k hk => (hown.lt k hk).1)).setCell (p := ⟨b, 1, none⟩) hB _⟩
  · have := ownsRow_setCell_other hown' (a := ⟨b, 1, none⟩) (own_ne_block hown' H2.out hT.ne) (.slice A' (l.length + s.length) cap')
    rw [List.length_append, bytes_append]
    exact this
  · obtain ⟨rfl, rfl⟩ := List.append_eq_nil_iff.1 h
    exact ⟨hnil rfl, rfl⟩

/-- The bytes of a text; of texts. -/
def tb (s : List UInt8) : List UInt8 := ib s.length ++ s
def tsb (l : List (List UInt8)) : List UInt8 := l.flatMap tb
theorem tb_length (s : List UInt8) (h : s.length ≤ 70368744177664) : s.length + 1 ≤ (tb s).length ∧ (tb s).length ≤ s.length + 10 := by
  have := ib_length (s.length : Int) ⟨by omega, by omega⟩
  unfold tb; rw [List.length_append]; omega
set_option maxRecDepth 100000 in
theorem writer_text (B b : Nat) (s l : List UInt8) (w : World) (h : IsBld 169 B b l w) (hB : B ≤ w.heap.size) (hl : l.length + s.length ≤ 70368744177600) :
    Calls Try.prog 129 #[.pointer (some ⟨b, 0, none⟩), .string ⟨s.toArray⟩] w fun e w' => e = .returned (.tuple #[]) ∧ Bld 169 B b (.pointer (some ⟨b, 0, none⟩)) (l ++ tb s) w' ∧ Below B w w' := by
  have HN := Lib.hid (writer_int B b s.length l w ⟨by omega, by omega⟩ h hB (by omega))
  clear h
  go_enter Try.func129, Try.ntmps129
  go_wp2_with fail
  refine HN.out.mono ?_
  rintro e w1 ⟨rfl, hb, hbel⟩
  have hsz := hbel.size
  have hil := ib_length (s.length : Int) ⟨by omega, by omega⟩
  have HW := Lib.hid (writeString _ holds_writer B b (l ++ ib s.length) s w1 (.inr hb) (by rw [List.length_append]; omega) (by omega))
  clear hb hsz hil
  go_wp2_with fail
  refine HW.out.mono ?_
  rintro e w2 ⟨rfl, hb2, hbel2⟩
  have HB := Lib.hid hb2
  clear hb2
  go_wp2_with fail
  go_end0
  exact ⟨rfl, by unfold tb; rw [← List.append_assoc]; exact HB.out, hbel.trans hbel2⟩

def svs (l : List (List UInt8)) : List Value := l.map fun s => Value.string ⟨s.toArray⟩
theorem tsb_snoc (l : List (List UInt8)) (k : Nat) (x : List UInt8) (h : l[k]? = some x) : tsb (l.take (k + 1)) = tsb (l.take k) ++ tb x := by
  unfold tsb
  rw [List.take_add_one, h, List.flatMap_append]; simp
theorem tsb_take (l : List (List UInt8)) (k : Nat) : (tsb (l.take k)).length ≤ (tsb l).length := by
  conv => rhs; rw [← List.take_append_drop k l]
  unfold tsb
  rw [List.flatMap_append, List.length_append]; omega
set_option maxRecDepth 100000 in
set_option maxHeartbeats 1000000 in
theorem each_text (B b : Nat) (v : Value) (xs : List (List UInt8)) (l : List UInt8) (w : World) (hs : SlAt w B v 1 xs.length (svs xs)) (h : IsBld 169 B b l w) (hB : B ≤ w.heap.size) (hxl : xs.length ≤ 70368744177664) (hl : l.length + (tsb xs).length ≤ 70368744177600) :
    Calls Try.prog 128 #[v, .func (.func 129) #[.pointer (some ⟨b, 0, none⟩)] #[]] w fun e w' => e = .returned (.tuple #[]) ∧ IsBld 169 B b (l ++ tsb xs) w' ∧ Below B w w' := by
  obtain ⟨A, c, rfl⟩ := hs.shape
  have H := Lib.hid h
  have HS := Lib.hid hs
  clear h hs
  go_enter Try.func128, Try.ntmps128
  go_wp2_with fail
  go_loopw [8] (fun i wr => ∃ k : Nat, k ≤ xs.length ∧ i = .int .i64 k ∧ Hid (IsBld 169 B b (l ++ tsb (xs.take k)) wr) ∧ Below B w wr) (fun i _ => xs.length - (intOf i).toNat)
  case atStart => exact ⟨0, by omega, rfl, by simpa [tsb] using H, Below.refl _ _⟩
  case round =>
    obtain ⟨k, hk, rfl, hb, hbel⟩ := hrel
    by_cases hlt : k < xs.length
    · have hlt' : (k : Int) < (xs.length : Int) := by omega
      have hk1 := List.getElem?_eq_getElem hlt
      obtain ⟨x, hx⟩ : ∃ x, xs[k] = x := ⟨_, rfl⟩
      rw [hx] at hk1
      obtain ⟨ab, ao, ac, hv, hab, hc⟩ := (HS.out.below hbel).at_ (by omega)
      have q0 := hc k (.string ⟨x.toArray⟩) (by unfold svs; rw [List.getElem?_map, hk1]; rfl)
      have hsz := hbel.size
      have hE := tsb_snoc xs k x hk1
      have hlen := tsb_take xs (k + 1)
      have hxx : x.length ≤ (tb x).length := by unfold tb; rw [List.length_append]; omega
      rw [hE, List.length_append] at hlen
      have HW := Lib.hid (writer_text B b x _ wr hb.out (by omega) (by rw [List.length_append]; omega))
      have HE := Lib.hid hE
      injection hv with e1 e2 e3
      subst e1; subst e3
      clear e2 hx hk1 hc hlen hxx hE
      go_wp2_with (go_at_call 129; refine HW.out.mono ?_; rintro e w1 ⟨rfl, hb1, hbel1⟩; have HB1 := Lib.hid hb1; clear hb1)
      go_roundw
      case rel => exact ⟨k + 1, by omega, by go_num, by show IsBld _ _ _ _ _; rw [HE.out, ← List.append_assoc]; exact .inr HB1.out, hbel.trans hbel1⟩
      case measure => simp [intOf]; omega
    · have hd0 : decide ((k : Int) < (xs.length : Int)) = false := by simp; omega
      obtain rfl : k = xs.length := by omega
      rw [List.take_length] at hb
      go_wp2_with fail
      go_end0
      exact ⟨rfl, hb.out, hbel⟩

set_option maxRecDepth 100000 in
theorem codec_text (v : Value) (xs : List (List UInt8)) (w : World) (hs : SlAt w w.heap.size v 1 xs.length (svs xs)) (hl : xs.length ≤ 1000000000) (hl2 : (tsb xs).length ≤ 70368744177600) :
    Calls Try.prog 100 #[v] w fun e w' => e = .returned (.string ⟨(tsb xs).toArray⟩) ∧ Only [] w w' := by
  obtain ⟨A, c, rfl⟩ := hs.shape
  have hs1 : SlAt (w.alloc (.cells #[.pointer none, .slice none 0 0] 169)) w.heap.size (.slice A xs.length c) 1 xs.length (svs xs) := hs.below ((Below.refl _ w).alloc (Nat.le_refl _) _)
  have HE := Lib.hid (each_text w.heap.size w.heap.size _ xs [] _ hs1 (.inl (Bld.new 169 w)) (by simp) (by omega) (by simp; omega))
  clear hs hs1
  go_enter Try.func100, Try.ntmps100
  go_wp2_with fail
  refine HE.out.mono ?_
  rintro e w1 ⟨rfl, hb, hbel⟩
  have HS := Lib.hid (builder_string_any _ _ _ _ _ hb)
  clear hb
  go_wp2_with fail
  refine HS.out.mono ?_
  rintro e w2 ⟨rfl, hbel2⟩
  go_wp2_with fail
  go_ret
  exact ⟨by simp, Only.of_below ((((Below.refl _ w).alloc (Nat.le_refl _) _).trans hbel).trans hbel2)⟩

/-- What is read as a text; as a bool. -/
def rdT (s : List UInt8) : Option (List UInt8 × List UInt8) :=
  match rdI s with
  | some (n, r) => if 0 ≤ n ∧ n ≤ r.length then some (r.take n.toNat, r.drop n.toNat) else none
  | none => none
def rdTV : Option (List UInt8 × List UInt8) → Value
  | some (a, r) => .tuple #[.string ⟨a.toArray⟩, .string ⟨r.toArray⟩, .bool true]
  | none => .tuple #[.string ⟨#[]⟩, .string ⟨#[]⟩, .bool false]
theorem rdI_length {s : List UInt8} {n : Int} {r : List UInt8} (h : rdI s = some (n, r)) : r.length ≤ s.length := by
  obtain ⟨_, rfl⟩ := (rdI_iff s n r).1 h
  rw [List.length_append]; omega
set_option maxRecDepth 100000 in
theorem codec_toText (s : List UInt8) (w : World) (hl : s.length ≤ 1000000000000) :
    Calls Try.prog 114 #[.string ⟨s.toArray⟩] w fun e w' => e = .returned (rdTV (rdT s)) ∧ Only [] w w' := by
  have HC := Lib.hid (codec_toInt s w hl)
  go_enter Try.func114, Try.ntmps114
  go_wp2_with fail
  refine HC.out.mono ?_
  rintro e w1 ⟨he, ho⟩
  cases hr : rdI s with
  | none =>
    rw [hr] at he
    have he : e = .returned (.tuple #[.int .i64 0, .string ⟨#[]⟩, .bool false]) := he
    subst he
    have HR : Hid (rdT s = none) := by show _ = _; unfold rdT; rw [hr]
    clear hr
    go_wp2_with fail
    go_ret3
    exact ⟨by rw [HR.out]; rfl, ho⟩
  | some nr =>
    obtain ⟨n, r⟩ := nr
    rw [hr] at he
    have he : e = .returned (.tuple #[.int .i64 n, .string ⟨r.toArray⟩, .bool true]) := he
    subst he
    have hrl := rdI_length hr
    by_cases h0 : 0 ≤ n
    · by_cases h1 : n ≤ r.length
      · have HR : Hid (rdT s = some (r.take n.toNat, r.drop n.toNat)) := by show _ = _; unfold rdT; rw [hr]; exact if_pos ⟨h0, h1⟩
        obtain ⟨k, rfl⟩ : ∃ k : Nat, n = k := ⟨n.toNat, by omega⟩
        clear hr
        have hd : decide ((k : Int) < 0) = false := by simp
        have hd1 : decide ((r.length : Int) < k) = false := by simp; omega
        go_wp2_with fail
        go_quiet (fail)
        rw [str_to_end, str_from_start]
        go_wp2_with fail
        go_ret3
        exact ⟨by rw [HR.out]; rfl, ho.drewN _⟩
      · have HR : Hid (rdT s = none) := by show _ = _; unfold rdT; rw [hr]; exact if_neg fun h => h1 h.2
        clear hr
        have hd : decide (n < 0) = false := by simp; omega
        have hd1 : decide ((r.length : Int) < n) = true := by simp; omega
        go_wp2_with fail
        go_ret3
        exact ⟨by rw [HR.out]; rfl, ho⟩
    · have HR : Hid (rdT s = none) := by show _ = _; unfold rdT; rw [hr]; exact if_neg fun h => h0 h.1
      clear hr
      have hd : decide (n < 0) = true := by simp; omega
      go_wp2_with fail
      go_ret3
      exact ⟨by rw [HR.out]; rfl, ho⟩
end Go.Proofs.Ytjfnkjpnjiobjaa
