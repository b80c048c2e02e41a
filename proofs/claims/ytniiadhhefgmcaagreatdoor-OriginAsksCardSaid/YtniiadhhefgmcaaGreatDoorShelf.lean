/- Contracts of library functions at this program, each one application of a theorem of the kit's library. No condition beyond those stated. -/
import Derived.Shelf.Strings.Builder1
import Derived.Shelf.Strings.Builder2
import Derived.Shelf.Strings.OnBuilder
import Derived.Shelf.Strings.Trim
import Derived.Shelf.Small.Utf8
import Derived.Shelf.Small.Strs
import Derived.Shelf.Small.Wraps
import Derived.Shelf.Strings.BuilderF
import Derived.Shelf.Strings.Search1
import Derived.Shelf.Strings.Search2
import Derived.Shelf.Strings.Search3
import Derived.Shelf.Strings.Count
import Derived.Shelf.LaysM
import Derived.Shelf.Strings.Shaped
import Derived.Shelf.Strings.Prefix
import Derived.Shelf.Strings.Split
import Derived.Shelf.Strings.SplitShaped
import Derived.Shelf.Strings.Runes
import Derived.Shelf.Strings.AsciiSet
import Derived.Shelf.Unicode.DecodeSlow
import Derived.Ground.Names2Prog
import Derived.Shelf.Slices.Clone
import Derived.Shelf.Slices.CompactS
import Derived.Shelf.Slices.Cells
import Derived.Shelf.Bytes.SlIndexSmall
import Derived.Shelf.Bytes.SlIndexAt
import Derived.Shelf.Bytes.SlSearch0
import Derived.Shelf.Bytes.SlSearch1
import Derived.Shelf.Bytes.SlSearch2
import Derived.Shelf.Bytes.SlIndexWhole
import Derived.Ground.SlbCloneProg
import Derived.Shelf.Bytes.SlClone
import Derived.Shelf.Bytes.SlEqualAll
import Derived.Ground.SlbtProg
import Derived.Shelf.Bytes.SlCut
import Derived.Shelf.Bytes.Small
import Derived.Shelf.Bytes.IndexByte
import Derived.Test.YtniiadhhefgmcaaGreatDoorProg
namespace Go.Proofs
open Go.Shelf
def Tryz.lays156_ren : Go.Shelf.Ren := ⟨fun | 156 => 107 | 165 => 126 | 166 => 127 | 169 => 128 | 240 => 144 | 241 => 145 | 276 => 166 | 277 => 167 | n => n, fun | 31 => 57 | 9 => 9 | 3 => 3 | 4 => 4 | 0 => 0 | 20 => 20 | 72 => 154 | 76 => 158 | 70 => 152 | 37 => 25 | 75 => 157 | 127 => 170 | 164 => 189 | 5 => 5 | 80 => 160 | n => n, fun | n => n⟩
theorem Tryz.lays156 : Go.Proofs.Lays.n156 Tryz.prog Tryz.lays156_ren := {
  mixed := by kernel_rfl
  f156 := Tryz.func107.trans (congrArg some (by kernel_rfl))
  f165 := Tryz.func126.trans (congrArg some (by kernel_rfl))
  f166 := Tryz.func127.trans (congrArg some (by kernel_rfl))
  f169 := Tryz.func128.trans (congrArg some (by kernel_rfl))
  f240 := Tryz.func144.trans (congrArg some (by kernel_rfl))
  f241 := Tryz.func145.trans (congrArg some (by kernel_rfl))
  f276 := Tryz.func166.trans (congrArg some (by kernel_rfl))
  f277 := Tryz.func167.trans (congrArg some (by kernel_rfl))
  t0 := Tryz.underlying0
  a0 := Tryz.isAgg0
  z0 := Tryz.sizeOf0
  v0 := Tryz.zeroValue0
  t3 := Tryz.underlying3
  a3 := Tryz.isAgg3
  z3 := Tryz.sizeOf3
  v3 := Tryz.zeroValue3
  t4 := Tryz.underlying4
  a4 := Tryz.isAgg4
  z4 := Tryz.sizeOf4
  v4 := Tryz.zeroValue4
  t9 := Tryz.underlying9
  a9 := Tryz.isAgg9
  z9 := Tryz.sizeOf9
  v9 := Tryz.zeroValue9
  t20 := Tryz.underlying20
  a20 := Tryz.isAgg20
  z20 := Tryz.sizeOf20
  v20 := Tryz.zeroValue20
  t31 := Tryz.underlying57
  a31 := Tryz.isAgg57
  z31 := Tryz.sizeOf57
  v31 := Tryz.zeroValue57
  t37 := Tryz.underlying25
  a37 := Tryz.isAgg25
  z37 := Tryz.sizeOf25
  v37 := Tryz.zeroValue25
  t70 := Tryz.underlying152
  a70 := Tryz.isAgg152
  z70 := Tryz.sizeOf152
  v70 := Tryz.zeroValue152
  t72 := Tryz.underlying154
  a72 := Tryz.isAgg154
  z72 := Tryz.sizeOf154
  v72 := Tryz.zeroValue154
  t75 := Tryz.underlying157
  a75 := Tryz.isAgg157
  z75 := Tryz.sizeOf157
  v75 := Tryz.zeroValue157
  t76 := Tryz.underlying158
  a76 := Tryz.isAgg158
  z76 := Tryz.sizeOf158
  v76 := Tryz.zeroValue158
  t127 := Tryz.underlying170
  a127 := Tryz.isAgg170
  z127 := Tryz.sizeOf170
  v127 := Tryz.zeroValue170
  t164 := Tryz.underlying189
  a164 := Tryz.isAgg189
  z164 := Tryz.sizeOf189
  v164 := Tryz.zeroValue189 }
theorem Tryz.Builder_Extra_156 : Builder.Extra Tryz.prog Tryz.lays156_ren := {
  sizeBuilder := by kernel_rfl
  liesBuilder := by kernel_rfl
  t5 := Tryz.underlying5
  a5 := Tryz.isAgg5
  z5 := Tryz.sizeOf5
  v5 := Tryz.zeroValue5
  infoByte := by kernel_rfl
  cellsByte := by kernel_rfl
  sizeByte := by kernel_rfl
  neB5 := by decide }
open Go.RowKit in
theorem Tryz.strings_Join (bk o c : Nat) (xs : List ByteArray) (sep : ByteArray) (w : World) (hcells : ∀ (j : Nat) x, xs[j]? = some x → w.cell? ⟨bk, o + j, none⟩ = some (.string x)) (hbk : bk < w.heap.size) (hN : xs.length ≤ 140737488355328) (hcap : xs.length ≤ c) (hlen : (Lib.join (xs.map (·.data.toList)) sep.data.toList).length ≤ 140737488355328) :
    Calls Tryz.prog 107 #[.slice (some ⟨bk, o, none⟩) xs.length c, .string sep] w fun e w' => e = .returned (.string ⟨(Lib.join (xs.map (·.data.toList)) sep.data.toList).toArray⟩) ∧ Below w.heap.size w w' := Any.strings_Join Tryz.lays156 Tryz.Builder_Extra_156 bk o c xs sep w hcells hbk hN hcap hlen
def Tryz.lays161_ren : Go.Shelf.Ren := ⟨fun | 161 => 202 | 231 => 154 | 227 => 156 | 233 => 157 | 235 => 159 | 228 => 174 | 197 => 175 | 151 => 176 | 260 => 188 | 152 => 189 | 137 => 164 | 119 => 198 | 224 => 185 | 225 => 199 | 217 => 178 | 266 => 191 | n => n, fun | 9 => 9 | 4 => 4 | 3 => 3 | 5 => 5 | 117 => 183 | 116 => 182 | 0 => 0 | 124 => 186 | 105 => 196 | 21 => 21 | 119 => 208 | 46 => 203 | 139 => 211 | 138 => 210 | n => n, fun | 3 => 1 | 4 => 2 | n => n⟩
theorem Tryz.lays161 : Go.Proofs.Lays.n161 Tryz.prog Tryz.lays161_ren := {
  mixed := by kernel_rfl
  f119 := Tryz.func198.trans (congrArg some (by kernel_rfl))
  f137 := Tryz.func164.trans (congrArg some (by kernel_rfl))
  f151 := Tryz.func176.trans (congrArg some (by kernel_rfl))
  f152 := Tryz.func189.trans (congrArg some (by kernel_rfl))
  f161 := Tryz.func202.trans (congrArg some (by kernel_rfl))
  f197 := Tryz.func175.trans (congrArg some (by kernel_rfl))
  f217 := Tryz.func178.trans (congrArg some (by kernel_rfl))
  f224 := Tryz.func185.trans (congrArg some (by kernel_rfl))
  f225 := Tryz.func199.trans (congrArg some (by kernel_rfl))
  f227 := Tryz.func156.trans (congrArg some (by kernel_rfl))
  f228 := Tryz.func174.trans (congrArg some (by kernel_rfl))
  f231 := Tryz.func154.trans (congrArg some (by kernel_rfl))
  f233 := Tryz.func157.trans (congrArg some (by kernel_rfl))
  f235 := Tryz.func159.trans (congrArg some (by kernel_rfl))
  f260 := Tryz.func188.trans (congrArg some (by kernel_rfl))
  f266 := Tryz.func191.trans (congrArg some (by kernel_rfl))
  t0 := Tryz.underlying0
  a0 := Tryz.isAgg0
  z0 := Tryz.sizeOf0
  v0 := Tryz.zeroValue0
  t3 := Tryz.underlying3
  a3 := Tryz.isAgg3
  z3 := Tryz.sizeOf3
  v3 := Tryz.zeroValue3
  t4 := Tryz.underlying4
  a4 := Tryz.isAgg4
  z4 := Tryz.sizeOf4
  v4 := Tryz.zeroValue4
  t5 := Tryz.underlying5
  a5 := Tryz.isAgg5
  z5 := Tryz.sizeOf5
  v5 := Tryz.zeroValue5
  t9 := Tryz.underlying9
  a9 := Tryz.isAgg9
  z9 := Tryz.sizeOf9
  v9 := Tryz.zeroValue9
  t21 := Tryz.underlying21
  a21 := Tryz.isAgg21
  z21 := Tryz.sizeOf21
  v21 := Tryz.zeroValue21
  t46 := Tryz.underlying203
  a46 := Tryz.isAgg203
  z46 := Tryz.sizeOf203
  v46 := Tryz.zeroValue203
  t105 := Tryz.underlying196
  a105 := Tryz.isAgg196
  z105 := Tryz.sizeOf196
  v105 := Tryz.zeroValue196
  t116 := Tryz.underlying182
  a116 := Tryz.isAgg182
  z116 := Tryz.sizeOf182
  t117 := Tryz.underlying183
  a117 := Tryz.isAgg183
  z117 := Tryz.sizeOf183
  v117 := Tryz.zeroValue183
  t119 := Tryz.underlying208
  a119 := Tryz.isAgg208
  z119 := Tryz.sizeOf208
  t124 := Tryz.underlying186
  a124 := Tryz.isAgg186
  z124 := Tryz.sizeOf186
  v124 := Tryz.zeroValue186
  t138 := Tryz.underlying210
  a138 := Tryz.isAgg210
  z138 := Tryz.sizeOf210
  v138 := Tryz.zeroValue210
  t139 := Tryz.underlying211
  a139 := Tryz.isAgg211
  z139 := Tryz.sizeOf211
  v139 := Tryz.zeroValue211
  g3 := by kernel_rfl
  g4 := by kernel_rfl }
def Tryz.lays160_ren : Go.Shelf.Ren := ⟨fun | 160 => 140 | 232 => 155 | 231 => 154 | 227 => 156 | 234 => 158 | 233 => 157 | 236 => 160 | 235 => 159 | 228 => 174 | 271 => 177 | 151 => 176 | 197 => 175 | 120 => 190 | 152 => 189 | 260 => 188 | 137 => 164 | 119 => 198 | 224 => 185 | 225 => 199 | 217 => 178 | 266 => 191 | n => n, fun | 9 => 9 | 4 => 4 | 3 => 3 | 5 => 5 | 117 => 183 | 116 => 182 | 0 => 0 | 124 => 186 | 21 => 21 | 105 => 196 | 46 => 203 | 119 => 208 | 139 => 211 | 138 => 210 | n => n, fun | 3 => 1 | 4 => 2 | n => n⟩
theorem Tryz.lays160 : Go.Proofs.Lays.n160 Tryz.prog Tryz.lays160_ren := {
  mixed := by kernel_rfl
  f119 := Tryz.func198.trans (congrArg some (by kernel_rfl))
  f120 := Tryz.func190.trans (congrArg some (by kernel_rfl))
  f137 := Tryz.func164.trans (congrArg some (by kernel_rfl))
  f151 := Tryz.func176.trans (congrArg some (by kernel_rfl))
  f152 := Tryz.func189.trans (congrArg some (by kernel_rfl))
  f160 := Tryz.func140.trans (congrArg some (by kernel_rfl))
  f197 := Tryz.func175.trans (congrArg some (by kernel_rfl))
  f217 := Tryz.func178.trans (congrArg some (by kernel_rfl))
  f224 := Tryz.func185.trans (congrArg some (by kernel_rfl))
  f225 := Tryz.func199.trans (congrArg some (by kernel_rfl))
  f227 := Tryz.func156.trans (congrArg some (by kernel_rfl))
  f228 := Tryz.func174.trans (congrArg some (by kernel_rfl))
  f231 := Tryz.func154.trans (congrArg some (by kernel_rfl))
  f232 := Tryz.func155.trans (congrArg some (by kernel_rfl))
  f233 := Tryz.func157.trans (congrArg some (by kernel_rfl))
  f234 := Tryz.func158.trans (congrArg some (by kernel_rfl))
  f235 := Tryz.func159.trans (congrArg some (by kernel_rfl))
  f236 := Tryz.func160.trans (congrArg some (by kernel_rfl))
  f260 := Tryz.func188.trans (congrArg some (by kernel_rfl))
  f266 := Tryz.func191.trans (congrArg some (by kernel_rfl))
  f271 := Tryz.func177.trans (congrArg some (by kernel_rfl))
  t0 := Tryz.underlying0
  a0 := Tryz.isAgg0
  z0 := Tryz.sizeOf0
  v0 := Tryz.zeroValue0
  t3 := Tryz.underlying3
  a3 := Tryz.isAgg3
  z3 := Tryz.sizeOf3
  v3 := Tryz.zeroValue3
  t4 := Tryz.underlying4
  a4 := Tryz.isAgg4
  z4 := Tryz.sizeOf4
  v4 := Tryz.zeroValue4
  t5 := Tryz.underlying5
  a5 := Tryz.isAgg5
  z5 := Tryz.sizeOf5
  v5 := Tryz.zeroValue5
  t9 := Tryz.underlying9
  a9 := Tryz.isAgg9
  z9 := Tryz.sizeOf9
  v9 := Tryz.zeroValue9
  t21 := Tryz.underlying21
  a21 := Tryz.isAgg21
  z21 := Tryz.sizeOf21
  v21 := Tryz.zeroValue21
  t46 := Tryz.underlying203
  a46 := Tryz.isAgg203
  z46 := Tryz.sizeOf203
  v46 := Tryz.zeroValue203
  t105 := Tryz.underlying196
  a105 := Tryz.isAgg196
  z105 := Tryz.sizeOf196
  v105 := Tryz.zeroValue196
  t116 := Tryz.underlying182
  a116 := Tryz.isAgg182
  z116 := Tryz.sizeOf182
  t117 := Tryz.underlying183
  a117 := Tryz.isAgg183
  z117 := Tryz.sizeOf183
  v117 := Tryz.zeroValue183
  t119 := Tryz.underlying208
  a119 := Tryz.isAgg208
  z119 := Tryz.sizeOf208
  t124 := Tryz.underlying186
  a124 := Tryz.isAgg186
  z124 := Tryz.sizeOf186
  v124 := Tryz.zeroValue186
  t138 := Tryz.underlying210
  a138 := Tryz.isAgg210
  z138 := Tryz.sizeOf210
  v138 := Tryz.zeroValue210
  t139 := Tryz.underlying211
  a139 := Tryz.isAgg211
  z139 := Tryz.sizeOf211
  v139 := Tryz.zeroValue211
  g3 := by kernel_rfl
  g4 := by kernel_rfl }
def Tryz.lays137_ren : Go.Shelf.Ren := ⟨fun | 137 => 164 | 217 => 178 | 266 => 191 | n => n, fun | 9 => 9 | 5 => 5 | 3 => 3 | n => n, fun | n => n⟩
theorem Tryz.lays137 : Go.Proofs.Lays.n137 Tryz.prog Tryz.lays137_ren := {
  mixed := by kernel_rfl
  f137 := Tryz.func164.trans (congrArg some (by kernel_rfl))
  f217 := Tryz.func178.trans (congrArg some (by kernel_rfl))
  f266 := Tryz.func191.trans (congrArg some (by kernel_rfl))
  t3 := Tryz.underlying3
  a3 := Tryz.isAgg3
  z3 := Tryz.sizeOf3
  v3 := Tryz.zeroValue3
  t5 := Tryz.underlying5
  a5 := Tryz.isAgg5
  z5 := Tryz.sizeOf5
  v5 := Tryz.zeroValue5
  t9 := Tryz.underlying9
  a9 := Tryz.isAgg9
  z9 := Tryz.sizeOf9
  v9 := Tryz.zeroValue9 }
open Go.RowKit in
theorem Tryz.strings_IndexByte (s : ByteArray) (c : Int) (w : World) :
    Calls Tryz.prog 164 #[.string s, .int .u8 c] w fun e w' => e = .returned (.int .i64 (Lib.indexByte s.data.toList c.toNat.toUInt8)) ∧ w' = w := Any.strings_IndexByte Tryz.lays137 s c w
def Tryz.lays103_ren : Go.Shelf.Ren := ⟨fun | 103 => 201 | 210 => 204 | 206 => 205 | n => n, fun | 9 => 9 | 4 => 4 | 24 => 213 | 3 => 3 | n => n, fun | n => n⟩
theorem Tryz.lays103 : Go.Proofs.Lays.n103 Tryz.prog Tryz.lays103_ren := {
  mixed := by kernel_rfl
  f103 := Tryz.func201.trans (congrArg some (by kernel_rfl))
  f206 := Tryz.func205.trans (congrArg some (by kernel_rfl))
  f210 := Tryz.func204.trans (congrArg some (by kernel_rfl))
  t3 := Tryz.underlying3
  a3 := Tryz.isAgg3
  z3 := Tryz.sizeOf3
  v3 := Tryz.zeroValue3
  t4 := Tryz.underlying4
  a4 := Tryz.isAgg4
  z4 := Tryz.sizeOf4
  v4 := Tryz.zeroValue4
  t9 := Tryz.underlying9
  a9 := Tryz.isAgg9
  z9 := Tryz.sizeOf9
  v9 := Tryz.zeroValue9
  t24 := Tryz.underlying213
  a24 := Tryz.isAgg213
  z24 := Tryz.sizeOf213
  v24 := Tryz.zeroValue213 }
open Go.RowKit in
theorem Tryz.strings_CutPrefix (s p : ByteArray) (w : World) :
    Calls Tryz.prog 201 #[.string s, .string p] w fun e w' => e = .returned (.tuple #[.string ⟨(Lib.trimPrefix s.data.toList p.data.toList).toArray⟩, .bool (Lib.hasPrefix s.data.toList p.data.toList)]) ∧ w' = w := Any.strings_CutPrefix Tryz.lays103 s p w
def Tryz.laysM146_ren : Go.Shelf.Ren := ⟨fun | 146 => 150 | 221 => 169 | 268 => 180 | 138 => 181 | 143 => 182 | 195 => 192 | 197 => 175 | 218 => 193 | 219 => 194 | 260 => 188 | 217 => 178 | 225 => 199 | 224 => 185 | 267 => 200 | 266 => 191 | 314 => 203 | n => n, fun | 9 => 9 | 31 => 57 | 3 => 3 | 4 => 4 | 0 => 0 | 105 => 196 | 21 => 21 | 5 => 5 | 46 => 203 | 119 => 208 | 139 => 211 | 138 => 210 | 146 => 206 | 51 => 60 | n => n, fun | 1 => 0 | 3 => 1 | 4 => 2 | n => n⟩
theorem Tryz.laysM146 : Go.Proofs.LaysM.n146 Tryz.prog Tryz.laysM146_ren := {
  mixed := by kernel_rfl
  f138 := Tryz.func181.trans (congrArg some (by kernel_rfl))
  f143 := Tryz.func182.trans (congrArg some (by kernel_rfl))
  f146 := Tryz.func150.trans (congrArg some (by kernel_rfl))
  f195 := Tryz.func192.trans (congrArg some (by kernel_rfl))
  f197 := Tryz.func175.trans (congrArg some (by kernel_rfl))
  f217 := Tryz.func178.trans (congrArg some (by kernel_rfl))
  f218 := Tryz.func193.trans (congrArg some (by kernel_rfl))
  f219 := Tryz.func194.trans (congrArg some (by kernel_rfl))
  f221 := Tryz.func169.trans (congrArg some (by kernel_rfl))
  f224 := Tryz.func185.trans (congrArg some (by kernel_rfl))
  f225 := Tryz.func199.trans (congrArg some (by kernel_rfl))
  f260 := Tryz.func188.trans (congrArg some (by kernel_rfl))
  f266 := Tryz.func191.trans (congrArg some (by kernel_rfl))
  f267 := Tryz.func200.trans (congrArg some (by kernel_rfl))
  f268 := Tryz.func180.trans (congrArg some (by kernel_rfl))
  f314 := Tryz.func203.trans (congrArg some (by kernel_rfl))
  t0 := Tryz.underlying0
  a0 := Tryz.isAgg0
  z0 := Tryz.sizeOf0
  v0 := Tryz.zeroValue0
  t3 := Tryz.underlying3
  a3 := Tryz.isAgg3
  z3 := Tryz.sizeOf3
  v3 := Tryz.zeroValue3
  t4 := Tryz.underlying4
  a4 := Tryz.isAgg4
  z4 := Tryz.sizeOf4
  v4 := Tryz.zeroValue4
  t5 := Tryz.underlying5
  a5 := Tryz.isAgg5
  z5 := Tryz.sizeOf5
  v5 := Tryz.zeroValue5
  t9 := Tryz.underlying9
  a9 := Tryz.isAgg9
  z9 := Tryz.sizeOf9
  v9 := Tryz.zeroValue9
  t21 := Tryz.underlying21
  a21 := Tryz.isAgg21
  z21 := Tryz.sizeOf21
  v21 := Tryz.zeroValue21
  t31 := Tryz.underlying57
  a31 := Tryz.isAgg57
  z31 := Tryz.sizeOf57
  v31 := Tryz.zeroValue57
  t46 := Tryz.underlying203
  a46 := Tryz.isAgg203
  z46 := Tryz.sizeOf203
  v46 := Tryz.zeroValue203
  t51 := Tryz.underlying60
  a51 := Tryz.isAgg60
  z51 := Tryz.sizeOf60
  v51 := Tryz.zeroValue60
  t105 := Tryz.underlying196
  a105 := Tryz.isAgg196
  z105 := Tryz.sizeOf196
  v105 := Tryz.zeroValue196
  t119 := Tryz.underlying208
  a119 := Tryz.isAgg208
  z119 := Tryz.sizeOf208
  t138 := Tryz.underlying210
  a138 := Tryz.isAgg210
  z138 := Tryz.sizeOf210
  v138 := Tryz.zeroValue210
  t139 := Tryz.underlying211
  a139 := Tryz.isAgg211
  z139 := Tryz.sizeOf211
  v139 := Tryz.zeroValue211
  t146 := Tryz.underlying206
  a146 := Tryz.isAgg206
  z146 := Tryz.sizeOf206
  v146 := Tryz.zeroValue206
  g1 := by kernel_rfl
  g3 := by kernel_rfl
  g4 := by kernel_rfl
  i0 := by kernel_rfl
  i3 := by kernel_rfl
  i4 := by kernel_rfl
  i5 := by kernel_rfl
  i9 := by kernel_rfl
  i21 := by kernel_rfl
  i31 := by kernel_rfl
  i46 := by kernel_rfl
  i51 := by kernel_rfl
  i105 := by kernel_rfl
  i138 := by kernel_rfl
  i139 := by kernel_rfl
  i146 := by kernel_rfl
  m1 := by kernel_rfl
  s1_3 := fun w h => Go.Proofs.cell_of_shapedOpen_int (zero := #[.int .i64 0]) (t := 3) h (of_decide_eq_true (by kernel_rfl)) (by kernel_rfl) rfl (by kernel_rfl) (by kernel_rfl) Tryz.underlying3
  m3 := by kernel_rfl
  m4 := by kernel_rfl }
open Go.RowKit Go.Lib in
theorem Tryz.strings_Split_shaped (s sep : ByteArray) (w : World) (h : w.ShapedOpen Tryz.prog) (hs : s.size < 4294967281) (h1 : 1 ≤ sep.size) :
    Calls Tryz.prog 150 #[.string s, .string sep] w fun e w' =>
      e = .returned (.slice (some ⟨w.heap.size, 0, none⟩) (Lib.countB s sep + 1) (Lib.countB s sep + 1)) ∧ w' = w.alloc (.cells ((Lib.splitB sep 0 (Lib.countB s sep) s).map Value.string).toArray 9) := Any.strings_Split_shaped Tryz.laysM146 s sep w h hs h1
def Tryz.laysM147_ren : Go.Shelf.Ren := ⟨fun | 147 => 148 | 221 => 169 | 268 => 180 | 138 => 181 | 143 => 182 | 195 => 192 | 197 => 175 | 218 => 193 | 219 => 194 | 260 => 188 | 217 => 178 | 225 => 199 | 224 => 185 | 267 => 200 | 266 => 191 | 314 => 203 | n => n, fun | 9 => 9 | 3 => 3 | 31 => 57 | 4 => 4 | 0 => 0 | 105 => 196 | 21 => 21 | 5 => 5 | 46 => 203 | 119 => 208 | 139 => 211 | 138 => 210 | 146 => 206 | 51 => 60 | n => n, fun | 1 => 0 | 3 => 1 | 4 => 2 | n => n⟩
theorem Tryz.laysM147 : Go.Proofs.LaysM.n147 Tryz.prog Tryz.laysM147_ren := {
  mixed := by kernel_rfl
  f138 := Tryz.func181.trans (congrArg some (by kernel_rfl))
  f143 := Tryz.func182.trans (congrArg some (by kernel_rfl))
  f147 := Tryz.func148.trans (congrArg some (by kernel_rfl))
  f195 := Tryz.func192.trans (congrArg some (by kernel_rfl))
  f197 := Tryz.func175.trans (congrArg some (by kernel_rfl))
  f217 := Tryz.func178.trans (congrArg some (by kernel_rfl))
  f218 := Tryz.func193.trans (congrArg some (by kernel_rfl))
  f219 := Tryz.func194.trans (congrArg some (by kernel_rfl))
  f221 := Tryz.func169.trans (congrArg some (by kernel_rfl))
  f224 := Tryz.func185.trans (congrArg some (by kernel_rfl))
  f225 := Tryz.func199.trans (congrArg some (by kernel_rfl))
  f260 := Tryz.func188.trans (congrArg some (by kernel_rfl))
  f266 := Tryz.func191.trans (congrArg some (by kernel_rfl))
  f267 := Tryz.func200.trans (congrArg some (by kernel_rfl))
  f268 := Tryz.func180.trans (congrArg some (by kernel_rfl))
  f314 := Tryz.func203.trans (congrArg some (by kernel_rfl))
  t0 := Tryz.underlying0
  a0 := Tryz.isAgg0
  z0 := Tryz.sizeOf0
  v0 := Tryz.zeroValue0
  t3 := Tryz.underlying3
  a3 := Tryz.isAgg3
  z3 := Tryz.sizeOf3
  v3 := Tryz.zeroValue3
  t4 := Tryz.underlying4
  a4 := Tryz.isAgg4
  z4 := Tryz.sizeOf4
  v4 := Tryz.zeroValue4
  t5 := Tryz.underlying5
  a5 := Tryz.isAgg5
  z5 := Tryz.sizeOf5
  v5 := Tryz.zeroValue5
  t9 := Tryz.underlying9
  a9 := Tryz.isAgg9
  z9 := Tryz.sizeOf9
  v9 := Tryz.zeroValue9
  t21 := Tryz.underlying21
  a21 := Tryz.isAgg21
  z21 := Tryz.sizeOf21
  v21 := Tryz.zeroValue21
  t31 := Tryz.underlying57
  a31 := Tryz.isAgg57
  z31 := Tryz.sizeOf57
  v31 := Tryz.zeroValue57
  t46 := Tryz.underlying203
  a46 := Tryz.isAgg203
  z46 := Tryz.sizeOf203
  v46 := Tryz.zeroValue203
  t51 := Tryz.underlying60
  a51 := Tryz.isAgg60
  z51 := Tryz.sizeOf60
  v51 := Tryz.zeroValue60
  t105 := Tryz.underlying196
  a105 := Tryz.isAgg196
  z105 := Tryz.sizeOf196
  v105 := Tryz.zeroValue196
  t119 := Tryz.underlying208
  a119 := Tryz.isAgg208
  z119 := Tryz.sizeOf208
  t138 := Tryz.underlying210
  a138 := Tryz.isAgg210
  z138 := Tryz.sizeOf210
  v138 := Tryz.zeroValue210
  t139 := Tryz.underlying211
  a139 := Tryz.isAgg211
  z139 := Tryz.sizeOf211
  v139 := Tryz.zeroValue211
  t146 := Tryz.underlying206
  a146 := Tryz.isAgg206
  z146 := Tryz.sizeOf206
  v146 := Tryz.zeroValue206
  g1 := by kernel_rfl
  g3 := by kernel_rfl
  g4 := by kernel_rfl
  i0 := by kernel_rfl
  i3 := by kernel_rfl
  i4 := by kernel_rfl
  i5 := by kernel_rfl
  i9 := by kernel_rfl
  i21 := by kernel_rfl
  i31 := by kernel_rfl
  i46 := by kernel_rfl
  i51 := by kernel_rfl
  i105 := by kernel_rfl
  i138 := by kernel_rfl
  i139 := by kernel_rfl
  i146 := by kernel_rfl
  m1 := by kernel_rfl
  s1_3 := fun w h => Go.Proofs.cell_of_shapedOpen_int (zero := #[.int .i64 0]) (t := 3) h (of_decide_eq_true (by kernel_rfl)) (by kernel_rfl) rfl (by kernel_rfl) (by kernel_rfl) Tryz.underlying3
  m3 := by kernel_rfl
  m4 := by kernel_rfl }
open Go.RowKit Go.Lib in
theorem Tryz.strings_SplitN_shaped (s sep : ByteArray) (n : Nat) (w : World) (h : w.ShapedOpen Tryz.prog) (hs : s.size < 4294967281) (h1 : 1 ≤ sep.size) (hn : 1 ≤ n) (hn63 : n ≤ 9223372036854775807) :
    Calls Tryz.prog 148 #[.string s, .string sep, .int .i64 n] w fun e w' =>
      e = .returned (.slice (some ⟨w.heap.size, 0, none⟩) (Lib.splitB sep 0 (min n (s.size + 1) - 1) s).length (min n (s.size + 1))) ∧ w' = w.alloc (.cells (Lib.cellsOf (Lib.splitB sep 0 (min n (s.size + 1) - 1) s) (min n (s.size + 1))) 9) := Any.strings_SplitN_shaped Tryz.laysM147 s sep n w h hs h1 hn hn63
def Tryz.laysNm216_ren : Go.Shelf.Ren := ⟨fun | 16 => 134 | n => n, fun | 24 => 57 | 9 => 9 | 4 => 4 | n => n, fun | n => n⟩
theorem Tryz.laysNm216 : Go.Proofs.Lays2.n16 Tryz.prog Tryz.laysNm216_ren := {
  mixed := by kernel_rfl
  f16 := Tryz.func134.trans (congrArg some (by kernel_rfl))
  t4 := Tryz.underlying4
  a4 := Tryz.isAgg4
  z4 := Tryz.sizeOf4
  v4 := Tryz.zeroValue4
  t9 := Tryz.underlying9
  a9 := Tryz.isAgg9
  z9 := Tryz.sizeOf9
  v9 := Tryz.zeroValue9
  t24 := Tryz.underlying57
  a24 := Tryz.isAgg57
  z24 := Tryz.sizeOf57
  v24 := Tryz.zeroValue57
  i9 := by kernel_rfl }
open Go.RowKit Go.Lib in
theorem Tryz.slices_Clone_string (b off n c : Nat) (zs : List ByteArray) (w : World) (hz : n ≤ zs.length) (hbig : n * 16 ≤ 140737488355328) (hc : ∀ j, j < zs.length → w.cell? ⟨b, off + j, none⟩ = some (.string (zs.getD j ByteArray.empty))) :
    Calls Tryz.prog 134 #[.slice (some ⟨b, off, none⟩) n c] w fun e w' => ∃ v', e = .returned v' ∧ w'.ownsRow w.heap.size 9 1 v' n ((zs.take n).map (Value.string)) ∧ v' ≠ .slice none 0 0 ∧ Below w.heap.size w w' := Any.slices_Clone_string Tryz.laysNm216 b off n c zs w hz hbig hc
def Tryz.lays194_ren : Go.Shelf.Ren := ⟨fun | 194 => 133 | n => n, fun | 31 => 57 | 9 => 9 | 3 => 3 | 4 => 4 | 0 => 0 | n => n, fun | n => n⟩
theorem Tryz.lays194 : Go.Proofs.Lays.n194 Tryz.prog Tryz.lays194_ren := {
  mixed := by kernel_rfl
  f194 := Tryz.func133.trans (congrArg some (by kernel_rfl))
  t0 := Tryz.underlying0
  a0 := Tryz.isAgg0
  z0 := Tryz.sizeOf0
  v0 := Tryz.zeroValue0
  t3 := Tryz.underlying3
  a3 := Tryz.isAgg3
  z3 := Tryz.sizeOf3
  v3 := Tryz.zeroValue3
  t4 := Tryz.underlying4
  a4 := Tryz.isAgg4
  z4 := Tryz.sizeOf4
  v4 := Tryz.zeroValue4
  t9 := Tryz.underlying9
  a9 := Tryz.isAgg9
  z9 := Tryz.sizeOf9
  v9 := Tryz.zeroValue9
  t31 := Tryz.underlying57
  a31 := Tryz.isAgg57
  z31 := Tryz.sizeOf57
  v31 := Tryz.zeroValue57 }
open Go.RowKit Go.Lib Go.Sort in
theorem Tryz.slices_Compact_string_cells (b off n c : Nat) (Sx : Nat → ByteArray) (w : World) (hbig : n ≤ 9223372036854775807) (hcap : n ≤ c) (hc : ∀ i, i < n → w.cell? ⟨b, off + i, none⟩ = some (.string (Sx i))) (hf : ∀ j, j < n → w.frozen? ⟨b, off + j, none⟩ = false) :
    Calls Tryz.prog 133 #[.slice (some ⟨b, off, none⟩) n c] w fun e w' => e = .returned (.slice (some ⟨b, off, none⟩) (Lib.compact (Lib.strsOf Sx n)).length c) ∧ ∃ q, w' = (w.drewN q).setCells b off ((Lib.compact (Lib.strsOf Sx n) ++ List.replicate (n - (Lib.compact (Lib.strsOf Sx n)).length) []).map encStr) := Any.slices_Compact_string_cells Tryz.lays194 b off n c Sx w hbig hcap hc hf
def Tryz.lays187_ren : Go.Shelf.Ren := ⟨fun | 187 => 168 | 255 => 179 | n => n, fun | 37 => 25 | 5 => 5 | 3 => 3 | n => n, fun | n => n⟩
theorem Tryz.lays187 : Go.Proofs.Lays.n187 Tryz.prog Tryz.lays187_ren := {
  mixed := by kernel_rfl
  f187 := Tryz.func168.trans (congrArg some (by kernel_rfl))
  f255 := Tryz.func179.trans (congrArg some (by kernel_rfl))
  t3 := Tryz.underlying3
  a3 := Tryz.isAgg3
  z3 := Tryz.sizeOf3
  v3 := Tryz.zeroValue3
  t5 := Tryz.underlying5
  a5 := Tryz.isAgg5
  z5 := Tryz.sizeOf5
  v5 := Tryz.zeroValue5
  t37 := Tryz.underlying25
  a37 := Tryz.isAgg25
  z37 := Tryz.sizeOf25
  v37 := Tryz.zeroValue25 }
open Go.RowKit Go.Lib in
theorem Tryz.bytes_IndexByte_at (a : Addr) (n c : Nat) (xs : List Int) (cv : Int) (w : World) (hx : xs.length = n) (hc : ∀ i, i < n → w.cell? (a.add i) = some (.int .u8 (xs.getD i 0))) :
    Calls Tryz.prog 168 #[.slice (some a) n c, .int .u8 cv] w fun e w' => e = .returned (.int .i64 (Lib.indexByte (Lib.bytesOf xs) cv.toNat.toUInt8)) ∧ w' = w := Any.bytes_IndexByte_at Tryz.lays187 a n c xs cv w hx hc
def Tryz.laysM185_ren : Go.Shelf.Ren := ⟨fun | 185 => 170 | 187 => 168 | 115 => 183 | 253 => 184 | 224 => 185 | 254 => 186 | 255 => 179 | 291 => 195 | n => n, fun | 37 => 25 | 3 => 3 | 4 => 4 | 0 => 0 | 5 => 5 | 46 => 203 | 9 => 9 | 146 => 206 | 51 => 60 | n => n, fun | 1 => 0 | n => n⟩
theorem Tryz.laysM185 : Go.Proofs.LaysM.n185 Tryz.prog Tryz.laysM185_ren := {
  mixed := by kernel_rfl
  f115 := Tryz.func183.trans (congrArg some (by kernel_rfl))
  f185 := Tryz.func170.trans (congrArg some (by kernel_rfl))
  f187 := Tryz.func168.trans (congrArg some (by kernel_rfl))
  f224 := Tryz.func185.trans (congrArg some (by kernel_rfl))
  f253 := Tryz.func184.trans (congrArg some (by kernel_rfl))
  f254 := Tryz.func186.trans (congrArg some (by kernel_rfl))
  f255 := Tryz.func179.trans (congrArg some (by kernel_rfl))
  f291 := Tryz.func195.trans (congrArg some (by kernel_rfl))
  t0 := Tryz.underlying0
  a0 := Tryz.isAgg0
  z0 := Tryz.sizeOf0
  v0 := Tryz.zeroValue0
  t3 := Tryz.underlying3
  a3 := Tryz.isAgg3
  z3 := Tryz.sizeOf3
  v3 := Tryz.zeroValue3
  t4 := Tryz.underlying4
  a4 := Tryz.isAgg4
  z4 := Tryz.sizeOf4
  v4 := Tryz.zeroValue4
  t5 := Tryz.underlying5
  a5 := Tryz.isAgg5
  z5 := Tryz.sizeOf5
  v5 := Tryz.zeroValue5
  t9 := Tryz.underlying9
  a9 := Tryz.isAgg9
  z9 := Tryz.sizeOf9
  v9 := Tryz.zeroValue9
  t37 := Tryz.underlying25
  a37 := Tryz.isAgg25
  z37 := Tryz.sizeOf25
  v37 := Tryz.zeroValue25
  t46 := Tryz.underlying203
  a46 := Tryz.isAgg203
  z46 := Tryz.sizeOf203
  v46 := Tryz.zeroValue203
  t51 := Tryz.underlying60
  a51 := Tryz.isAgg60
  z51 := Tryz.sizeOf60
  v51 := Tryz.zeroValue60
  t146 := Tryz.underlying206
  a146 := Tryz.isAgg206
  z146 := Tryz.sizeOf206
  v146 := Tryz.zeroValue206
  g1 := by kernel_rfl
  i0 := by kernel_rfl
  i3 := by kernel_rfl
  i4 := by kernel_rfl
  i5 := by kernel_rfl
  i9 := by kernel_rfl
  i37 := by kernel_rfl
  i46 := by kernel_rfl
  i51 := by kernel_rfl
  i146 := by kernel_rfl
  m1 := by kernel_rfl
  s1_3 := fun w h => Go.Proofs.cell_of_shapedOpen_int (zero := #[.int .i64 0]) (t := 3) h (of_decide_eq_true (by kernel_rfl)) (by kernel_rfl) rfl (by kernel_rfl) (by kernel_rfl) Tryz.underlying3 }
open Go.Proofs Go.RowKit Go.Lib in
theorem Tryz.bytes_Index_at_shaped (a1 a2 : Addr) (n c1 k c2 : Nat) (xs ys : List Int) (w : World) (hx : xs.length = n) (hy : ys.length = k) (hr1 : ∀ x ∈ xs, 0 ≤ x ∧ x < 256) (hr2 : ∀ y ∈ ys, 0 ≤ y ∧ y < 256) (hc1 : ∀ i, i < n → w.cell? (a1.add i) = some (.int .u8 (xs.getD i 0))) (hc2 : ∀ i, i < k → w.cell? (a2.add i) = some (.int .u8 (ys.getD i 0))) (hcap : n ≤ c1) (hs : n < 4294967281) (hk : k ≤ 9223372036854775807) (h : w.ShapedOpen Tryz.prog) :
    Calls Tryz.prog 170 #[.slice (some a1) n c1, .slice (some a2) k c2] w fun e w' => e = .returned (.int .i64 (Lib.index (Lib.bytesOf xs) (Lib.bytesOf ys))) ∧ ∃ q, w' = w.drewN q := Any.bytes_Index_at_shaped Tryz.laysM185 a1 a2 n c1 k c2 xs ys w hx hy hr1 hr2 hc1 hc2 hcap hs hk h
def Tryz.laysSlK4_ren : Go.Shelf.Ren := ⟨fun | 4 => 86 | n => n, fun | 22 => 25 | 4 => 4 | 5 => 5 | n => n, fun | n => n⟩
theorem Tryz.laysSlK4 : Go.Proofs.SlLaysK.n4 Tryz.prog Tryz.laysSlK4_ren := {
  mixed := by kernel_rfl
  f4 := Tryz.func86.trans (congrArg some (by kernel_rfl))
  t4 := Tryz.underlying4
  a4 := Tryz.isAgg4
  z4 := Tryz.sizeOf4
  v4 := Tryz.zeroValue4
  t22 := Tryz.underlying25
  a22 := Tryz.isAgg25
  z22 := Tryz.sizeOf25
  v22 := Tryz.zeroValue25
  t5 := Tryz.underlying5
  i5 := by kernel_rfl }
open Go.RowKit Go.Lib in
theorem Tryz.bytes_Clone_at (a : Addr) (n c : Nat) (xs : List Int) (w : World) (hx : xs.length = n) (hbig : n ≤ 140737488355328) (hc : ∀ i, i < n → w.cell? (a.add i) = some (.int .u8 (xs.getD i 0))) :
    Calls Tryz.prog 86 #[.slice (some a) n c] w fun e w' => ∃ v', e = .returned v' ∧ w'.ownsRow w.heap.size 5 1 v' n (xs.map (Value.int .u8)) ∧ v' ≠ .slice none 0 0 ∧ Below w.heap.size w w' := Any.bytes_Clone_at Tryz.laysSlK4 a n c xs w hx hbig hc
open Go.RowKit Go.Lib in
theorem Tryz.bytes_Clone_nil (n c : Nat) (w : World) :
    Calls Tryz.prog 86 #[.slice none n c] w fun e w' => e = .returned (.slice none 0 0) ∧ w' = w := Any.bytes_Clone_nil Tryz.laysSlK4 n c w
def Tryz.laysSlT4_ren : Go.Shelf.Ren := ⟨fun | 4 => 152 | 5 => 170 | 6 => 168 | 7 => 183 | 8 => 184 | 9 => 185 | 10 => 186 | 11 => 179 | 12 => 195 | n => n, fun | 22 => 25 | 4 => 4 | 3 => 3 | 0 => 0 | 5 => 5 | 29 => 203 | 9 => 9 | 31 => 206 | 30 => 60 | n => n, fun | 0 => 0 | n => n⟩
theorem Tryz.laysSlT4 : Go.Proofs.SlLaysT.n4 Tryz.prog Tryz.laysSlT4_ren := {
  mixed := by kernel_rfl
  f4 := Tryz.func152.trans (congrArg some (by kernel_rfl))
  f5 := Tryz.func170.trans (congrArg some (by kernel_rfl))
  f6 := Tryz.func168.trans (congrArg some (by kernel_rfl))
  f7 := Tryz.func183.trans (congrArg some (by kernel_rfl))
  f8 := Tryz.func184.trans (congrArg some (by kernel_rfl))
  f9 := Tryz.func185.trans (congrArg some (by kernel_rfl))
  f10 := Tryz.func186.trans (congrArg some (by kernel_rfl))
  f11 := Tryz.func179.trans (congrArg some (by kernel_rfl))
  f12 := Tryz.func195.trans (congrArg some (by kernel_rfl))
  t0 := Tryz.underlying0
  a0 := Tryz.isAgg0
  z0 := Tryz.sizeOf0
  v0 := Tryz.zeroValue0
  t3 := Tryz.underlying3
  a3 := Tryz.isAgg3
  z3 := Tryz.sizeOf3
  v3 := Tryz.zeroValue3
  t4 := Tryz.underlying4
  a4 := Tryz.isAgg4
  z4 := Tryz.sizeOf4
  v4 := Tryz.zeroValue4
  t5 := Tryz.underlying5
  a5 := Tryz.isAgg5
  z5 := Tryz.sizeOf5
  v5 := Tryz.zeroValue5
  t9 := Tryz.underlying9
  a9 := Tryz.isAgg9
  z9 := Tryz.sizeOf9
  v9 := Tryz.zeroValue9
  t22 := Tryz.underlying25
  a22 := Tryz.isAgg25
  z22 := Tryz.sizeOf25
  v22 := Tryz.zeroValue25
  t29 := Tryz.underlying203
  a29 := Tryz.isAgg203
  z29 := Tryz.sizeOf203
  v29 := Tryz.zeroValue203
  t30 := Tryz.underlying60
  a30 := Tryz.isAgg60
  z30 := Tryz.sizeOf60
  v30 := Tryz.zeroValue60
  t31 := Tryz.underlying206
  a31 := Tryz.isAgg206
  z31 := Tryz.sizeOf206
  v31 := Tryz.zeroValue206
  g0 := by kernel_rfl }
theorem Tryz.bytes_Cut_of (p1 p2 : Option Addr) (n c1 k c2 : Nat) (i : Int) (w : World) (hcap : n ≤ c1) (hlo : -1 ≤ i) (hroom : 0 ≤ i → i + k ≤ n) (hn : n ≤ 4611686018427387904) (hidx : Calls Tryz.prog 170 #[.slice p1 n c1, .slice p2 k c2] w fun e w' => e = .returned (.int .i64 i) ∧ ∃ q, w' = w.drewN q) :
    Calls Tryz.prog 152 #[.slice p1 n c1, .slice p2 k c2] w fun e w' => e = .returned (Lib.cutV p1 n c1 k i) ∧ ∃ q, w' = w.drewN q := Any.bytes_Cut_of Tryz.laysSlT4 p1 p2 n c1 k c2 i w hcap hlo hroom hn hidx
theorem Tryz.bytes_IndexByte_nil (cv : Int) (w : World) :
    Calls Tryz.prog 168 #[.slice none 0 0, .int .u8 cv] w fun e w' => e = .returned (.int .i64 (-1)) ∧ w' = w := Any.bytes_IndexByte_nil Tryz.lays187 cv w
end Go.Proofs

