/- Contracts of library functions at this translation: laid by the kit's one command in its plain mode; the remarks struck. -/
import Derived.Shelf.Strings.Builder1
import Derived.Shelf.Strings.Builder2
import Derived.Shelf.Strings.OnBuilder
import Derived.Shelf.Strings.Trim
import Derived.Shelf.Small.Utf8
import Derived.Shelf.Small.Strs
import Derived.Shelf.Small.Wraps
import Derived.Shelf.Strings.BuilderF
import Derived.Shelf.Strings.BuilderK
import Derived.Shelf.Strings.BuilderRune
import Derived.Shelf.Strings.Builder2Cap
import Derived.Shelf.Strconv.Itoa0
import Derived.Shelf.Strings.Search1
import Derived.Shelf.Strings.Search2
import Derived.Shelf.Strings.Search3
import Derived.Shelf.Strings.Cut
import Derived.Shelf.Strings.Count
import Derived.Shelf.LaysM
import Derived.Shelf.Strings.Shaped
import Derived.Shelf.Strings.LastIndex
import Derived.Shelf.Strings.LastIndexAll
import Derived.Shelf.GgClosure.StringsIndexFunc
import Derived.Ground.GgwProg
import Derived.Shelf.GgClosure.StringsIndexFuncTop
import Derived.Shelf.GgClosure.StringsRunes
import Derived.Shelf.Strings.Prefix
import Derived.Shelf.Strings.Split
import Derived.Shelf.Strings.Replace
import Derived.Shelf.Strings.Fold
import Derived.Shelf.Strings.SplitShaped
import Derived.Shelf.Unicode.Latin
import Derived.Shelf.Strings.Runes
import Derived.Shelf.Strings.IndexAny
import Derived.Shelf.Strings.AsciiSet
import Derived.Shelf.Strings.IndexAnyAll
import Derived.Shelf.Unicode.DecodeSlow
import Derived.Shelf.Unicode.DecodeAny
import Derived.Shelf.Unicode.DecodeLast
import Derived.Shelf.Unicode.CaseLookup
import Derived.Shelf.Unicode.CaseConvert
import Derived.Shelf.Unicode.CaseTo
import Derived.Shelf.Unicode.CaseLaid
import Derived.Shelf.Strings.MapAny
import Derived.Shelf.Strings.FuncGrows
import Derived.Shelf.Strings.BuilderCap
import Derived.Shelf.Strings.MapGrows
import Derived.Shelf.Slices.Turned
import Derived.Shelf.Slices.Equal
import Derived.Shelf.Slices.Empties2
import Derived.Test.YtdhmmepcnladcaaDoorProg
namespace Go.Proofs
open Go.Shelf
def Tryd.lays169_ren : Go.Shelf.Ren := ⟨fun | 169 => 145 | n => n, fun | 70 => 140 | 9 => 9 | 0 => 0 | 72 => 142 | 37 => 22 | 127 => 175 | 3 => 3 | 5 => 5 | n => n, fun | n => n⟩
theorem Tryd.lays169 : Go.Proofs.Lays.n169 Tryd.prog Tryd.lays169_ren := {
  mixed := by kernel_rfl
  f169 := Tryd.func145.trans (congrArg some (by kernel_rfl))
  t0 := Tryd.underlying0
  a0 := Tryd.isAgg0
  z0 := Tryd.sizeOf0
  v0 := Tryd.zeroValue0
  t3 := Tryd.underlying3
  a3 := Tryd.isAgg3
  z3 := Tryd.sizeOf3
  v3 := Tryd.zeroValue3
  t9 := Tryd.underlying9
  a9 := Tryd.isAgg9
  z9 := Tryd.sizeOf9
  v9 := Tryd.zeroValue9
  t37 := Tryd.underlying22
  a37 := Tryd.isAgg22
  z37 := Tryd.sizeOf22
  v37 := Tryd.zeroValue22
  t70 := Tryd.underlying140
  a70 := Tryd.isAgg140
  z70 := Tryd.sizeOf140
  v70 := Tryd.zeroValue140
  t72 := Tryd.underlying142
  a72 := Tryd.isAgg142
  z72 := Tryd.sizeOf142
  v72 := Tryd.zeroValue142
  t127 := Tryd.underlying175
  a127 := Tryd.isAgg175
  z127 := Tryd.sizeOf175
  v127 := Tryd.zeroValue175 }
theorem Tryd.Builder_Extra_169 : Builder.Extra Tryd.prog Tryd.lays169_ren := {
  sizeBuilder := by kernel_rfl
  liesBuilder := by kernel_rfl
  t5 := Tryd.underlying5
  a5 := Tryd.isAgg5
  z5 := Tryd.sizeOf5
  v5 := Tryd.zeroValue5
  infoByte := by kernel_rfl
  cellsByte := by kernel_rfl
  sizeByte := by kernel_rfl
  neB5 := by decide }
open Go.RowKit in
theorem Tryd.Builder_String (B b : Nat) (l : List UInt8) (w : World) (h : Lib.IsBuilder 142 5 B b (Lib.byteCells l) w) (h0 : l ≠ []) :
    Calls Tryd.prog 145 #[.pointer (some ⟨b, 0, none⟩)] w fun e w' => e = .returned (.string ⟨l.toArray⟩) ∧ Below B w w' := Any.Builder_String Tryd.lays169 Tryd.Builder_Extra_169 B b l w h h0
open Go.RowKit in
theorem Tryd.Builder_String_empty (B b : Nat) (w : World) (h : Lib.IsBuilder 142 5 B b [] w) (hBw : B ≤ w.heap.size) :
    Calls Tryd.prog 145 #[.pointer (some ⟨b, 0, none⟩)] w fun e w' => e = .returned (.string ⟨#[]⟩) ∧ Below B w w' := Any.Builder_String_empty Tryd.lays169 Tryd.Builder_Extra_169 B b w h hBw
open Go.RowKit in
theorem Tryd.Builder_String_any (B b : Nat) (l : List UInt8) (w : World) (h : Lib.IsBuilder 142 5 B b (Lib.byteCells l) w) (hBw : B ≤ w.heap.size) :
    Calls Tryd.prog 145 #[.pointer (some ⟨b, 0, none⟩)] w fun e w' => e = .returned (.string ⟨l.toArray⟩) ∧ Below B w w' := Any.Builder_String_any Tryd.lays169 Tryd.Builder_Extra_169 B b l w h hBw
def Tryd.lays241_ren : Go.Shelf.Ren := ⟨fun | 241 => 197 | 277 => 225 | n => n, fun | 70 => 140 | 3 => 3 | 0 => 0 | 72 => 142 | 37 => 22 | 5 => 5 | n => n, fun | n => n⟩
theorem Tryd.lays241 : Go.Proofs.Lays.n241 Tryd.prog Tryd.lays241_ren := {
  mixed := by kernel_rfl
  f241 := Tryd.func197.trans (congrArg some (by kernel_rfl))
  f277 := Tryd.func225.trans (congrArg some (by kernel_rfl))
  t0 := Tryd.underlying0
  a0 := Tryd.isAgg0
  z0 := Tryd.sizeOf0
  v0 := Tryd.zeroValue0
  t3 := Tryd.underlying3
  a3 := Tryd.isAgg3
  z3 := Tryd.sizeOf3
  v3 := Tryd.zeroValue3
  t37 := Tryd.underlying22
  a37 := Tryd.isAgg22
  z37 := Tryd.sizeOf22
  v37 := Tryd.zeroValue22
  t70 := Tryd.underlying140
  a70 := Tryd.isAgg140
  z70 := Tryd.sizeOf140
  v70 := Tryd.zeroValue140
  t72 := Tryd.underlying142
  a72 := Tryd.isAgg142
  z72 := Tryd.sizeOf142
  v72 := Tryd.zeroValue142 }
theorem Tryd.Builder_Extra_241 : Builder.Extra Tryd.prog Tryd.lays241_ren := {
  sizeBuilder := by kernel_rfl
  liesBuilder := by kernel_rfl
  t5 := Tryd.underlying5
  a5 := Tryd.isAgg5
  z5 := Tryd.sizeOf5
  v5 := Tryd.zeroValue5
  infoByte := by kernel_rfl
  cellsByte := by kernel_rfl
  sizeByte := by kernel_rfl
  neB5 := by decide }
open Go.RowKit in
theorem Tryd.Builder_grow_fresh (B b n : Nat) (w : World) (hB : B ≤ b) (hbk : w.heap[b]? = some (.cells #[.pointer (some ⟨b, 0, none⟩), .slice none 0 0] 142 (0, 0))) (hBw : B ≤ w.heap.size) (hn : n ≤ 281474976710656) :
    Calls Tryd.prog 197 #[.pointer (some ⟨b, 0, none⟩), .int .i64 n] w fun e w' => e = .returned (.tuple #[]) ∧ (Lib.BuilderAt 142 5 B b (.pointer (some ⟨b, 0, none⟩)) [] w' ∧ Below B w w') := Any.Builder_grow_fresh Tryd.lays241 Tryd.Builder_Extra_241 B b n w hB hbk hBw hn
def Tryd.lays165_ren : Go.Shelf.Ren := ⟨fun | 165 => 142 | 240 => 196 | 241 => 197 | 276 => 224 | 277 => 225 | n => n, fun | 70 => 140 | 3 => 3 | 0 => 0 | 4 => 4 | 9 => 9 | 20 => 20 | 72 => 142 | 37 => 22 | 164 => 198 | 5 => 5 | n => n, fun | n => n⟩
theorem Tryd.lays165 : Go.Proofs.Lays.n165 Tryd.prog Tryd.lays165_ren := {
  mixed := by kernel_rfl
  f165 := Tryd.func142.trans (congrArg some (by kernel_rfl))
  f240 := Tryd.func196.trans (congrArg some (by kernel_rfl))
  f241 := Tryd.func197.trans (congrArg some (by kernel_rfl))
  f276 := Tryd.func224.trans (congrArg some (by kernel_rfl))
  f277 := Tryd.func225.trans (congrArg some (by kernel_rfl))
  t0 := Tryd.underlying0
  a0 := Tryd.isAgg0
  z0 := Tryd.sizeOf0
  v0 := Tryd.zeroValue0
  t3 := Tryd.underlying3
  a3 := Tryd.isAgg3
  z3 := Tryd.sizeOf3
  v3 := Tryd.zeroValue3
  t4 := Tryd.underlying4
  a4 := Tryd.isAgg4
  z4 := Tryd.sizeOf4
  v4 := Tryd.zeroValue4
  t9 := Tryd.underlying9
  a9 := Tryd.isAgg9
  z9 := Tryd.sizeOf9
  v9 := Tryd.zeroValue9
  t20 := Tryd.underlying20
  a20 := Tryd.isAgg20
  z20 := Tryd.sizeOf20
  v20 := Tryd.zeroValue20
  t37 := Tryd.underlying22
  a37 := Tryd.isAgg22
  z37 := Tryd.sizeOf22
  v37 := Tryd.zeroValue22
  t70 := Tryd.underlying140
  a70 := Tryd.isAgg140
  z70 := Tryd.sizeOf140
  v70 := Tryd.zeroValue140
  t72 := Tryd.underlying142
  a72 := Tryd.isAgg142
  z72 := Tryd.sizeOf142
  v72 := Tryd.zeroValue142
  t164 := Tryd.underlying198
  a164 := Tryd.isAgg198
  z164 := Tryd.sizeOf198
  v164 := Tryd.zeroValue198 }
theorem Tryd.Builder_Extra_165 : Builder.Extra Tryd.prog Tryd.lays165_ren := {
  sizeBuilder := by kernel_rfl
  liesBuilder := by kernel_rfl
  t5 := Tryd.underlying5
  a5 := Tryd.isAgg5
  z5 := Tryd.sizeOf5
  v5 := Tryd.zeroValue5
  infoByte := by kernel_rfl
  cellsByte := by kernel_rfl
  sizeByte := by kernel_rfl
  neB5 := by decide }
open Go.RowKit in
theorem Tryd.Builder_Grow_fresh (B b n : Nat) (w : World) (hB : B ≤ b) (hbk : w.heap[b]? = some (.cells #[.pointer none, .slice none 0 0] 142 (0, 0))) (hBw : B ≤ w.heap.size) (hn : n ≤ 281474976710656) :
    Calls Tryd.prog 142 #[.pointer (some ⟨b, 0, none⟩), .int .i64 n] w fun e w' => e = .returned (.tuple #[]) ∧ (Lib.BuilderAt 142 5 B b (.pointer (some ⟨b, 0, none⟩)) [] w' ∧ Below B w w') := Any.Builder_Grow_fresh Tryd.lays165 Tryd.Builder_Extra_165 B b n w hB hbk hBw hn
def Tryd.lays158_ren : Go.Shelf.Ren := ⟨fun | 158 => 64 | 165 => 142 | 166 => 143 | 167 => 144 | 169 => 145 | 230 => 146 | 203 => 147 | 240 => 196 | 241 => 197 | 197 => 149 | 118 => 198 | 168 => 199 | 270 => 200 | 262 => 201 | 276 => 224 | 277 => 225 | 260 => 202 | 242 => 226 | 313 => 227 | 278 => 242 | 274 => 203 | 275 => 204 | n => n, fun | 9 => 9 | 4 => 4 | 3 => 3 | 5 => 5 | 72 => 142 | 0 => 0 | 76 => 146 | 75 => 145 | 107 => 151 | 70 => 140 | 20 => 20 | 37 => 22 | 127 => 175 | 21 => 21 | 105 => 152 | 164 => 198 | 162 => 187 | 203 => 202 | 119 => 204 | 46 => 155 | 139 => 207 | 138 => 206 | 51 => 193 | 160 => 185 | 208 => 211 | 206 => 209 | 80 => 149 | n => n, fun | 13 => 2 | 3 => 4 | 4 => 5 | n => n⟩
theorem Tryd.lays158 : Go.Proofs.Lays.n158 Tryd.prog Tryd.lays158_ren := {
  mixed := by kernel_rfl
  f118 := Tryd.func198.trans (congrArg some (by kernel_rfl))
  f158 := Tryd.func64.trans (congrArg some (by kernel_rfl))
  f165 := Tryd.func142.trans (congrArg some (by kernel_rfl))
  f166 := Tryd.func143.trans (congrArg some (by kernel_rfl))
  f167 := Tryd.func144.trans (congrArg some (by kernel_rfl))
  f168 := Tryd.func199.trans (congrArg some (by kernel_rfl))
  f169 := Tryd.func145.trans (congrArg some (by kernel_rfl))
  f197 := Tryd.func149.trans (congrArg some (by kernel_rfl))
  f203 := Tryd.func147.trans (congrArg some (by kernel_rfl))
  f230 := Tryd.func146.trans (congrArg some (by kernel_rfl))
  f240 := Tryd.func196.trans (congrArg some (by kernel_rfl))
  f241 := Tryd.func197.trans (congrArg some (by kernel_rfl))
  f242 := Tryd.func226.trans (congrArg some (by kernel_rfl))
  f260 := Tryd.func202.trans (congrArg some (by kernel_rfl))
  f262 := Tryd.func201.trans (congrArg some (by kernel_rfl))
  f270 := Tryd.func200.trans (congrArg some (by kernel_rfl))
  f274 := Tryd.func203.trans (congrArg some (by kernel_rfl))
  f275 := Tryd.func204.trans (congrArg some (by kernel_rfl))
  f276 := Tryd.func224.trans (congrArg some (by kernel_rfl))
  f277 := Tryd.func225.trans (congrArg some (by kernel_rfl))
  f278 := Tryd.func242.trans (congrArg some (by kernel_rfl))
  f313 := Tryd.func227.trans (congrArg some (by kernel_rfl))
  t0 := Tryd.underlying0
  a0 := Tryd.isAgg0
  z0 := Tryd.sizeOf0
  v0 := Tryd.zeroValue0
  t3 := Tryd.underlying3
  a3 := Tryd.isAgg3
  z3 := Tryd.sizeOf3
  v3 := Tryd.zeroValue3
  t4 := Tryd.underlying4
  a4 := Tryd.isAgg4
  z4 := Tryd.sizeOf4
  v4 := Tryd.zeroValue4
  t5 := Tryd.underlying5
  a5 := Tryd.isAgg5
  z5 := Tryd.sizeOf5
  v5 := Tryd.zeroValue5
  t9 := Tryd.underlying9
  a9 := Tryd.isAgg9
  z9 := Tryd.sizeOf9
  v9 := Tryd.zeroValue9
  t20 := Tryd.underlying20
  a20 := Tryd.isAgg20
  z20 := Tryd.sizeOf20
  v20 := Tryd.zeroValue20
  t21 := Tryd.underlying21
  a21 := Tryd.isAgg21
  z21 := Tryd.sizeOf21
  v21 := Tryd.zeroValue21
  t37 := Tryd.underlying22
  a37 := Tryd.isAgg22
  z37 := Tryd.sizeOf22
  v37 := Tryd.zeroValue22
  t46 := Tryd.underlying155
  a46 := Tryd.isAgg155
  z46 := Tryd.sizeOf155
  v46 := Tryd.zeroValue155
  t51 := Tryd.underlying193
  a51 := Tryd.isAgg193
  z51 := Tryd.sizeOf193
  v51 := Tryd.zeroValue193
  t70 := Tryd.underlying140
  a70 := Tryd.isAgg140
  z70 := Tryd.sizeOf140
  v70 := Tryd.zeroValue140
  t72 := Tryd.underlying142
  a72 := Tryd.isAgg142
  z72 := Tryd.sizeOf142
  v72 := Tryd.zeroValue142
  t75 := Tryd.underlying145
  a75 := Tryd.isAgg145
  z75 := Tryd.sizeOf145
  v75 := Tryd.zeroValue145
  t76 := Tryd.underlying146
  a76 := Tryd.isAgg146
  z76 := Tryd.sizeOf146
  v76 := Tryd.zeroValue146
  t105 := Tryd.underlying152
  a105 := Tryd.isAgg152
  z105 := Tryd.sizeOf152
  v105 := Tryd.zeroValue152
  t107 := Tryd.underlying151
  a107 := Tryd.isAgg151
  z107 := Tryd.sizeOf151
  v107 := Tryd.zeroValue151
  t119 := Tryd.underlying204
  a119 := Tryd.isAgg204
  z119 := Tryd.sizeOf204
  t127 := Tryd.underlying175
  a127 := Tryd.isAgg175
  z127 := Tryd.sizeOf175
  v127 := Tryd.zeroValue175
  t138 := Tryd.underlying206
  a138 := Tryd.isAgg206
  z138 := Tryd.sizeOf206
  v138 := Tryd.zeroValue206
  t139 := Tryd.underlying207
  a139 := Tryd.isAgg207
  z139 := Tryd.sizeOf207
  v139 := Tryd.zeroValue207
  t160 := Tryd.underlying185
  a160 := Tryd.isAgg185
  z160 := Tryd.sizeOf185
  v160 := Tryd.zeroValue185
  t162 := Tryd.underlying187
  a162 := Tryd.isAgg187
  z162 := Tryd.sizeOf187
  v162 := Tryd.zeroValue187
  t164 := Tryd.underlying198
  a164 := Tryd.isAgg198
  z164 := Tryd.sizeOf198
  v164 := Tryd.zeroValue198
  t203 := Tryd.underlying202
  a203 := Tryd.isAgg202
  z203 := Tryd.sizeOf202
  v203 := Tryd.zeroValue202
  t206 := Tryd.underlying209
  a206 := Tryd.isAgg209
  z206 := Tryd.sizeOf209
  v206 := Tryd.zeroValue209
  t208 := Tryd.underlying211
  a208 := Tryd.isAgg211
  z208 := Tryd.sizeOf211
  v208 := Tryd.zeroValue211
  g3 := by kernel_rfl
  g4 := by kernel_rfl
  g13 := by kernel_rfl }
theorem Tryd.Builder_Extra_158 : Builder.Extra Tryd.prog Tryd.lays158_ren := {
  sizeBuilder := by kernel_rfl
  liesBuilder := by kernel_rfl
  t5 := Tryd.underlying5
  a5 := Tryd.isAgg5
  z5 := Tryd.sizeOf5
  v5 := Tryd.zeroValue5
  infoByte := by kernel_rfl
  cellsByte := by kernel_rfl
  sizeByte := by kernel_rfl
  neB5 := by decide }
open Go.RowKit in
theorem Tryd.strings_ToUpper_ascii (s : ByteArray) (w : World) (hs : s.size ≤ 140737488355328) (hascii : ∀ (j : Nat) (b : UInt8), s.data.toList[j]? = some b → b.toNat < 128) :
    Calls Tryd.prog 64 #[.string s] w fun e w' => e = .returned (.string ⟨(Lib.toUpperA s.data.toList).toArray⟩) ∧ Below w.heap.size w w' := Any.strings_ToUpper_ascii Tryd.lays158 Tryd.Builder_Extra_158 s w hs hascii
def Tryd.lays159_ren : Go.Shelf.Ren := ⟨fun | 159 => 65 | 165 => 142 | 166 => 143 | 167 => 144 | 169 => 145 | 230 => 146 | 204 => 148 | 240 => 196 | 241 => 197 | 197 => 149 | 118 => 198 | 168 => 199 | 270 => 200 | 262 => 201 | 276 => 224 | 277 => 225 | 260 => 202 | 242 => 226 | 313 => 227 | 278 => 242 | 274 => 203 | 275 => 204 | n => n, fun | 9 => 9 | 4 => 4 | 3 => 3 | 5 => 5 | 72 => 142 | 0 => 0 | 76 => 146 | 75 => 145 | 107 => 151 | 70 => 140 | 20 => 20 | 37 => 22 | 127 => 175 | 21 => 21 | 105 => 152 | 164 => 198 | 162 => 187 | 203 => 202 | 119 => 204 | 46 => 155 | 139 => 207 | 138 => 206 | 51 => 193 | 160 => 185 | 208 => 211 | 206 => 209 | 80 => 149 | n => n, fun | 13 => 2 | 3 => 4 | 4 => 5 | n => n⟩
theorem Tryd.lays159 : Go.Proofs.Lays.n159 Tryd.prog Tryd.lays159_ren := {
  mixed := by kernel_rfl
  f118 := Tryd.func198.trans (congrArg some (by kernel_rfl))
  f159 := Tryd.func65.trans (congrArg some (by kernel_rfl))
  f165 := Tryd.func142.trans (congrArg some (by kernel_rfl))
  f166 := Tryd.func143.trans (congrArg some (by kernel_rfl))
  f167 := Tryd.func144.trans (congrArg some (by kernel_rfl))
  f168 := Tryd.func199.trans (congrArg some (by kernel_rfl))
  f169 := Tryd.func145.trans (congrArg some (by kernel_rfl))
  f197 := Tryd.func149.trans (congrArg some (by kernel_rfl))
  f204 := Tryd.func148.trans (congrArg some (by kernel_rfl))
  f230 := Tryd.func146.trans (congrArg some (by kernel_rfl))
  f240 := Tryd.func196.trans (congrArg some (by kernel_rfl))
  f241 := Tryd.func197.trans (congrArg some (by kernel_rfl))
  f242 := Tryd.func226.trans (congrArg some (by kernel_rfl))
  f260 := Tryd.func202.trans (congrArg some (by kernel_rfl))
  f262 := Tryd.func201.trans (congrArg some (by kernel_rfl))
  f270 := Tryd.func200.trans (congrArg some (by kernel_rfl))
  f274 := Tryd.func203.trans (congrArg some (by kernel_rfl))
  f275 := Tryd.func204.trans (congrArg some (by kernel_rfl))
  f276 := Tryd.func224.trans (congrArg some (by kernel_rfl))
  f277 := Tryd.func225.trans (congrArg some (by kernel_rfl))
  f278 := Tryd.func242.trans (congrArg some (by kernel_rfl))
  f313 := Tryd.func227.trans (congrArg some (by kernel_rfl))
  t0 := Tryd.underlying0
  a0 := Tryd.isAgg0
  z0 := Tryd.sizeOf0
  v0 := Tryd.zeroValue0
  t3 := Tryd.underlying3
  a3 := Tryd.isAgg3
  z3 := Tryd.sizeOf3
  v3 := Tryd.zeroValue3
  t4 := Tryd.underlying4
  a4 := Tryd.isAgg4
  z4 := Tryd.sizeOf4
  v4 := Tryd.zeroValue4
  t5 := Tryd.underlying5
  a5 := Tryd.isAgg5
  z5 := Tryd.sizeOf5
  v5 := Tryd.zeroValue5
  t9 := Tryd.underlying9
  a9 := Tryd.isAgg9
  z9 := Tryd.sizeOf9
  v9 := Tryd.zeroValue9
  t20 := Tryd.underlying20
  a20 := Tryd.isAgg20
  z20 := Tryd.sizeOf20
  v20 := Tryd.zeroValue20
  t21 := Tryd.underlying21
  a21 := Tryd.isAgg21
  z21 := Tryd.sizeOf21
  v21 := Tryd.zeroValue21
  t37 := Tryd.underlying22
  a37 := Tryd.isAgg22
  z37 := Tryd.sizeOf22
  v37 := Tryd.zeroValue22
  t46 := Tryd.underlying155
  a46 := Tryd.isAgg155
  z46 := Tryd.sizeOf155
  v46 := Tryd.zeroValue155
  t51 := Tryd.underlying193
  a51 := Tryd.isAgg193
  z51 := Tryd.sizeOf193
  v51 := Tryd.zeroValue193
  t70 := Tryd.underlying140
  a70 := Tryd.isAgg140
  z70 := Tryd.sizeOf140
  v70 := Tryd.zeroValue140
  t72 := Tryd.underlying142
  a72 := Tryd.isAgg142
  z72 := Tryd.sizeOf142
  v72 := Tryd.zeroValue142
  t75 := Tryd.underlying145
  a75 := Tryd.isAgg145
  z75 := Tryd.sizeOf145
  v75 := Tryd.zeroValue145
  t76 := Tryd.underlying146
  a76 := Tryd.isAgg146
  z76 := Tryd.sizeOf146
  v76 := Tryd.zeroValue146
  t105 := Tryd.underlying152
  a105 := Tryd.isAgg152
  z105 := Tryd.sizeOf152
  v105 := Tryd.zeroValue152
  t107 := Tryd.underlying151
  a107 := Tryd.isAgg151
  z107 := Tryd.sizeOf151
  v107 := Tryd.zeroValue151
  t119 := Tryd.underlying204
  a119 := Tryd.isAgg204
  z119 := Tryd.sizeOf204
  t127 := Tryd.underlying175
  a127 := Tryd.isAgg175
  z127 := Tryd.sizeOf175
  v127 := Tryd.zeroValue175
  t138 := Tryd.underlying206
  a138 := Tryd.isAgg206
  z138 := Tryd.sizeOf206
  v138 := Tryd.zeroValue206
  t139 := Tryd.underlying207
  a139 := Tryd.isAgg207
  z139 := Tryd.sizeOf207
  v139 := Tryd.zeroValue207
  t160 := Tryd.underlying185
  a160 := Tryd.isAgg185
  z160 := Tryd.sizeOf185
  v160 := Tryd.zeroValue185
  t162 := Tryd.underlying187
  a162 := Tryd.isAgg187
  z162 := Tryd.sizeOf187
  v162 := Tryd.zeroValue187
  t164 := Tryd.underlying198
  a164 := Tryd.isAgg198
  z164 := Tryd.sizeOf198
  v164 := Tryd.zeroValue198
  t203 := Tryd.underlying202
  a203 := Tryd.isAgg202
  z203 := Tryd.sizeOf202
  v203 := Tryd.zeroValue202
  t206 := Tryd.underlying209
  a206 := Tryd.isAgg209
  z206 := Tryd.sizeOf209
  v206 := Tryd.zeroValue209
  t208 := Tryd.underlying211
  a208 := Tryd.isAgg211
  z208 := Tryd.sizeOf211
  v208 := Tryd.zeroValue211
  g3 := by kernel_rfl
  g4 := by kernel_rfl
  g13 := by kernel_rfl }
theorem Tryd.Builder_Extra_159 : Builder.Extra Tryd.prog Tryd.lays159_ren := {
  sizeBuilder := by kernel_rfl
  liesBuilder := by kernel_rfl
  t5 := Tryd.underlying5
  a5 := Tryd.isAgg5
  z5 := Tryd.sizeOf5
  v5 := Tryd.zeroValue5
  infoByte := by kernel_rfl
  cellsByte := by kernel_rfl
  sizeByte := by kernel_rfl
  neB5 := by decide }
open Go.RowKit in
theorem Tryd.strings_ToLower_ascii (s : ByteArray) (w : World) (hs : s.size ≤ 140737488355328) (hascii : ∀ (j : Nat) (b : UInt8), s.data.toList[j]? = some b → b.toNat < 128) :
    Calls Tryd.prog 65 #[.string s] w fun e w' => e = .returned (.string ⟨(Lib.toLowerA s.data.toList).toArray⟩) ∧ Below w.heap.size w w' := Any.strings_ToLower_ascii Tryd.lays159 Tryd.Builder_Extra_159 s w hs hascii
def Tryd.lays156_ren : Go.Shelf.Ren := ⟨fun | 156 => 123 | 165 => 142 | 166 => 143 | 169 => 145 | 240 => 196 | 241 => 197 | 276 => 224 | 277 => 225 | n => n, fun | 31 => 41 | 9 => 9 | 3 => 3 | 4 => 4 | 0 => 0 | 20 => 20 | 72 => 142 | 76 => 146 | 70 => 140 | 37 => 22 | 75 => 145 | 127 => 175 | 164 => 198 | 5 => 5 | 80 => 149 | n => n, fun | n => n⟩
theorem Tryd.lays156 : Go.Proofs.Lays.n156 Tryd.prog Tryd.lays156_ren := {
  mixed := by kernel_rfl
  f156 := Tryd.func123.trans (congrArg some (by kernel_rfl))
  f165 := Tryd.func142.trans (congrArg some (by kernel_rfl))
  f166 := Tryd.func143.trans (congrArg some (by kernel_rfl))
  f169 := Tryd.func145.trans (congrArg some (by kernel_rfl))
  f240 := Tryd.func196.trans (congrArg some (by kernel_rfl))
  f241 := Tryd.func197.trans (congrArg some (by kernel_rfl))
  f276 := Tryd.func224.trans (congrArg some (by kernel_rfl))
  f277 := Tryd.func225.trans (congrArg some (by kernel_rfl))
  t0 := Tryd.underlying0
  a0 := Tryd.isAgg0
  z0 := Tryd.sizeOf0
  v0 := Tryd.zeroValue0
  t3 := Tryd.underlying3
  a3 := Tryd.isAgg3
  z3 := Tryd.sizeOf3
  v3 := Tryd.zeroValue3
  t4 := Tryd.underlying4
  a4 := Tryd.isAgg4
  z4 := Tryd.sizeOf4
  v4 := Tryd.zeroValue4
  t9 := Tryd.underlying9
  a9 := Tryd.isAgg9
  z9 := Tryd.sizeOf9
  v9 := Tryd.zeroValue9
  t20 := Tryd.underlying20
  a20 := Tryd.isAgg20
  z20 := Tryd.sizeOf20
  v20 := Tryd.zeroValue20
  t31 := Tryd.underlying41
  a31 := Tryd.isAgg41
  z31 := Tryd.sizeOf41
  v31 := Tryd.zeroValue41
  t37 := Tryd.underlying22
  a37 := Tryd.isAgg22
  z37 := Tryd.sizeOf22
  v37 := Tryd.zeroValue22
  t70 := Tryd.underlying140
  a70 := Tryd.isAgg140
  z70 := Tryd.sizeOf140
  v70 := Tryd.zeroValue140
  t72 := Tryd.underlying142
  a72 := Tryd.isAgg142
  z72 := Tryd.sizeOf142
  v72 := Tryd.zeroValue142
  t75 := Tryd.underlying145
  a75 := Tryd.isAgg145
  z75 := Tryd.sizeOf145
  v75 := Tryd.zeroValue145
  t76 := Tryd.underlying146
  a76 := Tryd.isAgg146
  z76 := Tryd.sizeOf146
  v76 := Tryd.zeroValue146
  t127 := Tryd.underlying175
  a127 := Tryd.isAgg175
  z127 := Tryd.sizeOf175
  v127 := Tryd.zeroValue175
  t164 := Tryd.underlying198
  a164 := Tryd.isAgg198
  z164 := Tryd.sizeOf198
  v164 := Tryd.zeroValue198 }
theorem Tryd.Builder_Extra_156 : Builder.Extra Tryd.prog Tryd.lays156_ren := {
  sizeBuilder := by kernel_rfl
  liesBuilder := by kernel_rfl
  t5 := Tryd.underlying5
  a5 := Tryd.isAgg5
  z5 := Tryd.sizeOf5
  v5 := Tryd.zeroValue5
  infoByte := by kernel_rfl
  cellsByte := by kernel_rfl
  sizeByte := by kernel_rfl
  neB5 := by decide }
open Go.RowKit in
theorem Tryd.strings_Join_none (a : Option Addr) (c : Nat) (sep : ByteArray) (w : World) :
    Calls Tryd.prog 123 #[.slice a 0 c, .string sep] w fun e w' => e = .returned (.string ⟨#[]⟩) ∧ w' = w := Any.strings_Join_none Tryd.lays156 Tryd.Builder_Extra_156 a c sep w
open Go.RowKit in
theorem Tryd.strings_Join (bk o c : Nat) (xs : List ByteArray) (sep : ByteArray) (w : World) (hcells : ∀ (j : Nat) x, xs[j]? = some x → w.cell? ⟨bk, o + j, none⟩ = some (.string x)) (hbk : bk < w.heap.size) (hN : xs.length ≤ 140737488355328) (hcap : xs.length ≤ c) (hlen : (Lib.join (xs.map (·.data.toList)) sep.data.toList).length ≤ 140737488355328) :
    Calls Tryd.prog 123 #[.slice (some ⟨bk, o, none⟩) xs.length c, .string sep] w fun e w' => e = .returned (.string ⟨(Lib.join (xs.map (·.data.toList)) sep.data.toList).toArray⟩) ∧ Below w.heap.size w w' := Any.strings_Join Tryd.lays156 Tryd.Builder_Extra_156 bk o c xs sep w hcells hbk hN hcap hlen
def Tryd.lays231_ren : Go.Shelf.Ren := ⟨fun | 231 => 166 | n => n, fun | 9 => 9 | 5 => 5 | 3 => 3 | 4 => 4 | n => n, fun | n => n⟩
theorem Tryd.lays231 : Go.Proofs.Lays.n231 Tryd.prog Tryd.lays231_ren := {
  mixed := by kernel_rfl
  f231 := Tryd.func166.trans (congrArg some (by kernel_rfl))
  t3 := Tryd.underlying3
  a3 := Tryd.isAgg3
  z3 := Tryd.sizeOf3
  v3 := Tryd.zeroValue3
  t4 := Tryd.underlying4
  a4 := Tryd.isAgg4
  z4 := Tryd.sizeOf4
  v4 := Tryd.zeroValue4
  t5 := Tryd.underlying5
  a5 := Tryd.isAgg5
  z5 := Tryd.sizeOf5
  v5 := Tryd.zeroValue5
  t9 := Tryd.underlying9
  a9 := Tryd.isAgg9
  z9 := Tryd.sizeOf9
  v9 := Tryd.zeroValue9 }
open Go.RowKit in
theorem Tryd.strings_trimLeftByte (s : ByteArray) (c : UInt8) (w : World) :
    Calls Tryd.prog 166 #[.string s, .int .u8 c.toNat] w fun e w' => e = .returned (.string ⟨(Lib.trimLeftB s.data.toList c).toArray⟩) ∧ w' = w := Any.strings_trimLeftByte Tryd.lays231 s c w
def Tryd.lays232_ren : Go.Shelf.Ren := ⟨fun | 232 => 96 | n => n, fun | 9 => 9 | 5 => 5 | 3 => 3 | 4 => 4 | n => n, fun | n => n⟩
theorem Tryd.lays232 : Go.Proofs.Lays.n232 Tryd.prog Tryd.lays232_ren := {
  mixed := by kernel_rfl
  f232 := Tryd.func96.trans (congrArg some (by kernel_rfl))
  t3 := Tryd.underlying3
  a3 := Tryd.isAgg3
  z3 := Tryd.sizeOf3
  v3 := Tryd.zeroValue3
  t4 := Tryd.underlying4
  a4 := Tryd.isAgg4
  z4 := Tryd.sizeOf4
  v4 := Tryd.zeroValue4
  t5 := Tryd.underlying5
  a5 := Tryd.isAgg5
  z5 := Tryd.sizeOf5
  v5 := Tryd.zeroValue5
  t9 := Tryd.underlying9
  a9 := Tryd.isAgg9
  z9 := Tryd.sizeOf9
  v9 := Tryd.zeroValue9 }
open Go.RowKit in
theorem Tryd.strings_trimRightByte (s : ByteArray) (c : UInt8) (w : World) (hs : s.size ≤ 9223372036854775807) :
    Calls Tryd.prog 96 #[.string s, .int .u8 c.toNat] w fun e w' => e = .returned (.string ⟨(Lib.trimRightB s.data.toList c).toArray⟩) ∧ w' = w := Any.strings_trimRightByte Tryd.lays232 s c w hs
def Tryd.lays161_ren : Go.Shelf.Ren := ⟨fun | 161 => 101 | 231 => 166 | 227 => 97 | 233 => 167 | 235 => 168 | 228 => 169 | 197 => 149 | 151 => 130 | 260 => 202 | 152 => 172 | 137 => 93 | 119 => 215 | 224 => 211 | 225 => 210 | 217 => 165 | 266 => 213 | n => n, fun | 9 => 9 | 4 => 4 | 3 => 3 | 5 => 5 | 117 => 109 | 116 => 108 | 0 => 0 | 124 => 112 | 105 => 152 | 21 => 21 | 119 => 204 | 46 => 155 | 139 => 207 | 138 => 206 | n => n, fun | 3 => 4 | 4 => 5 | n => n⟩
theorem Tryd.lays161 : Go.Proofs.Lays.n161 Tryd.prog Tryd.lays161_ren := {
  mixed := by kernel_rfl
  f119 := Tryd.func215.trans (congrArg some (by kernel_rfl))
  f137 := Tryd.func93.trans (congrArg some (by kernel_rfl))
  f151 := Tryd.func130.trans (congrArg some (by kernel_rfl))
  f152 := Tryd.func172.trans (congrArg some (by kernel_rfl))
  f161 := Tryd.func101.trans (congrArg some (by kernel_rfl))
  f197 := Tryd.func149.trans (congrArg some (by kernel_rfl))
  f217 := Tryd.func165.trans (congrArg some (by kernel_rfl))
  f224 := Tryd.func211.trans (congrArg some (by kernel_rfl))
  f225 := Tryd.func210.trans (congrArg some (by kernel_rfl))
  f227 := Tryd.func97.trans (congrArg some (by kernel_rfl))
  f228 := Tryd.func169.trans (congrArg some (by kernel_rfl))
  f231 := Tryd.func166.trans (congrArg some (by kernel_rfl))
  f233 := Tryd.func167.trans (congrArg some (by kernel_rfl))
  f235 := Tryd.func168.trans (congrArg some (by kernel_rfl))
  f260 := Tryd.func202.trans (congrArg some (by kernel_rfl))
  f266 := Tryd.func213.trans (congrArg some (by kernel_rfl))
  t0 := Tryd.underlying0
  a0 := Tryd.isAgg0
  z0 := Tryd.sizeOf0
  v0 := Tryd.zeroValue0
  t3 := Tryd.underlying3
  a3 := Tryd.isAgg3
  z3 := Tryd.sizeOf3
  v3 := Tryd.zeroValue3
  t4 := Tryd.underlying4
  a4 := Tryd.isAgg4
  z4 := Tryd.sizeOf4
  v4 := Tryd.zeroValue4
  t5 := Tryd.underlying5
  a5 := Tryd.isAgg5
  z5 := Tryd.sizeOf5
  v5 := Tryd.zeroValue5
  t9 := Tryd.underlying9
  a9 := Tryd.isAgg9
  z9 := Tryd.sizeOf9
  v9 := Tryd.zeroValue9
  t21 := Tryd.underlying21
  a21 := Tryd.isAgg21
  z21 := Tryd.sizeOf21
  v21 := Tryd.zeroValue21
  t46 := Tryd.underlying155
  a46 := Tryd.isAgg155
  z46 := Tryd.sizeOf155
  v46 := Tryd.zeroValue155
  t105 := Tryd.underlying152
  a105 := Tryd.isAgg152
  z105 := Tryd.sizeOf152
  v105 := Tryd.zeroValue152
  t116 := Tryd.underlying108
  a116 := Tryd.isAgg108
  z116 := Tryd.sizeOf108
  t117 := Tryd.underlying109
  a117 := Tryd.isAgg109
  z117 := Tryd.sizeOf109
  v117 := Tryd.zeroValue109
  t119 := Tryd.underlying204
  a119 := Tryd.isAgg204
  z119 := Tryd.sizeOf204
  t124 := Tryd.underlying112
  a124 := Tryd.isAgg112
  z124 := Tryd.sizeOf112
  v124 := Tryd.zeroValue112
  t138 := Tryd.underlying206
  a138 := Tryd.isAgg206
  z138 := Tryd.sizeOf206
  v138 := Tryd.zeroValue206
  t139 := Tryd.underlying207
  a139 := Tryd.isAgg207
  z139 := Tryd.sizeOf207
  v139 := Tryd.zeroValue207
  g3 := by kernel_rfl
  g4 := by kernel_rfl }
open Go.RowKit in
theorem Tryd.strings_TrimLeft_one (s : ByteArray) (c : UInt8) (hc : c.toNat < 128) (w : World) :
    Calls Tryd.prog 101 #[.string s, .string ⟨#[c]⟩] w fun e w' => e = .returned (.string ⟨(Lib.trimLeftB s.data.toList c).toArray⟩) ∧ w' = w := Any.strings_TrimLeft_one Tryd.lays161 s c hc w
def Tryd.lays162_ren : Go.Shelf.Ren := ⟨fun | 162 => 33 | 232 => 96 | 227 => 97 | 234 => 98 | 236 => 99 | 228 => 169 | 271 => 170 | 151 => 130 | 120 => 214 | 197 => 149 | 152 => 172 | 260 => 202 | 137 => 93 | 119 => 215 | 224 => 211 | 225 => 210 | 217 => 165 | 266 => 213 | n => n, fun | 9 => 9 | 4 => 4 | 3 => 3 | 5 => 5 | 117 => 109 | 116 => 108 | 0 => 0 | 124 => 112 | 21 => 21 | 105 => 152 | 46 => 155 | 119 => 204 | 139 => 207 | 138 => 206 | n => n, fun | 3 => 4 | 4 => 5 | n => n⟩
theorem Tryd.lays162 : Go.Proofs.Lays.n162 Tryd.prog Tryd.lays162_ren := {
  mixed := by kernel_rfl
  f119 := Tryd.func215.trans (congrArg some (by kernel_rfl))
  f120 := Tryd.func214.trans (congrArg some (by kernel_rfl))
  f137 := Tryd.func93.trans (congrArg some (by kernel_rfl))
  f151 := Tryd.func130.trans (congrArg some (by kernel_rfl))
  f152 := Tryd.func172.trans (congrArg some (by kernel_rfl))
  f162 := Tryd.func33.trans (congrArg some (by kernel_rfl))
  f197 := Tryd.func149.trans (congrArg some (by kernel_rfl))
  f217 := Tryd.func165.trans (congrArg some (by kernel_rfl))
  f224 := Tryd.func211.trans (congrArg some (by kernel_rfl))
  f225 := Tryd.func210.trans (congrArg some (by kernel_rfl))
  f227 := Tryd.func97.trans (congrArg some (by kernel_rfl))
  f228 := Tryd.func169.trans (congrArg some (by kernel_rfl))
  f232 := Tryd.func96.trans (congrArg some (by kernel_rfl))
  f234 := Tryd.func98.trans (congrArg some (by kernel_rfl))
  f236 := Tryd.func99.trans (congrArg some (by kernel_rfl))
  f260 := Tryd.func202.trans (congrArg some (by kernel_rfl))
  f266 := Tryd.func213.trans (congrArg some (by kernel_rfl))
  f271 := Tryd.func170.trans (congrArg some (by kernel_rfl))
  t0 := Tryd.underlying0
  a0 := Tryd.isAgg0
  z0 := Tryd.sizeOf0
  v0 := Tryd.zeroValue0
  t3 := Tryd.underlying3
  a3 := Tryd.isAgg3
  z3 := Tryd.sizeOf3
  v3 := Tryd.zeroValue3
  t4 := Tryd.underlying4
  a4 := Tryd.isAgg4
  z4 := Tryd.sizeOf4
  v4 := Tryd.zeroValue4
  t5 := Tryd.underlying5
  a5 := Tryd.isAgg5
  z5 := Tryd.sizeOf5
  v5 := Tryd.zeroValue5
  t9 := Tryd.underlying9
  a9 := Tryd.isAgg9
  z9 := Tryd.sizeOf9
  v9 := Tryd.zeroValue9
  t21 := Tryd.underlying21
  a21 := Tryd.isAgg21
  z21 := Tryd.sizeOf21
  v21 := Tryd.zeroValue21
  t46 := Tryd.underlying155
  a46 := Tryd.isAgg155
  z46 := Tryd.sizeOf155
  v46 := Tryd.zeroValue155
  t105 := Tryd.underlying152
  a105 := Tryd.isAgg152
  z105 := Tryd.sizeOf152
  v105 := Tryd.zeroValue152
  t116 := Tryd.underlying108
  a116 := Tryd.isAgg108
  z116 := Tryd.sizeOf108
  t117 := Tryd.underlying109
  a117 := Tryd.isAgg109
  z117 := Tryd.sizeOf109
  v117 := Tryd.zeroValue109
  t119 := Tryd.underlying204
  a119 := Tryd.isAgg204
  z119 := Tryd.sizeOf204
  t124 := Tryd.underlying112
  a124 := Tryd.isAgg112
  z124 := Tryd.sizeOf112
  v124 := Tryd.zeroValue112
  t138 := Tryd.underlying206
  a138 := Tryd.isAgg206
  z138 := Tryd.sizeOf206
  v138 := Tryd.zeroValue206
  t139 := Tryd.underlying207
  a139 := Tryd.isAgg207
  z139 := Tryd.sizeOf207
  v139 := Tryd.zeroValue207
  g3 := by kernel_rfl
  g4 := by kernel_rfl }
open Go.RowKit in
theorem Tryd.strings_TrimRight_one (s : ByteArray) (c : UInt8) (hc : c.toNat < 128) (w : World) (hs : s.size ≤ 9223372036854775807) :
    Calls Tryd.prog 33 #[.string s, .string ⟨#[c]⟩] w fun e w' => e = .returned (.string ⟨(Lib.trimRightB s.data.toList c).toArray⟩) ∧ w' = w := Any.strings_TrimRight_one Tryd.lays162 s c hc w hs
def Tryd.lays160_ren : Go.Shelf.Ren := ⟨fun | 160 => 94 | 232 => 96 | 231 => 166 | 227 => 97 | 234 => 98 | 233 => 167 | 236 => 99 | 235 => 168 | 228 => 169 | 271 => 170 | 151 => 130 | 197 => 149 | 120 => 214 | 152 => 172 | 260 => 202 | 137 => 93 | 119 => 215 | 224 => 211 | 225 => 210 | 217 => 165 | 266 => 213 | n => n, fun | 9 => 9 | 4 => 4 | 3 => 3 | 5 => 5 | 117 => 109 | 116 => 108 | 0 => 0 | 124 => 112 | 21 => 21 | 105 => 152 | 46 => 155 | 119 => 204 | 139 => 207 | 138 => 206 | n => n, fun | 3 => 4 | 4 => 5 | n => n⟩
theorem Tryd.lays160 : Go.Proofs.Lays.n160 Tryd.prog Tryd.lays160_ren := {
  mixed := by kernel_rfl
  f119 := Tryd.func215.trans (congrArg some (by kernel_rfl))
  f120 := Tryd.func214.trans (congrArg some (by kernel_rfl))
  f137 := Tryd.func93.trans (congrArg some (by kernel_rfl))
  f151 := Tryd.func130.trans (congrArg some (by kernel_rfl))
  f152 := Tryd.func172.trans (congrArg some (by kernel_rfl))
  f160 := Tryd.func94.trans (congrArg some (by kernel_rfl))
  f197 := Tryd.func149.trans (congrArg some (by kernel_rfl))
  f217 := Tryd.func165.trans (congrArg some (by kernel_rfl))
  f224 := Tryd.func211.trans (congrArg some (by kernel_rfl))
  f225 := Tryd.func210.trans (congrArg some (by kernel_rfl))
  f227 := Tryd.func97.trans (congrArg some (by kernel_rfl))
  f228 := Tryd.func169.trans (congrArg some (by kernel_rfl))
  f231 := Tryd.func166.trans (congrArg some (by kernel_rfl))
  f232 := Tryd.func96.trans (congrArg some (by kernel_rfl))
  f233 := Tryd.func167.trans (congrArg some (by kernel_rfl))
  f234 := Tryd.func98.trans (congrArg some (by kernel_rfl))
  f235 := Tryd.func168.trans (congrArg some (by kernel_rfl))
  f236 := Tryd.func99.trans (congrArg some (by kernel_rfl))
  f260 := Tryd.func202.trans (congrArg some (by kernel_rfl))
  f266 := Tryd.func213.trans (congrArg some (by kernel_rfl))
  f271 := Tryd.func170.trans (congrArg some (by kernel_rfl))
  t0 := Tryd.underlying0
  a0 := Tryd.isAgg0
  z0 := Tryd.sizeOf0
  v0 := Tryd.zeroValue0
  t3 := Tryd.underlying3
  a3 := Tryd.isAgg3
  z3 := Tryd.sizeOf3
  v3 := Tryd.zeroValue3
  t4 := Tryd.underlying4
  a4 := Tryd.isAgg4
  z4 := Tryd.sizeOf4
  v4 := Tryd.zeroValue4
  t5 := Tryd.underlying5
  a5 := Tryd.isAgg5
  z5 := Tryd.sizeOf5
  v5 := Tryd.zeroValue5
  t9 := Tryd.underlying9
  a9 := Tryd.isAgg9
  z9 := Tryd.sizeOf9
  v9 := Tryd.zeroValue9
  t21 := Tryd.underlying21
  a21 := Tryd.isAgg21
  z21 := Tryd.sizeOf21
  v21 := Tryd.zeroValue21
  t46 := Tryd.underlying155
  a46 := Tryd.isAgg155
  z46 := Tryd.sizeOf155
  v46 := Tryd.zeroValue155
  t105 := Tryd.underlying152
  a105 := Tryd.isAgg152
  z105 := Tryd.sizeOf152
  v105 := Tryd.zeroValue152
  t116 := Tryd.underlying108
  a116 := Tryd.isAgg108
  z116 := Tryd.sizeOf108
  t117 := Tryd.underlying109
  a117 := Tryd.isAgg109
  z117 := Tryd.sizeOf109
  v117 := Tryd.zeroValue109
  t119 := Tryd.underlying204
  a119 := Tryd.isAgg204
  z119 := Tryd.sizeOf204
  t124 := Tryd.underlying112
  a124 := Tryd.isAgg112
  z124 := Tryd.sizeOf112
  v124 := Tryd.zeroValue112
  t138 := Tryd.underlying206
  a138 := Tryd.isAgg206
  z138 := Tryd.sizeOf206
  v138 := Tryd.zeroValue206
  t139 := Tryd.underlying207
  a139 := Tryd.isAgg207
  z139 := Tryd.sizeOf207
  v139 := Tryd.zeroValue207
  g3 := by kernel_rfl
  g4 := by kernel_rfl }
open Go.RowKit in
theorem Tryd.strings_Trim_one (s : ByteArray) (c : UInt8) (hc : c.toNat < 128) (w : World) (hs : s.size ≤ 9223372036854775807) :
    Calls Tryd.prog 94 #[.string s, .string ⟨#[c]⟩] w fun e w' => e = .returned (.string ⟨(Lib.trimB s.data.toList c).toArray⟩) ∧ (w' = w ∨ w' = w.drew) := Any.strings_Trim_one Tryd.lays160 s c hc w hs
def Tryd.lays118_ren : Go.Shelf.Ren := ⟨fun | 118 => 198 | n => n, fun | 21 => 21 | 3 => 3 | 4 => 4 | n => n, fun | n => n⟩
theorem Tryd.lays118 : Go.Proofs.Lays.n118 Tryd.prog Tryd.lays118_ren := {
  mixed := by kernel_rfl
  f118 := Tryd.func198.trans (congrArg some (by kernel_rfl))
  t3 := Tryd.underlying3
  a3 := Tryd.isAgg3
  z3 := Tryd.sizeOf3
  v3 := Tryd.zeroValue3
  t4 := Tryd.underlying4
  a4 := Tryd.isAgg4
  z4 := Tryd.sizeOf4
  v4 := Tryd.zeroValue4
  t21 := Tryd.underlying21
  a21 := Tryd.isAgg21
  z21 := Tryd.sizeOf21
  v21 := Tryd.zeroValue21 }
theorem Tryd.utf8_RuneLen (r : Int) (w : World) :
    Calls Tryd.prog 198 #[.int .i32 r] w fun e w' => e = .returned (.int .i64 (Lib.runeLen r)) ∧ w' = w := Any.utf8_RuneLen Tryd.lays118 r w
def Tryd.lays119_ren : Go.Shelf.Ren := ⟨fun | 119 => 215 | n => n, fun | 21 => 21 | 4 => 4 | n => n, fun | n => n⟩
theorem Tryd.lays119 : Go.Proofs.Lays.n119 Tryd.prog Tryd.lays119_ren := {
  mixed := by kernel_rfl
  f119 := Tryd.func215.trans (congrArg some (by kernel_rfl))
  t4 := Tryd.underlying4
  a4 := Tryd.isAgg4
  z4 := Tryd.sizeOf4
  v4 := Tryd.zeroValue4
  t21 := Tryd.underlying21
  a21 := Tryd.isAgg21
  z21 := Tryd.sizeOf21
  v21 := Tryd.zeroValue21 }
theorem Tryd.utf8_ValidRune (r : Int) (w : World) :
    Calls Tryd.prog 215 #[.int .i32 r] w fun e w' => e = .returned (.bool (Lib.validRune r)) ∧ w' = w := Any.utf8_ValidRune Tryd.lays119 r w
def Tryd.lays120_ren : Go.Shelf.Ren := ⟨fun | 120 => 214 | n => n, fun | 5 => 5 | 4 => 4 | n => n, fun | n => n⟩
theorem Tryd.lays120 : Go.Proofs.Lays.n120 Tryd.prog Tryd.lays120_ren := {
  mixed := by kernel_rfl
  f120 := Tryd.func214.trans (congrArg some (by kernel_rfl))
  t4 := Tryd.underlying4
  a4 := Tryd.isAgg4
  z4 := Tryd.sizeOf4
  v4 := Tryd.zeroValue4
  t5 := Tryd.underlying5
  a5 := Tryd.isAgg5
  z5 := Tryd.sizeOf5
  v5 := Tryd.zeroValue5 }
theorem Tryd.utf8_RuneStart (b : Int) (w : World) (h0 : 0 ≤ b) (h1 : b < 256) :
    Calls Tryd.prog 214 #[.int .u8 b] w fun e w' => e = .returned (.bool (Lib.runeStart b)) ∧ w' = w := Any.utf8_RuneStart Tryd.lays120 b w h0 h1
def Tryd.lays137_ren : Go.Shelf.Ren := ⟨fun | 137 => 93 | 217 => 165 | 266 => 213 | n => n, fun | 9 => 9 | 5 => 5 | 3 => 3 | n => n, fun | n => n⟩
theorem Tryd.lays137 : Go.Proofs.Lays.n137 Tryd.prog Tryd.lays137_ren := {
  mixed := by kernel_rfl
  f137 := Tryd.func93.trans (congrArg some (by kernel_rfl))
  f217 := Tryd.func165.trans (congrArg some (by kernel_rfl))
  f266 := Tryd.func213.trans (congrArg some (by kernel_rfl))
  t3 := Tryd.underlying3
  a3 := Tryd.isAgg3
  z3 := Tryd.sizeOf3
  v3 := Tryd.zeroValue3
  t5 := Tryd.underlying5
  a5 := Tryd.isAgg5
  z5 := Tryd.sizeOf5
  v5 := Tryd.zeroValue5
  t9 := Tryd.underlying9
  a9 := Tryd.isAgg9
  z9 := Tryd.sizeOf9
  v9 := Tryd.zeroValue9 }
open Go.RowKit in
theorem Tryd.strings_IndexByte (s : ByteArray) (c : Int) (w : World) :
    Calls Tryd.prog 93 #[.string s, .int .u8 c] w fun e w' => e = .returned (.int .i64 (Lib.indexByte s.data.toList c.toNat.toUInt8)) ∧ w' = w := Any.strings_IndexByte Tryd.lays137 s c w
def Tryd.lays210_ren : Go.Shelf.Ren := ⟨fun | 210 => 174 | 206 => 162 | n => n, fun | 9 => 9 | 4 => 4 | 3 => 3 | n => n, fun | n => n⟩
theorem Tryd.lays210 : Go.Proofs.Lays.n210 Tryd.prog Tryd.lays210_ren := {
  mixed := by kernel_rfl
  f206 := Tryd.func162.trans (congrArg some (by kernel_rfl))
  f210 := Tryd.func174.trans (congrArg some (by kernel_rfl))
  t3 := Tryd.underlying3
  a3 := Tryd.isAgg3
  z3 := Tryd.sizeOf3
  v3 := Tryd.zeroValue3
  t4 := Tryd.underlying4
  a4 := Tryd.isAgg4
  z4 := Tryd.sizeOf4
  v4 := Tryd.zeroValue4
  t9 := Tryd.underlying9
  a9 := Tryd.isAgg9
  z9 := Tryd.sizeOf9
  v9 := Tryd.zeroValue9 }
open Go.RowKit in
theorem Tryd.stringslite_CutPrefix (s p : ByteArray) (w : World) :
    Calls Tryd.prog 174 #[.string s, .string p] w fun e w' => e = .returned (.tuple #[.string ⟨(Lib.trimPrefix s.data.toList p.data.toList).toArray⟩, .bool (Lib.hasPrefix s.data.toList p.data.toList)]) ∧ w' = w := Any.stringslite_CutPrefix Tryd.lays210 s p w
def Tryd.lays103_ren : Go.Shelf.Ren := ⟨fun | 103 => 110 | 210 => 174 | 206 => 162 | n => n, fun | 9 => 9 | 4 => 4 | 24 => 117 | 3 => 3 | n => n, fun | n => n⟩
theorem Tryd.lays103 : Go.Proofs.Lays.n103 Tryd.prog Tryd.lays103_ren := {
  mixed := by kernel_rfl
  f103 := Tryd.func110.trans (congrArg some (by kernel_rfl))
  f206 := Tryd.func162.trans (congrArg some (by kernel_rfl))
  f210 := Tryd.func174.trans (congrArg some (by kernel_rfl))
  t3 := Tryd.underlying3
  a3 := Tryd.isAgg3
  z3 := Tryd.sizeOf3
  v3 := Tryd.zeroValue3
  t4 := Tryd.underlying4
  a4 := Tryd.isAgg4
  z4 := Tryd.sizeOf4
  v4 := Tryd.zeroValue4
  t9 := Tryd.underlying9
  a9 := Tryd.isAgg9
  z9 := Tryd.sizeOf9
  v9 := Tryd.zeroValue9
  t24 := Tryd.underlying117
  a24 := Tryd.isAgg117
  z24 := Tryd.sizeOf117
  v24 := Tryd.zeroValue117 }
open Go.RowKit in
theorem Tryd.strings_CutPrefix (s p : ByteArray) (w : World) :
    Calls Tryd.prog 110 #[.string s, .string p] w fun e w' => e = .returned (.tuple #[.string ⟨(Lib.trimPrefix s.data.toList p.data.toList).toArray⟩, .bool (Lib.hasPrefix s.data.toList p.data.toList)]) ∧ w' = w := Any.strings_CutPrefix Tryd.lays103 s p w
open Go.RowKit in
theorem Tryd.Builder_String_f (B b : Nat) (l : List UInt8) (w : World) (h : Lib.IsBuilderF 142 5 B b (Lib.byteCells l) w) (h0 : l ≠ []) :
    Calls Tryd.prog 145 #[.pointer (some ⟨b, 0, none⟩)] w fun e w' => e = .returned (.string ⟨l.toArray⟩) ∧ (Lib.IsBuilderF 142 5 B b (Lib.byteCells l) w' ∧ Below B w w') := Any.Builder_String_f Tryd.lays169 Tryd.Builder_Extra_169 B b l w h h0
open Go.RowKit in
theorem Tryd.Builder_String_empty_f (B b : Nat) (w : World) (h : Lib.IsBuilderF 142 5 B b [] w) (hBw : B ≤ w.heap.size) :
    Calls Tryd.prog 145 #[.pointer (some ⟨b, 0, none⟩)] w fun e w' => e = .returned (.string ⟨#[]⟩) ∧ (Lib.IsBuilderF 142 5 B b [] w' ∧ Below B w w') := Any.Builder_String_empty_f Tryd.lays169 Tryd.Builder_Extra_169 B b w h hBw
open Go.RowKit in
theorem Tryd.Builder_String_any_f (B b : Nat) (l : List UInt8) (w : World) (h : Lib.IsBuilderF 142 5 B b (Lib.byteCells l) w) (hBw : B ≤ w.heap.size) :
    Calls Tryd.prog 145 #[.pointer (some ⟨b, 0, none⟩)] w fun e w' => e = .returned (.string ⟨l.toArray⟩) ∧ (Lib.IsBuilderF 142 5 B b (Lib.byteCells l) w' ∧ Below B w w') := Any.Builder_String_any_f Tryd.lays169 Tryd.Builder_Extra_169 B b l w h hBw
open Go.RowKit in
theorem Tryd.Builder_String_k (B b : Nat) (l : List UInt8) (w : World) (h : Lib.IsBuilderF 142 5 B b (Lib.byteCells l) w) (h0 : l ≠ []) :
    Calls Tryd.prog 145 #[.pointer (some ⟨b, 0, none⟩)] w fun e w' => e = .returned (.string ⟨l.toArray⟩) ∧ (Lib.IsBuilderF 142 5 B b (Lib.byteCells l) w' ∧ Below B w w' ∧ Lib.OthersKept 5 (some b) w w') := Any.Builder_String_k Tryd.lays169 Tryd.Builder_Extra_169 B b l w h h0
open Go.RowKit in
theorem Tryd.Builder_String_empty_k (B b : Nat) (w : World) (h : Lib.IsBuilderF 142 5 B b [] w) (hBw : B ≤ w.heap.size) :
    Calls Tryd.prog 145 #[.pointer (some ⟨b, 0, none⟩)] w fun e w' => e = .returned (.string ⟨#[]⟩) ∧ (Lib.IsBuilderF 142 5 B b [] w' ∧ Below B w w' ∧ Lib.OthersKept 5 (some b) w w') := Any.Builder_String_empty_k Tryd.lays169 Tryd.Builder_Extra_169 B b w h hBw
open Go.RowKit in
theorem Tryd.Builder_String_any_k (B b : Nat) (l : List UInt8) (w : World) (h : Lib.IsBuilderF 142 5 B b (Lib.byteCells l) w) (hBw : B ≤ w.heap.size) :
    Calls Tryd.prog 145 #[.pointer (some ⟨b, 0, none⟩)] w fun e w' => e = .returned (.string ⟨l.toArray⟩) ∧ (Lib.IsBuilderF 142 5 B b (Lib.byteCells l) w' ∧ Below B w w' ∧ Lib.OthersKept 5 (some b) w w') := Any.Builder_String_any_k Tryd.lays169 Tryd.Builder_Extra_169 B b l w h hBw
open Go.RowKit in
theorem Tryd.Builder_grow_fresh_cap (B b n : Nat) (w : World) (hB : B ≤ b) (hbk : w.heap[b]? = some (.cells #[.pointer (some ⟨b, 0, none⟩), .slice none 0 0] 142 (0, 0))) (hBw : B ≤ w.heap.size) (hn : n ≤ 281474976710656) :
    Calls Tryd.prog 197 #[.pointer (some ⟨b, 0, none⟩), .int .i64 n] w fun e w' => e = .returned (.tuple #[]) ∧ (Lib.BuilderAt 142 5 B b (.pointer (some ⟨b, 0, none⟩)) [] w' ∧ Below B w w') ∧ ∃ p cap, w'.cell? ⟨b, 1, none⟩ = some (.slice p 0 cap) ∧ n ≤ cap := Any.Builder_grow_fresh_cap Tryd.lays241 Tryd.Builder_Extra_241 B b n w hB hbk hBw hn
open Go.RowKit in
theorem Tryd.Builder_Grow_fresh_cap (B b n : Nat) (w : World) (hB : B ≤ b) (hbk : w.heap[b]? = some (.cells #[.pointer none, .slice none 0 0] 142 (0, 0))) (hBw : B ≤ w.heap.size) (hn : n ≤ 281474976710656) :
    Calls Tryd.prog 142 #[.pointer (some ⟨b, 0, none⟩), .int .i64 n] w fun e w' => e = .returned (.tuple #[]) ∧ (Lib.BuilderAt 142 5 B b (.pointer (some ⟨b, 0, none⟩)) [] w' ∧ Below B w w') ∧ ∃ p cap, w'.cell? ⟨b, 1, none⟩ = some (.slice p 0 cap) ∧ n ≤ cap := Any.Builder_Grow_fresh_cap Tryd.lays165 Tryd.Builder_Extra_165 B b n w hB hbk hBw hn
def Tryd.lays129_ren : Go.Shelf.Ren := ⟨fun | 129 => 247 | n => n, fun | 53 => 156 | 3 => 3 | 4 => 4 | 46 => 155 | 5 => 5 | 9 => 9 | n => n, fun | n => n⟩
theorem Tryd.lays129 : Go.Proofs.Lays.n129 Tryd.prog Tryd.lays129_ren := {
  mixed := by kernel_rfl
  f129 := Tryd.func247.trans (congrArg some (by kernel_rfl))
  t3 := Tryd.underlying3
  a3 := Tryd.isAgg3
  z3 := Tryd.sizeOf3
  v3 := Tryd.zeroValue3
  t4 := Tryd.underlying4
  a4 := Tryd.isAgg4
  z4 := Tryd.sizeOf4
  v4 := Tryd.zeroValue4
  t5 := Tryd.underlying5
  a5 := Tryd.isAgg5
  z5 := Tryd.sizeOf5
  v5 := Tryd.zeroValue5
  t9 := Tryd.underlying9
  a9 := Tryd.isAgg9
  z9 := Tryd.sizeOf9
  v9 := Tryd.zeroValue9
  t46 := Tryd.underlying155
  a46 := Tryd.isAgg155
  z46 := Tryd.sizeOf155
  v46 := Tryd.zeroValue155
  t53 := Tryd.underlying156
  a53 := Tryd.isAgg156
  z53 := Tryd.sizeOf156
  v53 := Tryd.zeroValue156 }
theorem Tryd.bits_Len64 (x : Int) (w : World) (h0 : 0 ≤ x) (h1 : x ≤ 18446744073709551615) :
    Calls Tryd.prog 247 #[.int .u64 x] w fun e w' => e = .returned (.int .i64 (Lib.bitLen x.toNat)) ∧ w' = w := Any.bits_Len64 Tryd.lays129 x w h0 h1
def Tryd.lays217_ren : Go.Shelf.Ren := ⟨fun | 217 => 165 | 266 => 213 | n => n, fun | 9 => 9 | 5 => 5 | 3 => 3 | n => n, fun | n => n⟩
theorem Tryd.lays217 : Go.Proofs.Lays.n217 Tryd.prog Tryd.lays217_ren := {
  mixed := by kernel_rfl
  f217 := Tryd.func165.trans (congrArg some (by kernel_rfl))
  f266 := Tryd.func213.trans (congrArg some (by kernel_rfl))
  t3 := Tryd.underlying3
  a3 := Tryd.isAgg3
  z3 := Tryd.sizeOf3
  v3 := Tryd.zeroValue3
  t5 := Tryd.underlying5
  a5 := Tryd.isAgg5
  z5 := Tryd.sizeOf5
  v5 := Tryd.zeroValue5
  t9 := Tryd.underlying9
  a9 := Tryd.isAgg9
  z9 := Tryd.sizeOf9
  v9 := Tryd.zeroValue9 }
open Go.RowKit Go.Lib in
theorem Tryd.stringslite_IndexByte (s : ByteArray) (c : Int) (w : World) :
    Calls Tryd.prog 165 #[.string s, .int .u8 c] w fun e w' => e = .returned (.int .i64 (Lib.indexByte s.data.toList c.toNat.toUInt8)) ∧ w' = w := Any.stringslite_IndexByte Tryd.lays217 s c w
def Tryd.lays224_ren : Go.Shelf.Ren := ⟨fun | 224 => 211 | n => n, fun | 3 => 3 | n => n, fun | n => n⟩
theorem Tryd.lays224 : Go.Proofs.Lays.n224 Tryd.prog Tryd.lays224_ren := {
  mixed := by kernel_rfl
  f224 := Tryd.func211.trans (congrArg some (by kernel_rfl))
  t3 := Tryd.underlying3
  a3 := Tryd.isAgg3
  z3 := Tryd.sizeOf3
  v3 := Tryd.zeroValue3 }
open Go.RowKit Go.Lib in
theorem Tryd.bytealg_Cutover (n : Int) (h0 : 0 ≤ n) (h1 : n < 4611686018427387904) (w : World) :
    Calls Tryd.prog 211 #[.int .i64 n] w fun e w' => e = .returned (.int .i64 ((n + 16) / 8)) ∧ w' = w := Any.bytealg_Cutover Tryd.lays224 n h0 h1 w
def Tryd.lays314_ren : Go.Shelf.Ren := ⟨fun | 314 => 238 | n => n, fun | 9 => 9 | 51 => 193 | 3 => 3 | 4 => 4 | 5 => 5 | 46 => 155 | n => n, fun | n => n⟩
theorem Tryd.lays314 : Go.Proofs.Lays.n314 Tryd.prog Tryd.lays314_ren := {
  mixed := by kernel_rfl
  f314 := Tryd.func238.trans (congrArg some (by kernel_rfl))
  t3 := Tryd.underlying3
  a3 := Tryd.isAgg3
  z3 := Tryd.sizeOf3
  v3 := Tryd.zeroValue3
  t4 := Tryd.underlying4
  a4 := Tryd.isAgg4
  z4 := Tryd.sizeOf4
  v4 := Tryd.zeroValue4
  t5 := Tryd.underlying5
  a5 := Tryd.isAgg5
  z5 := Tryd.sizeOf5
  v5 := Tryd.zeroValue5
  t9 := Tryd.underlying9
  a9 := Tryd.isAgg9
  z9 := Tryd.sizeOf9
  v9 := Tryd.zeroValue9
  t46 := Tryd.underlying155
  a46 := Tryd.isAgg155
  z46 := Tryd.sizeOf155
  v46 := Tryd.zeroValue155
  t51 := Tryd.underlying193
  a51 := Tryd.isAgg193
  z51 := Tryd.sizeOf193
  v51 := Tryd.zeroValue193 }
open Go.RowKit Go.Lib in
theorem Tryd.bytealg_hashStr (sep : ByteArray) (hs : sep.size < 4294967281) (w : World) :
    Calls Tryd.prog 238 #[.string sep] w fun e w' => e = .returned (.tuple #[.int .u32 (RK.H sep.data.toList % 4294967296), .int .u32 (16777619 ^ sep.size % 4294967296)]) ∧ w' = w := Any.bytealg_hashStr Tryd.lays314 sep hs w
def Tryd.lays267_ren : Go.Shelf.Ren := ⟨fun | 267 => 212 | 314 => 238 | n => n, fun | 9 => 9 | 3 => 3 | 146 => 194 | 51 => 193 | 4 => 4 | 5 => 5 | 46 => 155 | n => n, fun | n => n⟩
theorem Tryd.lays267 : Go.Proofs.Lays.n267 Tryd.prog Tryd.lays267_ren := {
  mixed := by kernel_rfl
  f267 := Tryd.func212.trans (congrArg some (by kernel_rfl))
  f314 := Tryd.func238.trans (congrArg some (by kernel_rfl))
  t3 := Tryd.underlying3
  a3 := Tryd.isAgg3
  z3 := Tryd.sizeOf3
  v3 := Tryd.zeroValue3
  t4 := Tryd.underlying4
  a4 := Tryd.isAgg4
  z4 := Tryd.sizeOf4
  v4 := Tryd.zeroValue4
  t5 := Tryd.underlying5
  a5 := Tryd.isAgg5
  z5 := Tryd.sizeOf5
  v5 := Tryd.zeroValue5
  t9 := Tryd.underlying9
  a9 := Tryd.isAgg9
  z9 := Tryd.sizeOf9
  v9 := Tryd.zeroValue9
  t46 := Tryd.underlying155
  a46 := Tryd.isAgg155
  z46 := Tryd.sizeOf155
  v46 := Tryd.zeroValue155
  t51 := Tryd.underlying193
  a51 := Tryd.isAgg193
  z51 := Tryd.sizeOf193
  v51 := Tryd.zeroValue193
  t146 := Tryd.underlying194
  a146 := Tryd.isAgg194
  z146 := Tryd.sizeOf194
  v146 := Tryd.zeroValue194 }
open Go.RowKit Go.Lib in
theorem Tryd.bytealg_IndexRabinKarp (s sep : ByteArray) (h1 : 1 ≤ sep.size) (h2 : sep.size ≤ s.size) (hs : s.size < 4294967281) (w : World) :
    Calls Tryd.prog 212 #[.string s, .string sep] w fun e w' => e = .returned (.int .i64 (Lib.index s.data.toList sep.data.toList)) ∧ w' = w := Any.bytealg_IndexRabinKarp Tryd.lays267 s sep h1 h2 hs w
def Tryd.lays219_ren : Go.Shelf.Ren := ⟨fun | 219 => 160 | 217 => 165 | 225 => 210 | 224 => 211 | 267 => 212 | 266 => 213 | 314 => 238 | n => n, fun | 9 => 9 | 3 => 3 | 4 => 4 | 5 => 5 | 46 => 155 | 146 => 194 | 51 => 193 | n => n, fun | 1 => 3 | n => n⟩
theorem Tryd.lays219 : Go.Proofs.Lays.n219 Tryd.prog Tryd.lays219_ren := {
  mixed := by kernel_rfl
  f217 := Tryd.func165.trans (congrArg some (by kernel_rfl))
  f219 := Tryd.func160.trans (congrArg some (by kernel_rfl))
  f224 := Tryd.func211.trans (congrArg some (by kernel_rfl))
  f225 := Tryd.func210.trans (congrArg some (by kernel_rfl))
  f266 := Tryd.func213.trans (congrArg some (by kernel_rfl))
  f267 := Tryd.func212.trans (congrArg some (by kernel_rfl))
  f314 := Tryd.func238.trans (congrArg some (by kernel_rfl))
  t3 := Tryd.underlying3
  a3 := Tryd.isAgg3
  z3 := Tryd.sizeOf3
  v3 := Tryd.zeroValue3
  t4 := Tryd.underlying4
  a4 := Tryd.isAgg4
  z4 := Tryd.sizeOf4
  v4 := Tryd.zeroValue4
  t5 := Tryd.underlying5
  a5 := Tryd.isAgg5
  z5 := Tryd.sizeOf5
  v5 := Tryd.zeroValue5
  t9 := Tryd.underlying9
  a9 := Tryd.isAgg9
  z9 := Tryd.sizeOf9
  v9 := Tryd.zeroValue9
  t46 := Tryd.underlying155
  a46 := Tryd.isAgg155
  z46 := Tryd.sizeOf155
  v46 := Tryd.zeroValue155
  t51 := Tryd.underlying193
  a51 := Tryd.isAgg193
  z51 := Tryd.sizeOf193
  v51 := Tryd.zeroValue193
  t146 := Tryd.underlying194
  a146 := Tryd.isAgg194
  z146 := Tryd.sizeOf194
  v146 := Tryd.zeroValue194
  g1 := by kernel_rfl }
open Go.RowKit Go.Lib in
theorem Tryd.stringslite_Index_one (s : ByteArray) (c : UInt8) (w : World) :
    Calls Tryd.prog 160 #[.string s, .string ⟨#[c]⟩] w fun e w' => e = .returned (.int .i64 (Lib.indexByte s.data.toList c)) ∧ w' = w := Any.stringslite_Index_one Tryd.lays219 s c w
open Go.RowKit Go.Lib in
theorem Tryd.stringslite_Index (s sub : ByteArray) (m : Int) (w : World) (hs : s.size < 4294967281) (hm : w.cell? ⟨3, 0, none⟩ = some (.int .i64 m)) :
    Calls Tryd.prog 160 #[.string s, .string sub] w fun e w' => e = .returned (.int .i64 (Lib.index s.data.toList sub.data.toList)) ∧ w' = w := Any.stringslite_Index Tryd.lays219 s sub m w hs hm
def Tryd.lays143_ren : Go.Shelf.Ren := ⟨fun | 143 => 85 | 219 => 160 | 217 => 165 | 225 => 210 | 224 => 211 | 267 => 212 | 266 => 213 | 314 => 238 | n => n, fun | 9 => 9 | 3 => 3 | 4 => 4 | 5 => 5 | 46 => 155 | 146 => 194 | 51 => 193 | n => n, fun | 1 => 3 | n => n⟩
theorem Tryd.lays143 : Go.Proofs.Lays.n143 Tryd.prog Tryd.lays143_ren := {
  mixed := by kernel_rfl
  f143 := Tryd.func85.trans (congrArg some (by kernel_rfl))
  f217 := Tryd.func165.trans (congrArg some (by kernel_rfl))
  f219 := Tryd.func160.trans (congrArg some (by kernel_rfl))
  f224 := Tryd.func211.trans (congrArg some (by kernel_rfl))
  f225 := Tryd.func210.trans (congrArg some (by kernel_rfl))
  f266 := Tryd.func213.trans (congrArg some (by kernel_rfl))
  f267 := Tryd.func212.trans (congrArg some (by kernel_rfl))
  f314 := Tryd.func238.trans (congrArg some (by kernel_rfl))
  t3 := Tryd.underlying3
  a3 := Tryd.isAgg3
  z3 := Tryd.sizeOf3
  v3 := Tryd.zeroValue3
  t4 := Tryd.underlying4
  a4 := Tryd.isAgg4
  z4 := Tryd.sizeOf4
  v4 := Tryd.zeroValue4
  t5 := Tryd.underlying5
  a5 := Tryd.isAgg5
  z5 := Tryd.sizeOf5
  v5 := Tryd.zeroValue5
  t9 := Tryd.underlying9
  a9 := Tryd.isAgg9
  z9 := Tryd.sizeOf9
  v9 := Tryd.zeroValue9
  t46 := Tryd.underlying155
  a46 := Tryd.isAgg155
  z46 := Tryd.sizeOf155
  v46 := Tryd.zeroValue155
  t51 := Tryd.underlying193
  a51 := Tryd.isAgg193
  z51 := Tryd.sizeOf193
  v51 := Tryd.zeroValue193
  t146 := Tryd.underlying194
  a146 := Tryd.isAgg194
  z146 := Tryd.sizeOf194
  v146 := Tryd.zeroValue194
  g1 := by kernel_rfl }
open Go.RowKit Go.Lib in
theorem Tryd.strings_Index_one (s : ByteArray) (c : UInt8) (w : World) :
    Calls Tryd.prog 85 #[.string s, .string ⟨#[c]⟩] w fun e w' => e = .returned (.int .i64 (Lib.indexByte s.data.toList c)) ∧ w' = w := Any.strings_Index_one Tryd.lays143 s c w
open Go.RowKit Go.Lib in
theorem Tryd.strings_Index (s sub : ByteArray) (m : Int) (w : World) (hs : s.size < 4294967281) (hm : w.cell? ⟨3, 0, none⟩ = some (.int .i64 m)) :
    Calls Tryd.prog 85 #[.string s, .string sub] w fun e w' => e = .returned (.int .i64 (Lib.index s.data.toList sub.data.toList)) ∧ w' = w := Any.strings_Index Tryd.lays143 s sub m w hs hm
def Tryd.lays144_ren : Go.Shelf.Ren := ⟨fun | 144 => 31 | 143 => 85 | 219 => 160 | 217 => 165 | 225 => 210 | 224 => 211 | 267 => 212 | 266 => 213 | 314 => 238 | n => n, fun | 9 => 9 | 4 => 4 | 3 => 3 | 5 => 5 | 46 => 155 | 146 => 194 | 51 => 193 | n => n, fun | 1 => 3 | n => n⟩
theorem Tryd.lays144 : Go.Proofs.Lays.n144 Tryd.prog Tryd.lays144_ren := {
  mixed := by kernel_rfl
  f143 := Tryd.func85.trans (congrArg some (by kernel_rfl))
  f144 := Tryd.func31.trans (congrArg some (by kernel_rfl))
  f217 := Tryd.func165.trans (congrArg some (by kernel_rfl))
  f219 := Tryd.func160.trans (congrArg some (by kernel_rfl))
  f224 := Tryd.func211.trans (congrArg some (by kernel_rfl))
  f225 := Tryd.func210.trans (congrArg some (by kernel_rfl))
  f266 := Tryd.func213.trans (congrArg some (by kernel_rfl))
  f267 := Tryd.func212.trans (congrArg some (by kernel_rfl))
  f314 := Tryd.func238.trans (congrArg some (by kernel_rfl))
  t3 := Tryd.underlying3
  a3 := Tryd.isAgg3
  z3 := Tryd.sizeOf3
  v3 := Tryd.zeroValue3
  t4 := Tryd.underlying4
  a4 := Tryd.isAgg4
  z4 := Tryd.sizeOf4
  v4 := Tryd.zeroValue4
  t5 := Tryd.underlying5
  a5 := Tryd.isAgg5
  z5 := Tryd.sizeOf5
  v5 := Tryd.zeroValue5
  t9 := Tryd.underlying9
  a9 := Tryd.isAgg9
  z9 := Tryd.sizeOf9
  v9 := Tryd.zeroValue9
  t46 := Tryd.underlying155
  a46 := Tryd.isAgg155
  z46 := Tryd.sizeOf155
  v46 := Tryd.zeroValue155
  t51 := Tryd.underlying193
  a51 := Tryd.isAgg193
  z51 := Tryd.sizeOf193
  v51 := Tryd.zeroValue193
  t146 := Tryd.underlying194
  a146 := Tryd.isAgg194
  z146 := Tryd.sizeOf194
  v146 := Tryd.zeroValue194
  g1 := by kernel_rfl }
open Go.RowKit Go.Lib in
theorem Tryd.strings_Contains_one (s : ByteArray) (c : UInt8) (w : World) :
    Calls Tryd.prog 31 #[.string s, .string ⟨#[c]⟩] w fun e w' => e = .returned (.bool (decide (0 ≤ Lib.indexByte s.data.toList c))) ∧ w' = w := Any.strings_Contains_one Tryd.lays144 s c w
open Go.RowKit Go.Lib in
theorem Tryd.strings_Contains (s sub : ByteArray) (m : Int) (w : World) (hs : s.size < 4294967281) (hm : w.cell? ⟨3, 0, none⟩ = some (.int .i64 m)) :
    Calls Tryd.prog 31 #[.string s, .string sub] w fun e w' => e = .returned (.bool (Lib.contains s.data.toList sub.data.toList)) ∧ w' = w := Any.strings_Contains Tryd.lays144 s sub m w hs hm
def Tryd.lays220_ren : Go.Shelf.Ren := ⟨fun | 220 => 158 | 219 => 160 | 217 => 165 | 225 => 210 | 224 => 211 | 267 => 212 | 266 => 213 | 314 => 238 | n => n, fun | 9 => 9 | 4 => 4 | 3 => 3 | 5 => 5 | 46 => 155 | 146 => 194 | 51 => 193 | n => n, fun | 1 => 3 | n => n⟩
theorem Tryd.lays220 : Go.Proofs.Lays.n220 Tryd.prog Tryd.lays220_ren := {
  mixed := by kernel_rfl
  f217 := Tryd.func165.trans (congrArg some (by kernel_rfl))
  f219 := Tryd.func160.trans (congrArg some (by kernel_rfl))
  f220 := Tryd.func158.trans (congrArg some (by kernel_rfl))
  f224 := Tryd.func211.trans (congrArg some (by kernel_rfl))
  f225 := Tryd.func210.trans (congrArg some (by kernel_rfl))
  f266 := Tryd.func213.trans (congrArg some (by kernel_rfl))
  f267 := Tryd.func212.trans (congrArg some (by kernel_rfl))
  f314 := Tryd.func238.trans (congrArg some (by kernel_rfl))
  t3 := Tryd.underlying3
  a3 := Tryd.isAgg3
  z3 := Tryd.sizeOf3
  v3 := Tryd.zeroValue3
  t4 := Tryd.underlying4
  a4 := Tryd.isAgg4
  z4 := Tryd.sizeOf4
  v4 := Tryd.zeroValue4
  t5 := Tryd.underlying5
  a5 := Tryd.isAgg5
  z5 := Tryd.sizeOf5
  v5 := Tryd.zeroValue5
  t9 := Tryd.underlying9
  a9 := Tryd.isAgg9
  z9 := Tryd.sizeOf9
  v9 := Tryd.zeroValue9
  t46 := Tryd.underlying155
  a46 := Tryd.isAgg155
  z46 := Tryd.sizeOf155
  v46 := Tryd.zeroValue155
  t51 := Tryd.underlying193
  a51 := Tryd.isAgg193
  z51 := Tryd.sizeOf193
  v51 := Tryd.zeroValue193
  t146 := Tryd.underlying194
  a146 := Tryd.isAgg194
  z146 := Tryd.sizeOf194
  v146 := Tryd.zeroValue194
  g1 := by kernel_rfl }
open Go.RowKit Go.Lib in
theorem Tryd.stringslite_Cut (s sep : ByteArray) (m : Int) (w : World) (hs : s.size < 4294967281) (hm : w.cell? ⟨3, 0, none⟩ = some (.int .i64 m)) :
    Calls Tryd.prog 158 #[.string s, .string sep] w fun e w' => e = .returned (.tuple #[.string ⟨(Lib.cut s.data.toList sep.data.toList).1.toArray⟩, .string ⟨(Lib.cut s.data.toList sep.data.toList).2.1.toArray⟩, .bool (Lib.cut s.data.toList sep.data.toList).2.2]) ∧ ∃ n, w' = w.drewN n := Any.stringslite_Cut Tryd.lays220 s sep m w hs hm
def Tryd.lays145_ren : Go.Shelf.Ren := ⟨fun | 145 => 82 | 220 => 158 | 219 => 160 | 217 => 165 | 225 => 210 | 224 => 211 | 267 => 212 | 266 => 213 | 314 => 238 | n => n, fun | 9 => 9 | 4 => 4 | 59 => 96 | 3 => 3 | 5 => 5 | 46 => 155 | 146 => 194 | 51 => 193 | n => n, fun | 1 => 3 | n => n⟩
theorem Tryd.lays145 : Go.Proofs.Lays.n145 Tryd.prog Tryd.lays145_ren := {
  mixed := by kernel_rfl
  f145 := Tryd.func82.trans (congrArg some (by kernel_rfl))
  f217 := Tryd.func165.trans (congrArg some (by kernel_rfl))
  f219 := Tryd.func160.trans (congrArg some (by kernel_rfl))
  f220 := Tryd.func158.trans (congrArg some (by kernel_rfl))
  f224 := Tryd.func211.trans (congrArg some (by kernel_rfl))
  f225 := Tryd.func210.trans (congrArg some (by kernel_rfl))
  f266 := Tryd.func213.trans (congrArg some (by kernel_rfl))
  f267 := Tryd.func212.trans (congrArg some (by kernel_rfl))
  f314 := Tryd.func238.trans (congrArg some (by kernel_rfl))
  t3 := Tryd.underlying3
  a3 := Tryd.isAgg3
  z3 := Tryd.sizeOf3
  v3 := Tryd.zeroValue3
  t4 := Tryd.underlying4
  a4 := Tryd.isAgg4
  z4 := Tryd.sizeOf4
  v4 := Tryd.zeroValue4
  t5 := Tryd.underlying5
  a5 := Tryd.isAgg5
  z5 := Tryd.sizeOf5
  v5 := Tryd.zeroValue5
  t9 := Tryd.underlying9
  a9 := Tryd.isAgg9
  z9 := Tryd.sizeOf9
  v9 := Tryd.zeroValue9
  t46 := Tryd.underlying155
  a46 := Tryd.isAgg155
  z46 := Tryd.sizeOf155
  v46 := Tryd.zeroValue155
  t51 := Tryd.underlying193
  a51 := Tryd.isAgg193
  z51 := Tryd.sizeOf193
  v51 := Tryd.zeroValue193
  t59 := Tryd.underlying96
  a59 := Tryd.isAgg96
  z59 := Tryd.sizeOf96
  v59 := Tryd.zeroValue96
  t146 := Tryd.underlying194
  a146 := Tryd.isAgg194
  z146 := Tryd.sizeOf194
  v146 := Tryd.zeroValue194
  g1 := by kernel_rfl }
open Go.RowKit Go.Lib in
theorem Tryd.strings_Cut (s sep : ByteArray) (m : Int) (w : World) (hs : s.size < 4294967281) (hm : w.cell? ⟨3, 0, none⟩ = some (.int .i64 m)) :
    Calls Tryd.prog 82 #[.string s, .string sep] w fun e w' => e = .returned (.tuple #[.string ⟨(Lib.cut s.data.toList sep.data.toList).1.toArray⟩, .string ⟨(Lib.cut s.data.toList sep.data.toList).2.1.toArray⟩, .bool (Lib.cut s.data.toList sep.data.toList).2.2]) ∧ ∃ n, w' = w.drewN n := Any.strings_Cut Tryd.lays145 s sep m w hs hm
def Tryd.lays138_ren : Go.Shelf.Ren := ⟨fun | 138 => 218 | 195 => 239 | 218 => 240 | 143 => 85 | 219 => 160 | 217 => 165 | 225 => 210 | 224 => 211 | 267 => 212 | 266 => 213 | 314 => 238 | n => n, fun | 9 => 9 | 3 => 3 | 4 => 4 | 5 => 5 | 0 => 0 | 46 => 155 | 146 => 194 | 51 => 193 | n => n, fun | 1 => 3 | n => n⟩
theorem Tryd.lays138 : Go.Proofs.Lays.n138 Tryd.prog Tryd.lays138_ren := {
  mixed := by kernel_rfl
  f138 := Tryd.func218.trans (congrArg some (by kernel_rfl))
  f143 := Tryd.func85.trans (congrArg some (by kernel_rfl))
  f195 := Tryd.func239.trans (congrArg some (by kernel_rfl))
  f217 := Tryd.func165.trans (congrArg some (by kernel_rfl))
  f218 := Tryd.func240.trans (congrArg some (by kernel_rfl))
  f219 := Tryd.func160.trans (congrArg some (by kernel_rfl))
  f224 := Tryd.func211.trans (congrArg some (by kernel_rfl))
  f225 := Tryd.func210.trans (congrArg some (by kernel_rfl))
  f266 := Tryd.func213.trans (congrArg some (by kernel_rfl))
  f267 := Tryd.func212.trans (congrArg some (by kernel_rfl))
  f314 := Tryd.func238.trans (congrArg some (by kernel_rfl))
  t0 := Tryd.underlying0
  a0 := Tryd.isAgg0
  z0 := Tryd.sizeOf0
  v0 := Tryd.zeroValue0
  t3 := Tryd.underlying3
  a3 := Tryd.isAgg3
  z3 := Tryd.sizeOf3
  v3 := Tryd.zeroValue3
  t4 := Tryd.underlying4
  a4 := Tryd.isAgg4
  z4 := Tryd.sizeOf4
  v4 := Tryd.zeroValue4
  t5 := Tryd.underlying5
  a5 := Tryd.isAgg5
  z5 := Tryd.sizeOf5
  v5 := Tryd.zeroValue5
  t9 := Tryd.underlying9
  a9 := Tryd.isAgg9
  z9 := Tryd.sizeOf9
  v9 := Tryd.zeroValue9
  t46 := Tryd.underlying155
  a46 := Tryd.isAgg155
  z46 := Tryd.sizeOf155
  v46 := Tryd.zeroValue155
  t51 := Tryd.underlying193
  a51 := Tryd.isAgg193
  z51 := Tryd.sizeOf193
  v51 := Tryd.zeroValue193
  t146 := Tryd.underlying194
  a146 := Tryd.isAgg194
  z146 := Tryd.sizeOf194
  v146 := Tryd.zeroValue194
  g1 := by kernel_rfl }
open Go.RowKit Go.Lib in
theorem Tryd.strings_Count_one (s : ByteArray) (c : UInt8) (w : World) :
    Calls Tryd.prog 218 #[.string s, .string ⟨#[c]⟩] w fun e w' => e = .returned (.int .i64 (Lib.countByte s.data.toList c)) ∧ w' = w := Any.strings_Count_one Tryd.lays138 s c w
open Go.RowKit Go.Lib in
theorem Tryd.strings_Count (s sub : ByteArray) (m : Int) (w : World) (hs : s.size < 4294967281) (hm : w.cell? ⟨3, 0, none⟩ = some (.int .i64 m)) (h2 : 2 ≤ sub.size) :
    Calls Tryd.prog 218 #[.string s, .string sub] w fun e w' => e = .returned (.int .i64 (Lib.countB s sub)) ∧ w' = w := Any.strings_Count Tryd.lays138 s sub m w hs hm h2
def Tryd.laysM219_ren : Go.Shelf.Ren := ⟨fun | 219 => 160 | 217 => 165 | 225 => 210 | 224 => 211 | 267 => 212 | 266 => 213 | 314 => 238 | n => n, fun | 9 => 9 | 3 => 3 | 4 => 4 | 5 => 5 | 46 => 155 | 146 => 194 | 51 => 193 | n => n, fun | 1 => 3 | n => n⟩
theorem Tryd.laysM219 : Go.Proofs.LaysM.n219 Tryd.prog Tryd.laysM219_ren := {
  mixed := by kernel_rfl
  f217 := Tryd.func165.trans (congrArg some (by kernel_rfl))
  f219 := Tryd.func160.trans (congrArg some (by kernel_rfl))
  f224 := Tryd.func211.trans (congrArg some (by kernel_rfl))
  f225 := Tryd.func210.trans (congrArg some (by kernel_rfl))
  f266 := Tryd.func213.trans (congrArg some (by kernel_rfl))
  f267 := Tryd.func212.trans (congrArg some (by kernel_rfl))
  f314 := Tryd.func238.trans (congrArg some (by kernel_rfl))
  t3 := Tryd.underlying3
  a3 := Tryd.isAgg3
  z3 := Tryd.sizeOf3
  v3 := Tryd.zeroValue3
  t4 := Tryd.underlying4
  a4 := Tryd.isAgg4
  z4 := Tryd.sizeOf4
  v4 := Tryd.zeroValue4
  t5 := Tryd.underlying5
  a5 := Tryd.isAgg5
  z5 := Tryd.sizeOf5
  v5 := Tryd.zeroValue5
  t9 := Tryd.underlying9
  a9 := Tryd.isAgg9
  z9 := Tryd.sizeOf9
  v9 := Tryd.zeroValue9
  t46 := Tryd.underlying155
  a46 := Tryd.isAgg155
  z46 := Tryd.sizeOf155
  v46 := Tryd.zeroValue155
  t51 := Tryd.underlying193
  a51 := Tryd.isAgg193
  z51 := Tryd.sizeOf193
  v51 := Tryd.zeroValue193
  t146 := Tryd.underlying194
  a146 := Tryd.isAgg194
  z146 := Tryd.sizeOf194
  v146 := Tryd.zeroValue194
  g1 := by kernel_rfl
  i3 := by kernel_rfl
  i4 := by kernel_rfl
  i5 := by kernel_rfl
  i9 := by kernel_rfl
  i46 := by kernel_rfl
  i51 := by kernel_rfl
  i146 := by kernel_rfl
  m1 := by kernel_rfl
  s1_3 := fun w h => Go.Proofs.cell_of_shapedOpen_int (zero := #[.int .i64 0]) (t := 3) h (of_decide_eq_true (by kernel_rfl)) (by kernel_rfl) rfl (by kernel_rfl) (by kernel_rfl) Tryd.underlying3 }
open Go.RowKit Go.Lib in
theorem Tryd.stringslite_Index_shaped (s sub : ByteArray) (w : World) (h : w.ShapedOpen Tryd.prog) (hs : s.size < 4294967281) :
    Calls Tryd.prog 160 #[.string s, .string sub] w fun e w' => e = .returned (.int .i64 (Lib.index s.data.toList sub.data.toList)) ∧ w' = w := Any.stringslite_Index_shaped Tryd.laysM219 s sub w h hs
def Tryd.laysM143_ren : Go.Shelf.Ren := ⟨fun | 143 => 85 | 219 => 160 | 217 => 165 | 225 => 210 | 224 => 211 | 267 => 212 | 266 => 213 | 314 => 238 | n => n, fun | 9 => 9 | 3 => 3 | 4 => 4 | 5 => 5 | 46 => 155 | 146 => 194 | 51 => 193 | n => n, fun | 1 => 3 | n => n⟩
theorem Tryd.laysM143 : Go.Proofs.LaysM.n143 Tryd.prog Tryd.laysM143_ren := {
  mixed := by kernel_rfl
  f143 := Tryd.func85.trans (congrArg some (by kernel_rfl))
  f217 := Tryd.func165.trans (congrArg some (by kernel_rfl))
  f219 := Tryd.func160.trans (congrArg some (by kernel_rfl))
  f224 := Tryd.func211.trans (congrArg some (by kernel_rfl))
  f225 := Tryd.func210.trans (congrArg some (by kernel_rfl))
  f266 := Tryd.func213.trans (congrArg some (by kernel_rfl))
  f267 := Tryd.func212.trans (congrArg some (by kernel_rfl))
  f314 := Tryd.func238.trans (congrArg some (by kernel_rfl))
  t3 := Tryd.underlying3
  a3 := Tryd.isAgg3
  z3 := Tryd.sizeOf3
  v3 := Tryd.zeroValue3
  t4 := Tryd.underlying4
  a4 := Tryd.isAgg4
  z4 := Tryd.sizeOf4
  v4 := Tryd.zeroValue4
  t5 := Tryd.underlying5
  a5 := Tryd.isAgg5
  z5 := Tryd.sizeOf5
  v5 := Tryd.zeroValue5
  t9 := Tryd.underlying9
  a9 := Tryd.isAgg9
  z9 := Tryd.sizeOf9
  v9 := Tryd.zeroValue9
  t46 := Tryd.underlying155
  a46 := Tryd.isAgg155
  z46 := Tryd.sizeOf155
  v46 := Tryd.zeroValue155
  t51 := Tryd.underlying193
  a51 := Tryd.isAgg193
  z51 := Tryd.sizeOf193
  v51 := Tryd.zeroValue193
  t146 := Tryd.underlying194
  a146 := Tryd.isAgg194
  z146 := Tryd.sizeOf194
  v146 := Tryd.zeroValue194
  g1 := by kernel_rfl
  i3 := by kernel_rfl
  i4 := by kernel_rfl
  i5 := by kernel_rfl
  i9 := by kernel_rfl
  i46 := by kernel_rfl
  i51 := by kernel_rfl
  i146 := by kernel_rfl
  m1 := by kernel_rfl
  s1_3 := fun w h => Go.Proofs.cell_of_shapedOpen_int (zero := #[.int .i64 0]) (t := 3) h (of_decide_eq_true (by kernel_rfl)) (by kernel_rfl) rfl (by kernel_rfl) (by kernel_rfl) Tryd.underlying3 }
open Go.RowKit Go.Lib in
theorem Tryd.strings_Index_shaped (s sub : ByteArray) (w : World) (h : w.ShapedOpen Tryd.prog) (hs : s.size < 4294967281) :
    Calls Tryd.prog 85 #[.string s, .string sub] w fun e w' => e = .returned (.int .i64 (Lib.index s.data.toList sub.data.toList)) ∧ w' = w := Any.strings_Index_shaped Tryd.laysM143 s sub w h hs
def Tryd.laysM144_ren : Go.Shelf.Ren := ⟨fun | 144 => 31 | 143 => 85 | 219 => 160 | 217 => 165 | 225 => 210 | 224 => 211 | 267 => 212 | 266 => 213 | 314 => 238 | n => n, fun | 9 => 9 | 4 => 4 | 3 => 3 | 5 => 5 | 46 => 155 | 146 => 194 | 51 => 193 | n => n, fun | 1 => 3 | n => n⟩
theorem Tryd.laysM144 : Go.Proofs.LaysM.n144 Tryd.prog Tryd.laysM144_ren := {
  mixed := by kernel_rfl
  f143 := Tryd.func85.trans (congrArg some (by kernel_rfl))
  f144 := Tryd.func31.trans (congrArg some (by kernel_rfl))
  f217 := Tryd.func165.trans (congrArg some (by kernel_rfl))
  f219 := Tryd.func160.trans (congrArg some (by kernel_rfl))
  f224 := Tryd.func211.trans (congrArg some (by kernel_rfl))
  f225 := Tryd.func210.trans (congrArg some (by kernel_rfl))
  f266 := Tryd.func213.trans (congrArg some (by kernel_rfl))
  f267 := Tryd.func212.trans (congrArg some (by kernel_rfl))
  f314 := Tryd.func238.trans (congrArg some (by kernel_rfl))
  t3 := Tryd.underlying3
  a3 := Tryd.isAgg3
  z3 := Tryd.sizeOf3
  v3 := Tryd.zeroValue3
  t4 := Tryd.underlying4
  a4 := Tryd.isAgg4
  z4 := Tryd.sizeOf4
  v4 := Tryd.zeroValue4
  t5 := Tryd.underlying5
  a5 := Tryd.isAgg5
  z5 := Tryd.sizeOf5
  v5 := Tryd.zeroValue5
  t9 := Tryd.underlying9
  a9 := Tryd.isAgg9
  z9 := Tryd.sizeOf9
  v9 := Tryd.zeroValue9
  t46 := Tryd.underlying155
  a46 := Tryd.isAgg155
  z46 := Tryd.sizeOf155
  v46 := Tryd.zeroValue155
  t51 := Tryd.underlying193
  a51 := Tryd.isAgg193
  z51 := Tryd.sizeOf193
  v51 := Tryd.zeroValue193
  t146 := Tryd.underlying194
  a146 := Tryd.isAgg194
  z146 := Tryd.sizeOf194
  v146 := Tryd.zeroValue194
  g1 := by kernel_rfl
  i3 := by kernel_rfl
  i4 := by kernel_rfl
  i5 := by kernel_rfl
  i9 := by kernel_rfl
  i46 := by kernel_rfl
  i51 := by kernel_rfl
  i146 := by kernel_rfl
  m1 := by kernel_rfl
  s1_3 := fun w h => Go.Proofs.cell_of_shapedOpen_int (zero := #[.int .i64 0]) (t := 3) h (of_decide_eq_true (by kernel_rfl)) (by kernel_rfl) rfl (by kernel_rfl) (by kernel_rfl) Tryd.underlying3 }
open Go.RowKit Go.Lib in
theorem Tryd.strings_Contains_shaped (s sub : ByteArray) (w : World) (h : w.ShapedOpen Tryd.prog) (hs : s.size < 4294967281) :
    Calls Tryd.prog 31 #[.string s, .string sub] w fun e w' => e = .returned (.bool (Lib.contains s.data.toList sub.data.toList)) ∧ w' = w := Any.strings_Contains_shaped Tryd.laysM144 s sub w h hs
def Tryd.laysM220_ren : Go.Shelf.Ren := ⟨fun | 220 => 158 | 219 => 160 | 217 => 165 | 225 => 210 | 224 => 211 | 267 => 212 | 266 => 213 | 314 => 238 | n => n, fun | 9 => 9 | 4 => 4 | 3 => 3 | 5 => 5 | 46 => 155 | 146 => 194 | 51 => 193 | n => n, fun | 1 => 3 | n => n⟩
theorem Tryd.laysM220 : Go.Proofs.LaysM.n220 Tryd.prog Tryd.laysM220_ren := {
  mixed := by kernel_rfl
  f217 := Tryd.func165.trans (congrArg some (by kernel_rfl))
  f219 := Tryd.func160.trans (congrArg some (by kernel_rfl))
  f220 := Tryd.func158.trans (congrArg some (by kernel_rfl))
  f224 := Tryd.func211.trans (congrArg some (by kernel_rfl))
  f225 := Tryd.func210.trans (congrArg some (by kernel_rfl))
  f266 := Tryd.func213.trans (congrArg some (by kernel_rfl))
  f267 := Tryd.func212.trans (congrArg some (by kernel_rfl))
  f314 := Tryd.func238.trans (congrArg some (by kernel_rfl))
  t3 := Tryd.underlying3
  a3 := Tryd.isAgg3
  z3 := Tryd.sizeOf3
  v3 := Tryd.zeroValue3
  t4 := Tryd.underlying4
  a4 := Tryd.isAgg4
  z4 := Tryd.sizeOf4
  v4 := Tryd.zeroValue4
  t5 := Tryd.underlying5
  a5 := Tryd.isAgg5
  z5 := Tryd.sizeOf5
  v5 := Tryd.zeroValue5
  t9 := Tryd.underlying9
  a9 := Tryd.isAgg9
  z9 := Tryd.sizeOf9
  v9 := Tryd.zeroValue9
  t46 := Tryd.underlying155
  a46 := Tryd.isAgg155
  z46 := Tryd.sizeOf155
  v46 := Tryd.zeroValue155
  t51 := Tryd.underlying193
  a51 := Tryd.isAgg193
  z51 := Tryd.sizeOf193
  v51 := Tryd.zeroValue193
  t146 := Tryd.underlying194
  a146 := Tryd.isAgg194
  z146 := Tryd.sizeOf194
  v146 := Tryd.zeroValue194
  g1 := by kernel_rfl
  i3 := by kernel_rfl
  i4 := by kernel_rfl
  i5 := by kernel_rfl
  i9 := by kernel_rfl
  i46 := by kernel_rfl
  i51 := by kernel_rfl
  i146 := by kernel_rfl
  m1 := by kernel_rfl
  s1_3 := fun w h => Go.Proofs.cell_of_shapedOpen_int (zero := #[.int .i64 0]) (t := 3) h (of_decide_eq_true (by kernel_rfl)) (by kernel_rfl) rfl (by kernel_rfl) (by kernel_rfl) Tryd.underlying3 }
open Go.RowKit Go.Lib in
theorem Tryd.stringslite_Cut_shaped (s sep : ByteArray) (w : World) (h : w.ShapedOpen Tryd.prog) (hs : s.size < 4294967281) :
    Calls Tryd.prog 158 #[.string s, .string sep] w fun e w' => e = .returned (.tuple #[.string ⟨(Lib.cut s.data.toList sep.data.toList).1.toArray⟩, .string ⟨(Lib.cut s.data.toList sep.data.toList).2.1.toArray⟩, .bool (Lib.cut s.data.toList sep.data.toList).2.2]) ∧ ∃ n, w' = w.drewN n := Any.stringslite_Cut_shaped Tryd.laysM220 s sep w h hs
def Tryd.laysM145_ren : Go.Shelf.Ren := ⟨fun | 145 => 82 | 220 => 158 | 219 => 160 | 217 => 165 | 225 => 210 | 224 => 211 | 267 => 212 | 266 => 213 | 314 => 238 | n => n, fun | 9 => 9 | 4 => 4 | 59 => 96 | 3 => 3 | 5 => 5 | 46 => 155 | 146 => 194 | 51 => 193 | n => n, fun | 1 => 3 | n => n⟩
theorem Tryd.laysM145 : Go.Proofs.LaysM.n145 Tryd.prog Tryd.laysM145_ren := {
  mixed := by kernel_rfl
  f145 := Tryd.func82.trans (congrArg some (by kernel_rfl))
  f217 := Tryd.func165.trans (congrArg some (by kernel_rfl))
  f219 := Tryd.func160.trans (congrArg some (by kernel_rfl))
  f220 := Tryd.func158.trans (congrArg some (by kernel_rfl))
  f224 := Tryd.func211.trans (congrArg some (by kernel_rfl))
  f225 := Tryd.func210.trans (congrArg some (by kernel_rfl))
  f266 := Tryd.func213.trans (congrArg some (by kernel_rfl))
  f267 := Tryd.func212.trans (congrArg some (by kernel_rfl))
  f314 := Tryd.func238.trans (congrArg some (by kernel_rfl))
  t3 := Tryd.underlying3
  a3 := Tryd.isAgg3
  z3 := Tryd.sizeOf3
  v3 := Tryd.zeroValue3
  t4 := Tryd.underlying4
  a4 := Tryd.isAgg4
  z4 := Tryd.sizeOf4
  v4 := Tryd.zeroValue4
  t5 := Tryd.underlying5
  a5 := Tryd.isAgg5
  z5 := Tryd.sizeOf5
  v5 := Tryd.zeroValue5
  t9 := Tryd.underlying9
  a9 := Tryd.isAgg9
  z9 := Tryd.sizeOf9
  v9 := Tryd.zeroValue9
  t46 := Tryd.underlying155
  a46 := Tryd.isAgg155
  z46 := Tryd.sizeOf155
  v46 := Tryd.zeroValue155
  t51 := Tryd.underlying193
  a51 := Tryd.isAgg193
  z51 := Tryd.sizeOf193
  v51 := Tryd.zeroValue193
  t59 := Tryd.underlying96
  a59 := Tryd.isAgg96
  z59 := Tryd.sizeOf96
  v59 := Tryd.zeroValue96
  t146 := Tryd.underlying194
  a146 := Tryd.isAgg194
  z146 := Tryd.sizeOf194
  v146 := Tryd.zeroValue194
  g1 := by kernel_rfl
  i3 := by kernel_rfl
  i4 := by kernel_rfl
  i5 := by kernel_rfl
  i9 := by kernel_rfl
  i46 := by kernel_rfl
  i51 := by kernel_rfl
  i59 := by kernel_rfl
  i146 := by kernel_rfl
  m1 := by kernel_rfl
  s1_3 := fun w h => Go.Proofs.cell_of_shapedOpen_int (zero := #[.int .i64 0]) (t := 3) h (of_decide_eq_true (by kernel_rfl)) (by kernel_rfl) rfl (by kernel_rfl) (by kernel_rfl) Tryd.underlying3 }
open Go.RowKit Go.Lib in
theorem Tryd.strings_Cut_shaped (s sep : ByteArray) (w : World) (h : w.ShapedOpen Tryd.prog) (hs : s.size < 4294967281) :
    Calls Tryd.prog 82 #[.string s, .string sep] w fun e w' => e = .returned (.tuple #[.string ⟨(Lib.cut s.data.toList sep.data.toList).1.toArray⟩, .string ⟨(Lib.cut s.data.toList sep.data.toList).2.1.toArray⟩, .bool (Lib.cut s.data.toList sep.data.toList).2.2]) ∧ ∃ n, w' = w.drewN n := Any.strings_Cut_shaped Tryd.laysM145 s sep w h hs
def Tryd.laysM138_ren : Go.Shelf.Ren := ⟨fun | 138 => 218 | 195 => 239 | 218 => 240 | 143 => 85 | 219 => 160 | 217 => 165 | 225 => 210 | 224 => 211 | 267 => 212 | 266 => 213 | 314 => 238 | n => n, fun | 9 => 9 | 3 => 3 | 4 => 4 | 5 => 5 | 0 => 0 | 46 => 155 | 146 => 194 | 51 => 193 | n => n, fun | 1 => 3 | n => n⟩
theorem Tryd.laysM138 : Go.Proofs.LaysM.n138 Tryd.prog Tryd.laysM138_ren := {
  mixed := by kernel_rfl
  f138 := Tryd.func218.trans (congrArg some (by kernel_rfl))
  f143 := Tryd.func85.trans (congrArg some (by kernel_rfl))
  f195 := Tryd.func239.trans (congrArg some (by kernel_rfl))
  f217 := Tryd.func165.trans (congrArg some (by kernel_rfl))
  f218 := Tryd.func240.trans (congrArg some (by kernel_rfl))
  f219 := Tryd.func160.trans (congrArg some (by kernel_rfl))
  f224 := Tryd.func211.trans (congrArg some (by kernel_rfl))
  f225 := Tryd.func210.trans (congrArg some (by kernel_rfl))
  f266 := Tryd.func213.trans (congrArg some (by kernel_rfl))
  f267 := Tryd.func212.trans (congrArg some (by kernel_rfl))
  f314 := Tryd.func238.trans (congrArg some (by kernel_rfl))
  t0 := Tryd.underlying0
  a0 := Tryd.isAgg0
  z0 := Tryd.sizeOf0
  v0 := Tryd.zeroValue0
  t3 := Tryd.underlying3
  a3 := Tryd.isAgg3
  z3 := Tryd.sizeOf3
  v3 := Tryd.zeroValue3
  t4 := Tryd.underlying4
  a4 := Tryd.isAgg4
  z4 := Tryd.sizeOf4
  v4 := Tryd.zeroValue4
  t5 := Tryd.underlying5
  a5 := Tryd.isAgg5
  z5 := Tryd.sizeOf5
  v5 := Tryd.zeroValue5
  t9 := Tryd.underlying9
  a9 := Tryd.isAgg9
  z9 := Tryd.sizeOf9
  v9 := Tryd.zeroValue9
  t46 := Tryd.underlying155
  a46 := Tryd.isAgg155
  z46 := Tryd.sizeOf155
  v46 := Tryd.zeroValue155
  t51 := Tryd.underlying193
  a51 := Tryd.isAgg193
  z51 := Tryd.sizeOf193
  v51 := Tryd.zeroValue193
  t146 := Tryd.underlying194
  a146 := Tryd.isAgg194
  z146 := Tryd.sizeOf194
  v146 := Tryd.zeroValue194
  g1 := by kernel_rfl
  i0 := by kernel_rfl
  i3 := by kernel_rfl
  i4 := by kernel_rfl
  i5 := by kernel_rfl
  i9 := by kernel_rfl
  i46 := by kernel_rfl
  i51 := by kernel_rfl
  i146 := by kernel_rfl
  m1 := by kernel_rfl
  s1_3 := fun w h => Go.Proofs.cell_of_shapedOpen_int (zero := #[.int .i64 0]) (t := 3) h (of_decide_eq_true (by kernel_rfl)) (by kernel_rfl) rfl (by kernel_rfl) (by kernel_rfl) Tryd.underlying3 }
open Go.RowKit Go.Lib in
theorem Tryd.strings_Count_shaped (s sub : ByteArray) (w : World) (h : w.ShapedOpen Tryd.prog) (hs : s.size < 4294967281) (h2 : 2 ≤ sub.size) :
    Calls Tryd.prog 218 #[.string s, .string sub] w fun e w' => e = .returned (.int .i64 (Lib.countB s sub)) ∧ w' = w := Any.strings_Count_shaped Tryd.laysM138 s sub w h hs h2
def Tryd.lays222_ren : Go.Shelf.Ren := ⟨fun | 222 => 176 | n => n, fun | 9 => 9 | 5 => 5 | 3 => 3 | 4 => 4 | n => n, fun | n => n⟩
theorem Tryd.lays222 : Go.Proofs.Lays.n222 Tryd.prog Tryd.lays222_ren := {
  mixed := by kernel_rfl
  f222 := Tryd.func176.trans (congrArg some (by kernel_rfl))
  t3 := Tryd.underlying3
  a3 := Tryd.isAgg3
  z3 := Tryd.sizeOf3
  v3 := Tryd.zeroValue3
  t4 := Tryd.underlying4
  a4 := Tryd.isAgg4
  z4 := Tryd.sizeOf4
  v4 := Tryd.zeroValue4
  t5 := Tryd.underlying5
  a5 := Tryd.isAgg5
  z5 := Tryd.sizeOf5
  v5 := Tryd.zeroValue5
  t9 := Tryd.underlying9
  a9 := Tryd.isAgg9
  z9 := Tryd.sizeOf9
  v9 := Tryd.zeroValue9 }
open Go.RowKit Go.Lib in
theorem Tryd.bytealg_LastIndexByteString_nm (s : ByteArray) (c : Int) (hs : s.size < 4611686018427387904) (w : World) :
    Calls Tryd.prog 176 #[.string s, .int .u8 c] w fun e w' => e = .returned (.int .i64 (Lib.lastIndexByte s c)) ∧ w' = w := Any.bytealg_LastIndexByteString_nm Tryd.lays222 s c hs w
def Tryd.lays149_ren : Go.Shelf.Ren := ⟨fun | 149 => 175 | 222 => 176 | n => n, fun | 9 => 9 | 5 => 5 | 3 => 3 | 4 => 4 | n => n, fun | n => n⟩
theorem Tryd.lays149 : Go.Proofs.Lays.n149 Tryd.prog Tryd.lays149_ren := {
  mixed := by kernel_rfl
  f149 := Tryd.func175.trans (congrArg some (by kernel_rfl))
  f222 := Tryd.func176.trans (congrArg some (by kernel_rfl))
  t3 := Tryd.underlying3
  a3 := Tryd.isAgg3
  z3 := Tryd.sizeOf3
  v3 := Tryd.zeroValue3
  t4 := Tryd.underlying4
  a4 := Tryd.isAgg4
  z4 := Tryd.sizeOf4
  v4 := Tryd.zeroValue4
  t5 := Tryd.underlying5
  a5 := Tryd.isAgg5
  z5 := Tryd.sizeOf5
  v5 := Tryd.zeroValue5
  t9 := Tryd.underlying9
  a9 := Tryd.isAgg9
  z9 := Tryd.sizeOf9
  v9 := Tryd.zeroValue9 }
open Go.RowKit Go.Lib in
theorem Tryd.strings_LastIndexByte (s : ByteArray) (c : Int) (hs : s.size < 4611686018427387904) (w : World) :
    Calls Tryd.prog 175 #[.string s, .int .u8 c] w fun e w' => e = .returned (.int .i64 (Lib.lastIndexByte s c)) ∧ w' = w := Any.strings_LastIndexByte Tryd.lays149 s c hs w
def Tryd.lays148_ren : Go.Shelf.Ren := ⟨fun | 148 => 117 | 222 => 176 | 223 => 177 | 269 => 216 | n => n, fun | 9 => 9 | 3 => 3 | 4 => 4 | 5 => 5 | 146 => 194 | 51 => 193 | 46 => 155 | n => n, fun | n => n⟩
theorem Tryd.lays148 : Go.Proofs.Lays.n148 Tryd.prog Tryd.lays148_ren := {
  mixed := by kernel_rfl
  f148 := Tryd.func117.trans (congrArg some (by kernel_rfl))
  f222 := Tryd.func176.trans (congrArg some (by kernel_rfl))
  f223 := Tryd.func177.trans (congrArg some (by kernel_rfl))
  f269 := Tryd.func216.trans (congrArg some (by kernel_rfl))
  t3 := Tryd.underlying3
  a3 := Tryd.isAgg3
  z3 := Tryd.sizeOf3
  v3 := Tryd.zeroValue3
  t4 := Tryd.underlying4
  a4 := Tryd.isAgg4
  z4 := Tryd.sizeOf4
  v4 := Tryd.zeroValue4
  t5 := Tryd.underlying5
  a5 := Tryd.isAgg5
  z5 := Tryd.sizeOf5
  v5 := Tryd.zeroValue5
  t9 := Tryd.underlying9
  a9 := Tryd.isAgg9
  z9 := Tryd.sizeOf9
  v9 := Tryd.zeroValue9
  t46 := Tryd.underlying155
  a46 := Tryd.isAgg155
  z46 := Tryd.sizeOf155
  v46 := Tryd.zeroValue155
  t51 := Tryd.underlying193
  a51 := Tryd.isAgg193
  z51 := Tryd.sizeOf193
  v51 := Tryd.zeroValue193
  t146 := Tryd.underlying194
  a146 := Tryd.isAgg194
  z146 := Tryd.sizeOf194
  v146 := Tryd.zeroValue194 }
open Go.RowKit Go.Lib in
theorem Tryd.strings_LastIndex_one (s sub : ByteArray) (h1 : sub.size = 1) (hs : s.size < 4611686018427387904) (w : World) :
    Calls Tryd.prog 117 #[.string s, .string sub] w fun e w' => e = .returned (.int .i64 (Lib.lastIndexByte s ((sub[0]'(by omega)).toNat : Int))) ∧ w' = w := Any.strings_LastIndex_one Tryd.lays148 s sub h1 hs w
open Go.RowKit Go.Lib in
theorem Tryd.strings_LastIndex_empty (s sub : ByteArray) (h0 : sub.size = 0) (w : World) :
    Calls Tryd.prog 117 #[.string s, .string sub] w fun e w' => e = .returned (.int .i64 s.size) ∧ w' = w := Any.strings_LastIndex_empty Tryd.lays148 s sub h0 w
open Go.RowKit Go.Lib in
theorem Tryd.strings_LastIndex_longer (s sub : ByteArray) (h2 : 2 ≤ sub.size) (hl : s.size < sub.size) (w : World) :
    Calls Tryd.prog 117 #[.string s, .string sub] w fun e w' => e = .returned (.int .i64 (-1)) ∧ w' = w := Any.strings_LastIndex_longer Tryd.lays148 s sub h2 hl w
open Go.RowKit Go.Lib in
theorem Tryd.strings_LastIndex_whole (s sub : ByteArray) (h2 : 2 ≤ sub.size) (hl : sub.size = s.size) (w : World) :
    Calls Tryd.prog 117 #[.string s, .string sub] w fun e w' => e = .returned (.int .i64 (if sub = s then 0 else -1)) ∧ w' = w := Any.strings_LastIndex_whole Tryd.lays148 s sub h2 hl w
def Tryd.lays269_ren : Go.Shelf.Ren := ⟨fun | 269 => 216 | n => n, fun | 9 => 9 | 51 => 193 | 3 => 3 | 4 => 4 | 5 => 5 | 46 => 155 | n => n, fun | n => n⟩
theorem Tryd.lays269 : Go.Proofs.Lays.n269 Tryd.prog Tryd.lays269_ren := {
  mixed := by kernel_rfl
  f269 := Tryd.func216.trans (congrArg some (by kernel_rfl))
  t3 := Tryd.underlying3
  a3 := Tryd.isAgg3
  z3 := Tryd.sizeOf3
  v3 := Tryd.zeroValue3
  t4 := Tryd.underlying4
  a4 := Tryd.isAgg4
  z4 := Tryd.sizeOf4
  v4 := Tryd.zeroValue4
  t5 := Tryd.underlying5
  a5 := Tryd.isAgg5
  z5 := Tryd.sizeOf5
  v5 := Tryd.zeroValue5
  t9 := Tryd.underlying9
  a9 := Tryd.isAgg9
  z9 := Tryd.sizeOf9
  v9 := Tryd.zeroValue9
  t46 := Tryd.underlying155
  a46 := Tryd.isAgg155
  z46 := Tryd.sizeOf155
  v46 := Tryd.zeroValue155
  t51 := Tryd.underlying193
  a51 := Tryd.isAgg193
  z51 := Tryd.sizeOf193
  v51 := Tryd.zeroValue193 }
open Go.RowKit Go.Lib in
theorem Tryd.bytealg_hashStrRev (sep : ByteArray) (hs : sep.size < 4611686018427387904) (w : World) :
    Calls Tryd.prog 216 #[.string sep] w fun e w' => e = .returned (.tuple #[.int .u32 (RK.H sep.data.toList.reverse % 4294967296), .int .u32 (16777619 ^ sep.size % 4294967296)]) ∧ w' = w := Any.bytealg_hashStrRev Tryd.lays269 sep hs w
def Tryd.lays223_ren : Go.Shelf.Ren := ⟨fun | 223 => 177 | 269 => 216 | n => n, fun | 9 => 9 | 3 => 3 | 146 => 194 | 51 => 193 | 4 => 4 | 5 => 5 | 46 => 155 | n => n, fun | n => n⟩
theorem Tryd.lays223 : Go.Proofs.Lays.n223 Tryd.prog Tryd.lays223_ren := {
  mixed := by kernel_rfl
  f223 := Tryd.func177.trans (congrArg some (by kernel_rfl))
  f269 := Tryd.func216.trans (congrArg some (by kernel_rfl))
  t3 := Tryd.underlying3
  a3 := Tryd.isAgg3
  z3 := Tryd.sizeOf3
  v3 := Tryd.zeroValue3
  t4 := Tryd.underlying4
  a4 := Tryd.isAgg4
  z4 := Tryd.sizeOf4
  v4 := Tryd.zeroValue4
  t5 := Tryd.underlying5
  a5 := Tryd.isAgg5
  z5 := Tryd.sizeOf5
  v5 := Tryd.zeroValue5
  t9 := Tryd.underlying9
  a9 := Tryd.isAgg9
  z9 := Tryd.sizeOf9
  v9 := Tryd.zeroValue9
  t46 := Tryd.underlying155
  a46 := Tryd.isAgg155
  z46 := Tryd.sizeOf155
  v46 := Tryd.zeroValue155
  t51 := Tryd.underlying193
  a51 := Tryd.isAgg193
  z51 := Tryd.sizeOf193
  v51 := Tryd.zeroValue193
  t146 := Tryd.underlying194
  a146 := Tryd.isAgg194
  z146 := Tryd.sizeOf194
  v146 := Tryd.zeroValue194 }
open Go.RowKit Go.Lib in
theorem Tryd.bytealg_LastIndexRabinKarp (s sep : ByteArray) (h1 : 1 ≤ sep.size) (h2 : sep.size ≤ s.size) (hs : s.size < 4611686018427387904) (w : World) :
    Calls Tryd.prog 177 #[.string s, .string sep] w fun e w' => e = .returned (.int .i64 (Lib.lastIndex s.data.toList sep.data.toList)) ∧ w' = w := Any.bytealg_LastIndexRabinKarp Tryd.lays223 s sep h1 h2 hs w
open Go.RowKit Go.Lib in
theorem Tryd.strings_LastIndex_hash (s sub : ByteArray) (h2 : 2 ≤ sub.size) (hl : sub.size < s.size) (hs : s.size < 4611686018427387904) (w : World) :
    Calls Tryd.prog 117 #[.string s, .string sub] w fun e w' => e = .returned (.int .i64 (Lib.lastIndex s.data.toList sub.data.toList)) ∧ w' = w := Any.strings_LastIndex_hash Tryd.lays148 s sub h2 hl hs w
open Go.RowKit Go.Lib in
theorem Tryd.strings_LastIndex (s sub : ByteArray) (hs : s.size < 4611686018427387904) (w : World) :
    Calls Tryd.prog 117 #[.string s, .string sub] w fun e w' => e = .returned (.int .i64 (Lib.lastIndex s.data.toList sub.data.toList)) ∧ w' = w := Any.strings_LastIndex Tryd.lays148 s sub hs w
def Tryd.lays315_ren : Go.Shelf.Ren := ⟨fun | 315 => 209 | n => n, fun | 9 => 9 | 40 => 99 | 4 => 4 | 3 => 3 | 0 => 0 | 21 => 21 | n => n, fun | n => n⟩
theorem Tryd.lays315 : Go.Proofs.Lays.n315 Tryd.prog Tryd.lays315_ren := {
  mixed := by kernel_rfl
  f315 := Tryd.func209.trans (congrArg some (by kernel_rfl))
  t0 := Tryd.underlying0
  a0 := Tryd.isAgg0
  z0 := Tryd.sizeOf0
  v0 := Tryd.zeroValue0
  t3 := Tryd.underlying3
  a3 := Tryd.isAgg3
  z3 := Tryd.sizeOf3
  v3 := Tryd.zeroValue3
  t4 := Tryd.underlying4
  a4 := Tryd.isAgg4
  z4 := Tryd.sizeOf4
  v4 := Tryd.zeroValue4
  t9 := Tryd.underlying9
  a9 := Tryd.isAgg9
  z9 := Tryd.sizeOf9
  v9 := Tryd.zeroValue9
  t21 := Tryd.underlying21
  a21 := Tryd.isAgg21
  z21 := Tryd.sizeOf21
  v21 := Tryd.zeroValue21
  t40 := Tryd.underlying99
  a40 := Tryd.isAgg99
  z40 := Tryd.sizeOf99
  v40 := Tryd.zeroValue99 }
open Go.RowKit Go.Lib in
theorem Tryd.strings_indexFunc (g : Nat) (lb : Array Value) (eg : ∀ args w, (callFunc g args).run Tryd.prog w = .ok (.enter g args) w) (p : Nat → Bool) (truth : Bool) (s : ByteArray) (w : World) (hp : PredAt Tryd.prog g lb encR p w) :
    Calls Tryd.prog 209 #[.string s, .func (.func g) #[] lb, .bool truth] w fun e w' => e = .returned (.int .i64 (Lib.idxFunc p truth s)) ∧ Below w.heap.size w w' := Any.strings_indexFunc Tryd.lays315 g lb eg p truth s w hp
def Tryd.laysGw15_ren : Go.Shelf.Ren := ⟨fun | 15 => 159 | 20 => 209 | n => n, fun | 9 => 9 | 23 => 99 | 3 => 3 | 4 => 4 | 0 => 0 | 21 => 21 | n => n, fun | n => n⟩
theorem Tryd.laysGw15 : Go.Proofs.LaysGw.n15 Tryd.prog Tryd.laysGw15_ren := {
  mixed := by kernel_rfl
  f15 := Tryd.func159.trans (congrArg some (by kernel_rfl))
  f20 := Tryd.func209.trans (congrArg some (by kernel_rfl))
  t0 := Tryd.underlying0
  a0 := Tryd.isAgg0
  z0 := Tryd.sizeOf0
  v0 := Tryd.zeroValue0
  i0 := by kernel_rfl
  t3 := Tryd.underlying3
  a3 := Tryd.isAgg3
  z3 := Tryd.sizeOf3
  v3 := Tryd.zeroValue3
  i3 := by kernel_rfl
  t4 := Tryd.underlying4
  a4 := Tryd.isAgg4
  z4 := Tryd.sizeOf4
  v4 := Tryd.zeroValue4
  i4 := by kernel_rfl
  t9 := Tryd.underlying9
  a9 := Tryd.isAgg9
  z9 := Tryd.sizeOf9
  v9 := Tryd.zeroValue9
  i9 := by kernel_rfl
  t21 := Tryd.underlying21
  a21 := Tryd.isAgg21
  z21 := Tryd.sizeOf21
  v21 := Tryd.zeroValue21
  i21 := by kernel_rfl
  t23 := Tryd.underlying99
  a23 := Tryd.isAgg99
  z23 := Tryd.sizeOf99
  v23 := Tryd.zeroValue99
  i23 := by kernel_rfl }
open Go.RowKit Go.Lib in
theorem Tryd.strings_IndexFunc (g : Nat) (lb : Array Value) (eg : ∀ args w, (callFunc g args).run Tryd.prog w = .ok (.enter g args) w) (p : Nat → Bool) (s : ByteArray) (w : World) (hp : PredAt Tryd.prog g lb encR p w) :
    Calls Tryd.prog 159 #[.string s, .func (.func g) #[] lb] w fun e w' => e = .returned (.int .i64 (Lib.idxFunc p true s)) ∧ Below w.heap.size w w' := Any.strings_IndexFunc Tryd.laysGw15 g lb eg p s w hp
def Tryd.laysGw17_ren : Go.Shelf.Ren := ⟨fun | 17 => 83 | 15 => 159 | 20 => 209 | n => n, fun | 9 => 9 | 23 => 99 | 4 => 4 | 3 => 3 | 0 => 0 | 21 => 21 | n => n, fun | n => n⟩
theorem Tryd.laysGw17 : Go.Proofs.LaysGw.n17 Tryd.prog Tryd.laysGw17_ren := {
  mixed := by kernel_rfl
  f15 := Tryd.func159.trans (congrArg some (by kernel_rfl))
  f17 := Tryd.func83.trans (congrArg some (by kernel_rfl))
  f20 := Tryd.func209.trans (congrArg some (by kernel_rfl))
  t0 := Tryd.underlying0
  a0 := Tryd.isAgg0
  z0 := Tryd.sizeOf0
  v0 := Tryd.zeroValue0
  i0 := by kernel_rfl
  t3 := Tryd.underlying3
  a3 := Tryd.isAgg3
  z3 := Tryd.sizeOf3
  v3 := Tryd.zeroValue3
  i3 := by kernel_rfl
  t4 := Tryd.underlying4
  a4 := Tryd.isAgg4
  z4 := Tryd.sizeOf4
  v4 := Tryd.zeroValue4
  i4 := by kernel_rfl
  t9 := Tryd.underlying9
  a9 := Tryd.isAgg9
  z9 := Tryd.sizeOf9
  v9 := Tryd.zeroValue9
  i9 := by kernel_rfl
  t21 := Tryd.underlying21
  a21 := Tryd.isAgg21
  z21 := Tryd.sizeOf21
  v21 := Tryd.zeroValue21
  i21 := by kernel_rfl
  t23 := Tryd.underlying99
  a23 := Tryd.isAgg99
  z23 := Tryd.sizeOf99
  v23 := Tryd.zeroValue99
  i23 := by kernel_rfl }
open Go.RowKit Go.Lib in
theorem Tryd.strings_ContainsFunc (g : Nat) (lb : Array Value) (eg : ∀ args w, (callFunc g args).run Tryd.prog w = .ok (.enter g args) w) (p : Nat → Bool) (s : ByteArray) (w : World) (hp : PredAt Tryd.prog g lb encR p w) :
    Calls Tryd.prog 83 #[.string s, .func (.func g) #[] lb] w fun e w' => e = .returned (.bool (decide (0 ≤ Lib.idxFunc p true s))) ∧ Below w.heap.size w w' := Any.strings_ContainsFunc Tryd.laysGw17 g lb eg p s w hp
open Go.RowKit Go.Lib in
theorem Tryd.strings_indexFunc_runes (g : Nat) (lb : Array Value) (eg : ∀ args w, (callFunc g args).run Tryd.prog w = .ok (.enter g args) w) (p : Nat → Bool) (truth : Bool) (s : ByteArray) (w : World) (hp : PredAtRunes Tryd.prog g lb p w) :
    Calls Tryd.prog 209 #[.string s, .func (.func g) #[] lb, .bool truth] w fun e w' => e = .returned (.int .i64 (Lib.idxFunc p truth s)) ∧ Below w.heap.size w w' := Any.strings_indexFunc_runes Tryd.lays315 g lb eg p truth s w hp
open Go.RowKit Go.Lib in
theorem Tryd.strings_IndexFunc_runes (g : Nat) (lb : Array Value) (eg : ∀ args w, (callFunc g args).run Tryd.prog w = .ok (.enter g args) w) (p : Nat → Bool) (s : ByteArray) (w : World) (hp : PredAtRunes Tryd.prog g lb p w) :
    Calls Tryd.prog 159 #[.string s, .func (.func g) #[] lb] w fun e w' => e = .returned (.int .i64 (Lib.idxFunc p true s)) ∧ Below w.heap.size w w' := Any.strings_IndexFunc_runes Tryd.laysGw15 g lb eg p s w hp
open Go.RowKit Go.Lib in
theorem Tryd.strings_ContainsFunc_runes (g : Nat) (lb : Array Value) (eg : ∀ args w, (callFunc g args).run Tryd.prog w = .ok (.enter g args) w) (p : Nat → Bool) (s : ByteArray) (w : World) (hp : PredAtRunes Tryd.prog g lb p w) :
    Calls Tryd.prog 83 #[.string s, .func (.func g) #[] lb] w fun e w' => e = .returned (.bool (decide (0 ≤ Lib.idxFunc p true s))) ∧ Below w.heap.size w w' := Any.strings_ContainsFunc_runes Tryd.laysGw17 g lb eg p s w hp
def Tryd.lays206_ren : Go.Shelf.Ren := ⟨fun | 206 => 162 | n => n, fun | 9 => 9 | 4 => 4 | 3 => 3 | n => n, fun | n => n⟩
theorem Tryd.lays206 : Go.Proofs.Lays.n206 Tryd.prog Tryd.lays206_ren := {
  mixed := by kernel_rfl
  f206 := Tryd.func162.trans (congrArg some (by kernel_rfl))
  t3 := Tryd.underlying3
  a3 := Tryd.isAgg3
  z3 := Tryd.sizeOf3
  v3 := Tryd.zeroValue3
  t4 := Tryd.underlying4
  a4 := Tryd.isAgg4
  z4 := Tryd.sizeOf4
  v4 := Tryd.zeroValue4
  t9 := Tryd.underlying9
  a9 := Tryd.isAgg9
  z9 := Tryd.sizeOf9
  v9 := Tryd.zeroValue9 }
open Go.RowKit Go.Lib in
theorem Tryd.stringslite_HasPrefix (s p : ByteArray) (w : World) :
    Calls Tryd.prog 162 #[.string s, .string p] w fun e w' => e = .returned (.bool (Lib.hasPrefix s.data.toList p.data.toList)) ∧ w' = w := Any.stringslite_HasPrefix Tryd.lays206 s p w
def Tryd.lays99_ren : Go.Shelf.Ren := ⟨fun | 99 => 87 | 206 => 162 | n => n, fun | 9 => 9 | 4 => 4 | 3 => 3 | n => n, fun | n => n⟩
theorem Tryd.lays99 : Go.Proofs.Lays.n99 Tryd.prog Tryd.lays99_ren := {
  mixed := by kernel_rfl
  f99 := Tryd.func87.trans (congrArg some (by kernel_rfl))
  f206 := Tryd.func162.trans (congrArg some (by kernel_rfl))
  t3 := Tryd.underlying3
  a3 := Tryd.isAgg3
  z3 := Tryd.sizeOf3
  v3 := Tryd.zeroValue3
  t4 := Tryd.underlying4
  a4 := Tryd.isAgg4
  z4 := Tryd.sizeOf4
  v4 := Tryd.zeroValue4
  t9 := Tryd.underlying9
  a9 := Tryd.isAgg9
  z9 := Tryd.sizeOf9
  v9 := Tryd.zeroValue9 }
open Go.RowKit Go.Lib in
theorem Tryd.strings_HasPrefix (s p : ByteArray) (w : World) :
    Calls Tryd.prog 87 #[.string s, .string p] w fun e w' => e = .returned (.bool (Lib.hasPrefix s.data.toList p.data.toList)) ∧ w' = w := Any.strings_HasPrefix Tryd.lays99 s p w
def Tryd.lays207_ren : Go.Shelf.Ren := ⟨fun | 207 => 195 | n => n, fun | 9 => 9 | 4 => 4 | 3 => 3 | n => n, fun | n => n⟩
theorem Tryd.lays207 : Go.Proofs.Lays.n207 Tryd.prog Tryd.lays207_ren := {
  mixed := by kernel_rfl
  f207 := Tryd.func195.trans (congrArg some (by kernel_rfl))
  t3 := Tryd.underlying3
  a3 := Tryd.isAgg3
  z3 := Tryd.sizeOf3
  v3 := Tryd.zeroValue3
  t4 := Tryd.underlying4
  a4 := Tryd.isAgg4
  z4 := Tryd.sizeOf4
  v4 := Tryd.zeroValue4
  t9 := Tryd.underlying9
  a9 := Tryd.isAgg9
  z9 := Tryd.sizeOf9
  v9 := Tryd.zeroValue9 }
open Go.RowKit Go.Lib in
theorem Tryd.stringslite_HasSuffix (s p : ByteArray) (w : World) (hs : s.size ≤ 9223372036854775807) :
    Calls Tryd.prog 195 #[.string s, .string p] w fun e w' => e = .returned (.bool (Lib.hasSuffix s.data.toList p.data.toList)) ∧ w' = w := Any.stringslite_HasSuffix Tryd.lays207 s p w hs
def Tryd.lays100_ren : Go.Shelf.Ren := ⟨fun | 100 => 137 | 207 => 195 | n => n, fun | 9 => 9 | 4 => 4 | 3 => 3 | n => n, fun | n => n⟩
theorem Tryd.lays100 : Go.Proofs.Lays.n100 Tryd.prog Tryd.lays100_ren := {
  mixed := by kernel_rfl
  f100 := Tryd.func137.trans (congrArg some (by kernel_rfl))
  f207 := Tryd.func195.trans (congrArg some (by kernel_rfl))
  t3 := Tryd.underlying3
  a3 := Tryd.isAgg3
  z3 := Tryd.sizeOf3
  v3 := Tryd.zeroValue3
  t4 := Tryd.underlying4
  a4 := Tryd.isAgg4
  z4 := Tryd.sizeOf4
  v4 := Tryd.zeroValue4
  t9 := Tryd.underlying9
  a9 := Tryd.isAgg9
  z9 := Tryd.sizeOf9
  v9 := Tryd.zeroValue9 }
open Go.RowKit Go.Lib in
theorem Tryd.strings_HasSuffix (s p : ByteArray) (w : World) (hs : s.size ≤ 9223372036854775807) :
    Calls Tryd.prog 137 #[.string s, .string p] w fun e w' => e = .returned (.bool (Lib.hasSuffix s.data.toList p.data.toList)) ∧ w' = w := Any.strings_HasSuffix Tryd.lays100 s p w hs
def Tryd.lays209_ren : Go.Shelf.Ren := ⟨fun | 209 => 171 | 207 => 195 | n => n, fun | 9 => 9 | 4 => 4 | 3 => 3 | n => n, fun | n => n⟩
theorem Tryd.lays209 : Go.Proofs.Lays.n209 Tryd.prog Tryd.lays209_ren := {
  mixed := by kernel_rfl
  f207 := Tryd.func195.trans (congrArg some (by kernel_rfl))
  f209 := Tryd.func171.trans (congrArg some (by kernel_rfl))
  t3 := Tryd.underlying3
  a3 := Tryd.isAgg3
  z3 := Tryd.sizeOf3
  v3 := Tryd.zeroValue3
  t4 := Tryd.underlying4
  a4 := Tryd.isAgg4
  z4 := Tryd.sizeOf4
  v4 := Tryd.zeroValue4
  t9 := Tryd.underlying9
  a9 := Tryd.isAgg9
  z9 := Tryd.sizeOf9
  v9 := Tryd.zeroValue9 }
open Go.RowKit Go.Lib in
theorem Tryd.stringslite_TrimSuffix (s p : ByteArray) (w : World) (hs : s.size ≤ 9223372036854775807) :
    Calls Tryd.prog 171 #[.string s, .string p] w fun e w' => e = .returned (.string ⟨(Lib.trimSuffix s.data.toList p.data.toList).toArray⟩) ∧ w' = w := Any.stringslite_TrimSuffix Tryd.lays209 s p w hs
def Tryd.lays102_ren : Go.Shelf.Ren := ⟨fun | 102 => 104 | 209 => 171 | 207 => 195 | n => n, fun | 9 => 9 | 4 => 4 | 3 => 3 | n => n, fun | n => n⟩
theorem Tryd.lays102 : Go.Proofs.Lays.n102 Tryd.prog Tryd.lays102_ren := {
  mixed := by kernel_rfl
  f102 := Tryd.func104.trans (congrArg some (by kernel_rfl))
  f207 := Tryd.func195.trans (congrArg some (by kernel_rfl))
  f209 := Tryd.func171.trans (congrArg some (by kernel_rfl))
  t3 := Tryd.underlying3
  a3 := Tryd.isAgg3
  z3 := Tryd.sizeOf3
  v3 := Tryd.zeroValue3
  t4 := Tryd.underlying4
  a4 := Tryd.isAgg4
  z4 := Tryd.sizeOf4
  v4 := Tryd.zeroValue4
  t9 := Tryd.underlying9
  a9 := Tryd.isAgg9
  z9 := Tryd.sizeOf9
  v9 := Tryd.zeroValue9 }
open Go.RowKit Go.Lib in
theorem Tryd.strings_TrimSuffix (s p : ByteArray) (w : World) (hs : s.size ≤ 9223372036854775807) :
    Calls Tryd.prog 104 #[.string s, .string p] w fun e w' => e = .returned (.string ⟨(Lib.trimSuffix s.data.toList p.data.toList).toArray⟩) ∧ w' = w := Any.strings_TrimSuffix Tryd.lays102 s p w hs
open Go.RowKit Go.Lib in
theorem Tryd.strings_Count_any (s sep : ByteArray) (m : Int) (w : World) (hs : s.size < 4294967281) (hm : w.cell? ⟨3, 0, none⟩ = some (.int .i64 m)) (h1 : 1 ≤ sep.size) :
    Calls Tryd.prog 218 #[.string s, .string sep] w fun e w' => e = .returned (.int .i64 (Lib.countB s sep)) ∧ w' = w := Any.strings_Count_any Tryd.lays138 s sep m w hs hm h1
def Tryd.lays221_ren : Go.Shelf.Ren := ⟨fun | 221 => 178 | 268 => 217 | 138 => 218 | 143 => 85 | 195 => 239 | 197 => 149 | 218 => 240 | 219 => 160 | 260 => 202 | 217 => 165 | 225 => 210 | 224 => 211 | 267 => 212 | 266 => 213 | 314 => 238 | n => n, fun | 9 => 9 | 3 => 3 | 31 => 41 | 4 => 4 | 0 => 0 | 105 => 152 | 21 => 21 | 5 => 5 | 46 => 155 | 119 => 204 | 139 => 207 | 138 => 206 | 146 => 194 | 51 => 193 | n => n, fun | 1 => 3 | 3 => 4 | 4 => 5 | n => n⟩
theorem Tryd.lays221 : Go.Proofs.Lays.n221 Tryd.prog Tryd.lays221_ren := {
  mixed := by kernel_rfl
  f138 := Tryd.func218.trans (congrArg some (by kernel_rfl))
  f143 := Tryd.func85.trans (congrArg some (by kernel_rfl))
  f195 := Tryd.func239.trans (congrArg some (by kernel_rfl))
  f197 := Tryd.func149.trans (congrArg some (by kernel_rfl))
  f217 := Tryd.func165.trans (congrArg some (by kernel_rfl))
  f218 := Tryd.func240.trans (congrArg some (by kernel_rfl))
  f219 := Tryd.func160.trans (congrArg some (by kernel_rfl))
  f221 := Tryd.func178.trans (congrArg some (by kernel_rfl))
  f224 := Tryd.func211.trans (congrArg some (by kernel_rfl))
  f225 := Tryd.func210.trans (congrArg some (by kernel_rfl))
  f260 := Tryd.func202.trans (congrArg some (by kernel_rfl))
  f266 := Tryd.func213.trans (congrArg some (by kernel_rfl))
  f267 := Tryd.func212.trans (congrArg some (by kernel_rfl))
  f268 := Tryd.func217.trans (congrArg some (by kernel_rfl))
  f314 := Tryd.func238.trans (congrArg some (by kernel_rfl))
  t0 := Tryd.underlying0
  a0 := Tryd.isAgg0
  z0 := Tryd.sizeOf0
  v0 := Tryd.zeroValue0
  t3 := Tryd.underlying3
  a3 := Tryd.isAgg3
  z3 := Tryd.sizeOf3
  v3 := Tryd.zeroValue3
  t4 := Tryd.underlying4
  a4 := Tryd.isAgg4
  z4 := Tryd.sizeOf4
  v4 := Tryd.zeroValue4
  t5 := Tryd.underlying5
  a5 := Tryd.isAgg5
  z5 := Tryd.sizeOf5
  v5 := Tryd.zeroValue5
  t9 := Tryd.underlying9
  a9 := Tryd.isAgg9
  z9 := Tryd.sizeOf9
  v9 := Tryd.zeroValue9
  t21 := Tryd.underlying21
  a21 := Tryd.isAgg21
  z21 := Tryd.sizeOf21
  v21 := Tryd.zeroValue21
  t31 := Tryd.underlying41
  a31 := Tryd.isAgg41
  z31 := Tryd.sizeOf41
  v31 := Tryd.zeroValue41
  t46 := Tryd.underlying155
  a46 := Tryd.isAgg155
  z46 := Tryd.sizeOf155
  v46 := Tryd.zeroValue155
  t51 := Tryd.underlying193
  a51 := Tryd.isAgg193
  z51 := Tryd.sizeOf193
  v51 := Tryd.zeroValue193
  t105 := Tryd.underlying152
  a105 := Tryd.isAgg152
  z105 := Tryd.sizeOf152
  v105 := Tryd.zeroValue152
  t119 := Tryd.underlying204
  a119 := Tryd.isAgg204
  z119 := Tryd.sizeOf204
  t138 := Tryd.underlying206
  a138 := Tryd.isAgg206
  z138 := Tryd.sizeOf206
  v138 := Tryd.zeroValue206
  t139 := Tryd.underlying207
  a139 := Tryd.isAgg207
  z139 := Tryd.sizeOf207
  v139 := Tryd.zeroValue207
  t146 := Tryd.underlying194
  a146 := Tryd.isAgg194
  z146 := Tryd.sizeOf194
  v146 := Tryd.zeroValue194
  g1 := by kernel_rfl
  g3 := by kernel_rfl
  g4 := by kernel_rfl }
open Go.RowKit Go.Lib in
theorem Tryd.strings_genSplit (s sep : ByteArray) (sv : Nat) (n : Int) (N : Nat) (m : Int) (w : World) (hs : s.size < 4294967281) (hm : w.cell? ⟨3, 0, none⟩ = some (.int .i64 m)) (h1 : 1 ≤ sep.size) (hsv : sv ≤ sep.size) (hn0 : n ≠ 0) (hn63 : n ≤ 9223372036854775807) (hN : (N : Int) = min (if n < 0 then (Lib.countB s sep : Int) + 1 else n) ((s.size : Int) + 1)) :
    Calls Tryd.prog 178 #[.string s, .string sep, .int .i64 sv, .int .i64 n] w fun e w' =>
      e = .returned (.slice (some ⟨w.heap.size, 0, none⟩) (Lib.splitB sep sv (N - 1) s).length N) ∧ w' = w.alloc (.cells (Lib.cellsOf (Lib.splitB sep sv (N - 1) s) N) 9) := Any.strings_genSplit Tryd.lays221 (by kernel_rfl) s sep sv n N m w hs hm h1 hsv hn0 hn63 hN
def Tryd.lays146_ren : Go.Shelf.Ren := ⟨fun | 146 => 119 | 221 => 178 | 268 => 217 | 138 => 218 | 143 => 85 | 195 => 239 | 197 => 149 | 218 => 240 | 219 => 160 | 260 => 202 | 217 => 165 | 225 => 210 | 224 => 211 | 267 => 212 | 266 => 213 | 314 => 238 | n => n, fun | 9 => 9 | 31 => 41 | 3 => 3 | 4 => 4 | 0 => 0 | 105 => 152 | 21 => 21 | 5 => 5 | 46 => 155 | 119 => 204 | 139 => 207 | 138 => 206 | 146 => 194 | 51 => 193 | n => n, fun | 1 => 3 | 3 => 4 | 4 => 5 | n => n⟩
theorem Tryd.lays146 : Go.Proofs.Lays.n146 Tryd.prog Tryd.lays146_ren := {
  mixed := by kernel_rfl
  f138 := Tryd.func218.trans (congrArg some (by kernel_rfl))
  f143 := Tryd.func85.trans (congrArg some (by kernel_rfl))
  f146 := Tryd.func119.trans (congrArg some (by kernel_rfl))
  f195 := Tryd.func239.trans (congrArg some (by kernel_rfl))
  f197 := Tryd.func149.trans (congrArg some (by kernel_rfl))
  f217 := Tryd.func165.trans (congrArg some (by kernel_rfl))
  f218 := Tryd.func240.trans (congrArg some (by kernel_rfl))
  f219 := Tryd.func160.trans (congrArg some (by kernel_rfl))
  f221 := Tryd.func178.trans (congrArg some (by kernel_rfl))
  f224 := Tryd.func211.trans (congrArg some (by kernel_rfl))
  f225 := Tryd.func210.trans (congrArg some (by kernel_rfl))
  f260 := Tryd.func202.trans (congrArg some (by kernel_rfl))
  f266 := Tryd.func213.trans (congrArg some (by kernel_rfl))
  f267 := Tryd.func212.trans (congrArg some (by kernel_rfl))
  f268 := Tryd.func217.trans (congrArg some (by kernel_rfl))
  f314 := Tryd.func238.trans (congrArg some (by kernel_rfl))
  t0 := Tryd.underlying0
  a0 := Tryd.isAgg0
  z0 := Tryd.sizeOf0
  v0 := Tryd.zeroValue0
  t3 := Tryd.underlying3
  a3 := Tryd.isAgg3
  z3 := Tryd.sizeOf3
  v3 := Tryd.zeroValue3
  t4 := Tryd.underlying4
  a4 := Tryd.isAgg4
  z4 := Tryd.sizeOf4
  v4 := Tryd.zeroValue4
  t5 := Tryd.underlying5
  a5 := Tryd.isAgg5
  z5 := Tryd.sizeOf5
  v5 := Tryd.zeroValue5
  t9 := Tryd.underlying9
  a9 := Tryd.isAgg9
  z9 := Tryd.sizeOf9
  v9 := Tryd.zeroValue9
  t21 := Tryd.underlying21
  a21 := Tryd.isAgg21
  z21 := Tryd.sizeOf21
  v21 := Tryd.zeroValue21
  t31 := Tryd.underlying41
  a31 := Tryd.isAgg41
  z31 := Tryd.sizeOf41
  v31 := Tryd.zeroValue41
  t46 := Tryd.underlying155
  a46 := Tryd.isAgg155
  z46 := Tryd.sizeOf155
  v46 := Tryd.zeroValue155
  t51 := Tryd.underlying193
  a51 := Tryd.isAgg193
  z51 := Tryd.sizeOf193
  v51 := Tryd.zeroValue193
  t105 := Tryd.underlying152
  a105 := Tryd.isAgg152
  z105 := Tryd.sizeOf152
  v105 := Tryd.zeroValue152
  t119 := Tryd.underlying204
  a119 := Tryd.isAgg204
  z119 := Tryd.sizeOf204
  t138 := Tryd.underlying206
  a138 := Tryd.isAgg206
  z138 := Tryd.sizeOf206
  v138 := Tryd.zeroValue206
  t139 := Tryd.underlying207
  a139 := Tryd.isAgg207
  z139 := Tryd.sizeOf207
  v139 := Tryd.zeroValue207
  t146 := Tryd.underlying194
  a146 := Tryd.isAgg194
  z146 := Tryd.sizeOf194
  v146 := Tryd.zeroValue194
  g1 := by kernel_rfl
  g3 := by kernel_rfl
  g4 := by kernel_rfl }
open Go.RowKit Go.Lib in
theorem Tryd.strings_Split (s sep : ByteArray) (m : Int) (w : World) (hs : s.size < 4294967281) (hm : w.cell? ⟨3, 0, none⟩ = some (.int .i64 m)) (h1 : 1 ≤ sep.size) :
    Calls Tryd.prog 119 #[.string s, .string sep] w fun e w' =>
      e = .returned (.slice (some ⟨w.heap.size, 0, none⟩) (Lib.countB s sep + 1) (Lib.countB s sep + 1)) ∧ w' = w.alloc (.cells ((Lib.splitB sep 0 (Lib.countB s sep) s).map Value.string).toArray 9) := Any.strings_Split Tryd.lays146 (by kernel_rfl) s sep m w hs hm h1
def Tryd.lays154_ren : Go.Shelf.Ren := ⟨fun | 154 => 222 | 138 => 218 | 165 => 142 | 143 => 85 | 166 => 143 | 197 => 149 | 169 => 145 | 195 => 239 | 218 => 240 | 240 => 196 | 241 => 197 | 219 => 160 | 260 => 202 | 276 => 224 | 277 => 225 | 217 => 165 | 225 => 210 | 224 => 211 | 267 => 212 | 266 => 213 | 314 => 238 | n => n, fun | 9 => 9 | 3 => 3 | 4 => 4 | 72 => 142 | 0 => 0 | 76 => 146 | 105 => 152 | 21 => 21 | 5 => 5 | 70 => 140 | 20 => 20 | 37 => 22 | 75 => 145 | 127 => 175 | 164 => 198 | 46 => 155 | 119 => 204 | 139 => 207 | 138 => 206 | 146 => 194 | 51 => 193 | 80 => 149 | n => n, fun | 1 => 3 | 3 => 4 | 4 => 5 | n => n⟩
theorem Tryd.lays154 : Go.Proofs.Lays.n154 Tryd.prog Tryd.lays154_ren := {
  mixed := by kernel_rfl
  f138 := Tryd.func218.trans (congrArg some (by kernel_rfl))
  f143 := Tryd.func85.trans (congrArg some (by kernel_rfl))
  f154 := Tryd.func222.trans (congrArg some (by kernel_rfl))
  f165 := Tryd.func142.trans (congrArg some (by kernel_rfl))
  f166 := Tryd.func143.trans (congrArg some (by kernel_rfl))
  f169 := Tryd.func145.trans (congrArg some (by kernel_rfl))
  f195 := Tryd.func239.trans (congrArg some (by kernel_rfl))
  f197 := Tryd.func149.trans (congrArg some (by kernel_rfl))
  f217 := Tryd.func165.trans (congrArg some (by kernel_rfl))
  f218 := Tryd.func240.trans (congrArg some (by kernel_rfl))
  f219 := Tryd.func160.trans (congrArg some (by kernel_rfl))
  f224 := Tryd.func211.trans (congrArg some (by kernel_rfl))
  f225 := Tryd.func210.trans (congrArg some (by kernel_rfl))
  f240 := Tryd.func196.trans (congrArg some (by kernel_rfl))
  f241 := Tryd.func197.trans (congrArg some (by kernel_rfl))
  f260 := Tryd.func202.trans (congrArg some (by kernel_rfl))
  f266 := Tryd.func213.trans (congrArg some (by kernel_rfl))
  f267 := Tryd.func212.trans (congrArg some (by kernel_rfl))
  f276 := Tryd.func224.trans (congrArg some (by kernel_rfl))
  f277 := Tryd.func225.trans (congrArg some (by kernel_rfl))
  f314 := Tryd.func238.trans (congrArg some (by kernel_rfl))
  t0 := Tryd.underlying0
  a0 := Tryd.isAgg0
  z0 := Tryd.sizeOf0
  v0 := Tryd.zeroValue0
  t3 := Tryd.underlying3
  a3 := Tryd.isAgg3
  z3 := Tryd.sizeOf3
  v3 := Tryd.zeroValue3
  t4 := Tryd.underlying4
  a4 := Tryd.isAgg4
  z4 := Tryd.sizeOf4
  v4 := Tryd.zeroValue4
  t5 := Tryd.underlying5
  a5 := Tryd.isAgg5
  z5 := Tryd.sizeOf5
  v5 := Tryd.zeroValue5
  t9 := Tryd.underlying9
  a9 := Tryd.isAgg9
  z9 := Tryd.sizeOf9
  v9 := Tryd.zeroValue9
  t20 := Tryd.underlying20
  a20 := Tryd.isAgg20
  z20 := Tryd.sizeOf20
  v20 := Tryd.zeroValue20
  t21 := Tryd.underlying21
  a21 := Tryd.isAgg21
  z21 := Tryd.sizeOf21
  v21 := Tryd.zeroValue21
  t37 := Tryd.underlying22
  a37 := Tryd.isAgg22
  z37 := Tryd.sizeOf22
  v37 := Tryd.zeroValue22
  t46 := Tryd.underlying155
  a46 := Tryd.isAgg155
  z46 := Tryd.sizeOf155
  v46 := Tryd.zeroValue155
  t51 := Tryd.underlying193
  a51 := Tryd.isAgg193
  z51 := Tryd.sizeOf193
  v51 := Tryd.zeroValue193
  t70 := Tryd.underlying140
  a70 := Tryd.isAgg140
  z70 := Tryd.sizeOf140
  v70 := Tryd.zeroValue140
  t72 := Tryd.underlying142
  a72 := Tryd.isAgg142
  z72 := Tryd.sizeOf142
  v72 := Tryd.zeroValue142
  t75 := Tryd.underlying145
  a75 := Tryd.isAgg145
  z75 := Tryd.sizeOf145
  v75 := Tryd.zeroValue145
  t76 := Tryd.underlying146
  a76 := Tryd.isAgg146
  z76 := Tryd.sizeOf146
  v76 := Tryd.zeroValue146
  t105 := Tryd.underlying152
  a105 := Tryd.isAgg152
  z105 := Tryd.sizeOf152
  v105 := Tryd.zeroValue152
  t119 := Tryd.underlying204
  a119 := Tryd.isAgg204
  z119 := Tryd.sizeOf204
  t127 := Tryd.underlying175
  a127 := Tryd.isAgg175
  z127 := Tryd.sizeOf175
  v127 := Tryd.zeroValue175
  t138 := Tryd.underlying206
  a138 := Tryd.isAgg206
  z138 := Tryd.sizeOf206
  v138 := Tryd.zeroValue206
  t139 := Tryd.underlying207
  a139 := Tryd.isAgg207
  z139 := Tryd.sizeOf207
  v139 := Tryd.zeroValue207
  t146 := Tryd.underlying194
  a146 := Tryd.isAgg194
  z146 := Tryd.sizeOf194
  v146 := Tryd.zeroValue194
  t164 := Tryd.underlying198
  a164 := Tryd.isAgg198
  z164 := Tryd.sizeOf198
  v164 := Tryd.zeroValue198
  g1 := by kernel_rfl
  g3 := by kernel_rfl
  g4 := by kernel_rfl }
theorem Tryd.Builder_Extra_154 : Builder.Extra Tryd.prog Tryd.lays154_ren := {
  sizeBuilder := by kernel_rfl
  liesBuilder := by kernel_rfl
  t5 := Tryd.underlying5
  a5 := Tryd.isAgg5
  z5 := Tryd.sizeOf5
  v5 := Tryd.zeroValue5
  infoByte := by kernel_rfl
  cellsByte := by kernel_rfl
  sizeByte := by kernel_rfl
  neB5 := by decide }
open Go.RowKit Go.Lib in
theorem Tryd.strings_Replace_some (s old new : ByteArray) (n : Int) (m : Int) (w : World) (hs : s.size < 4294967281) (hm : w.cell? ⟨3, 0, none⟩ = some (.int .i64 m)) (h1 : 1 ≤ old.size) (hne : old ≠ new) (hn0 : n ≠ 0) (hc0 : Lib.countB s old ≠ 0) (hlen : s.size + Lib.countB s old * new.size ≤ 140737488355328) :
    Calls Tryd.prog 222 #[.string s, .string old, .string new, .int .i64 n] w fun e w' =>
      e = .returned (.string ⟨(Lib.replaceK old.data.toList new.data.toList (Lib.replaceNum s.data.toList old.data.toList n) s.data.toList).toArray⟩) ∧ Below w.heap.size w w' := Any.strings_Replace_some Tryd.lays154 Tryd.Builder_Extra_154 s old new n m w hs hm h1 hne hn0 hc0 hlen
open Go.RowKit Go.Lib in
theorem Tryd.strings_Replace_none (s old new : ByteArray) (n : Int) (w : World) (h : old = new ∨ n = 0) :
    Calls Tryd.prog 222 #[.string s, .string old, .string new, .int .i64 n] w fun e w' => e = .returned (.string s) ∧ w' = w := Any.strings_Replace_none Tryd.lays154 s old new n w h
open Go.RowKit Go.Lib in
theorem Tryd.strings_Replace_absent (s old new : ByteArray) (n : Int) (m : Int) (w : World) (hs : s.size < 4294967281) (hm : w.cell? ⟨3, 0, none⟩ = some (.int .i64 m)) (h1 : 1 ≤ old.size) (hne : old ≠ new) (hn0 : n ≠ 0) (hc0 : Lib.countB s old = 0) :
    Calls Tryd.prog 222 #[.string s, .string old, .string new, .int .i64 n] w fun e w' => e = .returned (.string s) ∧ w' = w := Any.strings_Replace_absent Tryd.lays154 s old new n m w hs hm h1 hne hn0 hc0
open Go.RowKit Go.Lib in
theorem Tryd.strings_Replace (s old new : ByteArray) (n : Int) (m : Int) (w : World) (hs : s.size < 4294967281) (hm : w.cell? ⟨3, 0, none⟩ = some (.int .i64 m)) (h1 : 1 ≤ old.size) (hlen : s.size + Lib.countB s old * new.size ≤ 140737488355328) :
    Calls Tryd.prog 222 #[.string s, .string old, .string new, .int .i64 n] w fun e w' =>
      e = .returned (.string ⟨(Lib.replace s.data.toList old.data.toList new.data.toList n).toArray⟩) ∧ Below w.heap.size w w' := Any.strings_Replace Tryd.lays154 Tryd.Builder_Extra_154 s old new n m w hs hm h1 hlen
def Tryd.lays155_ren : Go.Shelf.Ren := ⟨fun | 155 => 189 | 154 => 222 | 138 => 218 | 165 => 142 | 143 => 85 | 166 => 143 | 197 => 149 | 169 => 145 | 195 => 239 | 218 => 240 | 240 => 196 | 241 => 197 | 219 => 160 | 260 => 202 | 276 => 224 | 277 => 225 | 217 => 165 | 225 => 210 | 224 => 211 | 267 => 212 | 266 => 213 | 314 => 238 | n => n, fun | 9 => 9 | 3 => 3 | 4 => 4 | 72 => 142 | 0 => 0 | 76 => 146 | 105 => 152 | 21 => 21 | 5 => 5 | 70 => 140 | 20 => 20 | 37 => 22 | 75 => 145 | 127 => 175 | 164 => 198 | 46 => 155 | 119 => 204 | 139 => 207 | 138 => 206 | 146 => 194 | 51 => 193 | 80 => 149 | n => n, fun | 1 => 3 | 3 => 4 | 4 => 5 | n => n⟩
theorem Tryd.lays155 : Go.Proofs.Lays.n155 Tryd.prog Tryd.lays155_ren := {
  mixed := by kernel_rfl
  f138 := Tryd.func218.trans (congrArg some (by kernel_rfl))
  f143 := Tryd.func85.trans (congrArg some (by kernel_rfl))
  f154 := Tryd.func222.trans (congrArg some (by kernel_rfl))
  f155 := Tryd.func189.trans (congrArg some (by kernel_rfl))
  f165 := Tryd.func142.trans (congrArg some (by kernel_rfl))
  f166 := Tryd.func143.trans (congrArg some (by kernel_rfl))
  f169 := Tryd.func145.trans (congrArg some (by kernel_rfl))
  f195 := Tryd.func239.trans (congrArg some (by kernel_rfl))
  f197 := Tryd.func149.trans (congrArg some (by kernel_rfl))
  f217 := Tryd.func165.trans (congrArg some (by kernel_rfl))
  f218 := Tryd.func240.trans (congrArg some (by kernel_rfl))
  f219 := Tryd.func160.trans (congrArg some (by kernel_rfl))
  f224 := Tryd.func211.trans (congrArg some (by kernel_rfl))
  f225 := Tryd.func210.trans (congrArg some (by kernel_rfl))
  f240 := Tryd.func196.trans (congrArg some (by kernel_rfl))
  f241 := Tryd.func197.trans (congrArg some (by kernel_rfl))
  f260 := Tryd.func202.trans (congrArg some (by kernel_rfl))
  f266 := Tryd.func213.trans (congrArg some (by kernel_rfl))
  f267 := Tryd.func212.trans (congrArg some (by kernel_rfl))
  f276 := Tryd.func224.trans (congrArg some (by kernel_rfl))
  f277 := Tryd.func225.trans (congrArg some (by kernel_rfl))
  f314 := Tryd.func238.trans (congrArg some (by kernel_rfl))
  t0 := Tryd.underlying0
  a0 := Tryd.isAgg0
  z0 := Tryd.sizeOf0
  v0 := Tryd.zeroValue0
  t3 := Tryd.underlying3
  a3 := Tryd.isAgg3
  z3 := Tryd.sizeOf3
  v3 := Tryd.zeroValue3
  t4 := Tryd.underlying4
  a4 := Tryd.isAgg4
  z4 := Tryd.sizeOf4
  v4 := Tryd.zeroValue4
  t5 := Tryd.underlying5
  a5 := Tryd.isAgg5
  z5 := Tryd.sizeOf5
  v5 := Tryd.zeroValue5
  t9 := Tryd.underlying9
  a9 := Tryd.isAgg9
  z9 := Tryd.sizeOf9
  v9 := Tryd.zeroValue9
  t20 := Tryd.underlying20
  a20 := Tryd.isAgg20
  z20 := Tryd.sizeOf20
  v20 := Tryd.zeroValue20
  t21 := Tryd.underlying21
  a21 := Tryd.isAgg21
  z21 := Tryd.sizeOf21
  v21 := Tryd.zeroValue21
  t37 := Tryd.underlying22
  a37 := Tryd.isAgg22
  z37 := Tryd.sizeOf22
  v37 := Tryd.zeroValue22
  t46 := Tryd.underlying155
  a46 := Tryd.isAgg155
  z46 := Tryd.sizeOf155
  v46 := Tryd.zeroValue155
  t51 := Tryd.underlying193
  a51 := Tryd.isAgg193
  z51 := Tryd.sizeOf193
  v51 := Tryd.zeroValue193
  t70 := Tryd.underlying140
  a70 := Tryd.isAgg140
  z70 := Tryd.sizeOf140
  v70 := Tryd.zeroValue140
  t72 := Tryd.underlying142
  a72 := Tryd.isAgg142
  z72 := Tryd.sizeOf142
  v72 := Tryd.zeroValue142
  t75 := Tryd.underlying145
  a75 := Tryd.isAgg145
  z75 := Tryd.sizeOf145
  v75 := Tryd.zeroValue145
  t76 := Tryd.underlying146
  a76 := Tryd.isAgg146
  z76 := Tryd.sizeOf146
  v76 := Tryd.zeroValue146
  t105 := Tryd.underlying152
  a105 := Tryd.isAgg152
  z105 := Tryd.sizeOf152
  v105 := Tryd.zeroValue152
  t119 := Tryd.underlying204
  a119 := Tryd.isAgg204
  z119 := Tryd.sizeOf204
  t127 := Tryd.underlying175
  a127 := Tryd.isAgg175
  z127 := Tryd.sizeOf175
  v127 := Tryd.zeroValue175
  t138 := Tryd.underlying206
  a138 := Tryd.isAgg206
  z138 := Tryd.sizeOf206
  v138 := Tryd.zeroValue206
  t139 := Tryd.underlying207
  a139 := Tryd.isAgg207
  z139 := Tryd.sizeOf207
  v139 := Tryd.zeroValue207
  t146 := Tryd.underlying194
  a146 := Tryd.isAgg194
  z146 := Tryd.sizeOf194
  v146 := Tryd.zeroValue194
  t164 := Tryd.underlying198
  a164 := Tryd.isAgg198
  z164 := Tryd.sizeOf198
  v164 := Tryd.zeroValue198
  g1 := by kernel_rfl
  g3 := by kernel_rfl
  g4 := by kernel_rfl }
theorem Tryd.Builder_Extra_155 : Builder.Extra Tryd.prog Tryd.lays155_ren := {
  sizeBuilder := by kernel_rfl
  liesBuilder := by kernel_rfl
  t5 := Tryd.underlying5
  a5 := Tryd.isAgg5
  z5 := Tryd.sizeOf5
  v5 := Tryd.zeroValue5
  infoByte := by kernel_rfl
  cellsByte := by kernel_rfl
  sizeByte := by kernel_rfl
  neB5 := by decide }
open Go.RowKit Go.Lib in
theorem Tryd.strings_ReplaceAll (s old new : ByteArray) (m : Int) (w : World) (hs : s.size < 4294967281) (hm : w.cell? ⟨3, 0, none⟩ = some (.int .i64 m)) (h1 : 1 ≤ old.size) (hlen : s.size + Lib.countB s old * new.size ≤ 140737488355328) :
    Calls Tryd.prog 189 #[.string s, .string old, .string new] w fun e w' =>
      e = .returned (.string ⟨(Lib.replaceAll s.data.toList old.data.toList new.data.toList).toArray⟩) ∧ Below w.heap.size w w' := Any.strings_ReplaceAll Tryd.lays155 Tryd.Builder_Extra_155 s old new m w hs hm h1 hlen
def Tryd.lays164_ren : Go.Shelf.Ren := ⟨fun | 164 => 69 | 197 => 149 | 239 => 150 | 260 => 202 | 274 => 203 | 275 => 204 | n => n, fun | 9 => 9 | 4 => 4 | 3 => 3 | 5 => 5 | 0 => 0 | 21 => 21 | 105 => 152 | 156 => 181 | 49 => 180 | 157 => 182 | 46 => 155 | 159 => 184 | 162 => 187 | 160 => 185 | 119 => 204 | 139 => 207 | 138 => 206 | 208 => 211 | 51 => 193 | 206 => 209 | n => n, fun | 11 => 0 | 12 => 1 | 13 => 2 | 3 => 4 | 4 => 5 | n => n⟩
theorem Tryd.lays164 : Go.Proofs.Lays.n164 Tryd.prog Tryd.lays164_ren := {
  mixed := by kernel_rfl
  f164 := Tryd.func69.trans (congrArg some (by kernel_rfl))
  f197 := Tryd.func149.trans (congrArg some (by kernel_rfl))
  f239 := Tryd.func150.trans (congrArg some (by kernel_rfl))
  f260 := Tryd.func202.trans (congrArg some (by kernel_rfl))
  f274 := Tryd.func203.trans (congrArg some (by kernel_rfl))
  f275 := Tryd.func204.trans (congrArg some (by kernel_rfl))
  t0 := Tryd.underlying0
  a0 := Tryd.isAgg0
  z0 := Tryd.sizeOf0
  v0 := Tryd.zeroValue0
  t3 := Tryd.underlying3
  a3 := Tryd.isAgg3
  z3 := Tryd.sizeOf3
  v3 := Tryd.zeroValue3
  t4 := Tryd.underlying4
  a4 := Tryd.isAgg4
  z4 := Tryd.sizeOf4
  v4 := Tryd.zeroValue4
  t5 := Tryd.underlying5
  a5 := Tryd.isAgg5
  z5 := Tryd.sizeOf5
  v5 := Tryd.zeroValue5
  t9 := Tryd.underlying9
  a9 := Tryd.isAgg9
  z9 := Tryd.sizeOf9
  v9 := Tryd.zeroValue9
  t21 := Tryd.underlying21
  a21 := Tryd.isAgg21
  z21 := Tryd.sizeOf21
  v21 := Tryd.zeroValue21
  t46 := Tryd.underlying155
  a46 := Tryd.isAgg155
  z46 := Tryd.sizeOf155
  v46 := Tryd.zeroValue155
  t49 := Tryd.underlying180
  a49 := Tryd.isAgg180
  z49 := Tryd.sizeOf180
  v49 := Tryd.zeroValue180
  t51 := Tryd.underlying193
  a51 := Tryd.isAgg193
  z51 := Tryd.sizeOf193
  v51 := Tryd.zeroValue193
  t105 := Tryd.underlying152
  a105 := Tryd.isAgg152
  z105 := Tryd.sizeOf152
  v105 := Tryd.zeroValue152
  t119 := Tryd.underlying204
  a119 := Tryd.isAgg204
  z119 := Tryd.sizeOf204
  t138 := Tryd.underlying206
  a138 := Tryd.isAgg206
  z138 := Tryd.sizeOf206
  v138 := Tryd.zeroValue206
  t139 := Tryd.underlying207
  a139 := Tryd.isAgg207
  z139 := Tryd.sizeOf207
  v139 := Tryd.zeroValue207
  t156 := Tryd.underlying181
  a156 := Tryd.isAgg181
  z156 := Tryd.sizeOf181
  t157 := Tryd.underlying182
  a157 := Tryd.isAgg182
  z157 := Tryd.sizeOf182
  v157 := Tryd.zeroValue182
  t159 := Tryd.underlying184
  a159 := Tryd.isAgg184
  z159 := Tryd.sizeOf184
  v159 := Tryd.zeroValue184
  t160 := Tryd.underlying185
  a160 := Tryd.isAgg185
  z160 := Tryd.sizeOf185
  v160 := Tryd.zeroValue185
  t162 := Tryd.underlying187
  a162 := Tryd.isAgg187
  z162 := Tryd.sizeOf187
  v162 := Tryd.zeroValue187
  t206 := Tryd.underlying209
  a206 := Tryd.isAgg209
  z206 := Tryd.sizeOf209
  v206 := Tryd.zeroValue209
  t208 := Tryd.underlying211
  a208 := Tryd.isAgg211
  z208 := Tryd.sizeOf211
  v208 := Tryd.zeroValue211
  g3 := by kernel_rfl
  g4 := by kernel_rfl
  g11 := by kernel_rfl
  g12 := by kernel_rfl
  g13 := by kernel_rfl }
open Go.RowKit Go.Lib in
theorem Tryd.strings_EqualFold (s t : ByteArray) (w : World) (hs : s.size < 4294967281) (has : ∀ (j : Nat) b, s.data.toList[j]? = some b → b.toNat < 128) (hat : ∀ (j : Nat) b, t.data.toList[j]? = some b → b.toNat < 128) :
    Calls Tryd.prog 69 #[.string s, .string t] w fun e w' => e = .returned (.bool (Lib.equalFold s.data.toList t.data.toList)) ∧ w' = w := Any.strings_EqualFold Tryd.lays164 s t w hs has hat
def Tryd.laysM146_ren : Go.Shelf.Ren := ⟨fun | 146 => 119 | 221 => 178 | 268 => 217 | 138 => 218 | 143 => 85 | 195 => 239 | 197 => 149 | 218 => 240 | 219 => 160 | 260 => 202 | 217 => 165 | 225 => 210 | 224 => 211 | 267 => 212 | 266 => 213 | 314 => 238 | n => n, fun | 9 => 9 | 31 => 41 | 3 => 3 | 4 => 4 | 0 => 0 | 105 => 152 | 21 => 21 | 5 => 5 | 46 => 155 | 119 => 204 | 139 => 207 | 138 => 206 | 146 => 194 | 51 => 193 | n => n, fun | 1 => 3 | 3 => 4 | 4 => 5 | n => n⟩
theorem Tryd.laysM146 : Go.Proofs.LaysM.n146 Tryd.prog Tryd.laysM146_ren := {
  mixed := by kernel_rfl
  f138 := Tryd.func218.trans (congrArg some (by kernel_rfl))
  f143 := Tryd.func85.trans (congrArg some (by kernel_rfl))
  f146 := Tryd.func119.trans (congrArg some (by kernel_rfl))
  f195 := Tryd.func239.trans (congrArg some (by kernel_rfl))
  f197 := Tryd.func149.trans (congrArg some (by kernel_rfl))
  f217 := Tryd.func165.trans (congrArg some (by kernel_rfl))
  f218 := Tryd.func240.trans (congrArg some (by kernel_rfl))
  f219 := Tryd.func160.trans (congrArg some (by kernel_rfl))
  f221 := Tryd.func178.trans (congrArg some (by kernel_rfl))
  f224 := Tryd.func211.trans (congrArg some (by kernel_rfl))
  f225 := Tryd.func210.trans (congrArg some (by kernel_rfl))
  f260 := Tryd.func202.trans (congrArg some (by kernel_rfl))
  f266 := Tryd.func213.trans (congrArg some (by kernel_rfl))
  f267 := Tryd.func212.trans (congrArg some (by kernel_rfl))
  f268 := Tryd.func217.trans (congrArg some (by kernel_rfl))
  f314 := Tryd.func238.trans (congrArg some (by kernel_rfl))
  t0 := Tryd.underlying0
  a0 := Tryd.isAgg0
  z0 := Tryd.sizeOf0
  v0 := Tryd.zeroValue0
  t3 := Tryd.underlying3
  a3 := Tryd.isAgg3
  z3 := Tryd.sizeOf3
  v3 := Tryd.zeroValue3
  t4 := Tryd.underlying4
  a4 := Tryd.isAgg4
  z4 := Tryd.sizeOf4
  v4 := Tryd.zeroValue4
  t5 := Tryd.underlying5
  a5 := Tryd.isAgg5
  z5 := Tryd.sizeOf5
  v5 := Tryd.zeroValue5
  t9 := Tryd.underlying9
  a9 := Tryd.isAgg9
  z9 := Tryd.sizeOf9
  v9 := Tryd.zeroValue9
  t21 := Tryd.underlying21
  a21 := Tryd.isAgg21
  z21 := Tryd.sizeOf21
  v21 := Tryd.zeroValue21
  t31 := Tryd.underlying41
  a31 := Tryd.isAgg41
  z31 := Tryd.sizeOf41
  v31 := Tryd.zeroValue41
  t46 := Tryd.underlying155
  a46 := Tryd.isAgg155
  z46 := Tryd.sizeOf155
  v46 := Tryd.zeroValue155
  t51 := Tryd.underlying193
  a51 := Tryd.isAgg193
  z51 := Tryd.sizeOf193
  v51 := Tryd.zeroValue193
  t105 := Tryd.underlying152
  a105 := Tryd.isAgg152
  z105 := Tryd.sizeOf152
  v105 := Tryd.zeroValue152
  t119 := Tryd.underlying204
  a119 := Tryd.isAgg204
  z119 := Tryd.sizeOf204
  t138 := Tryd.underlying206
  a138 := Tryd.isAgg206
  z138 := Tryd.sizeOf206
  v138 := Tryd.zeroValue206
  t139 := Tryd.underlying207
  a139 := Tryd.isAgg207
  z139 := Tryd.sizeOf207
  v139 := Tryd.zeroValue207
  t146 := Tryd.underlying194
  a146 := Tryd.isAgg194
  z146 := Tryd.sizeOf194
  v146 := Tryd.zeroValue194
  g1 := by kernel_rfl
  g3 := by kernel_rfl
  g4 := by kernel_rfl
  i0 := by kernel_rfl
  i3 := by kernel_rfl
  i4 := by kernel_rfl
  i5 := by kernel_rfl
  i9 := by kernel_rfl
  i21 := by kernel_rfl
  i31 := by kernel_rfl
  i46 := by kernel_rfl
  i51 := by kernel_rfl
  i105 := by kernel_rfl
  i138 := by kernel_rfl
  i139 := by kernel_rfl
  i146 := by kernel_rfl
  m1 := by kernel_rfl
  s1_3 := fun w h => Go.Proofs.cell_of_shapedOpen_int (zero := #[.int .i64 0]) (t := 3) h (of_decide_eq_true (by kernel_rfl)) (by kernel_rfl) rfl (by kernel_rfl) (by kernel_rfl) Tryd.underlying3
  m3 := by kernel_rfl
  m4 := by kernel_rfl }
open Go.RowKit Go.Lib in
theorem Tryd.strings_Split_shaped (s sep : ByteArray) (w : World) (h : w.ShapedOpen Tryd.prog) (hs : s.size < 4294967281) (h1 : 1 ≤ sep.size) :
    Calls Tryd.prog 119 #[.string s, .string sep] w fun e w' =>
      e = .returned (.slice (some ⟨w.heap.size, 0, none⟩) (Lib.countB s sep + 1) (Lib.countB s sep + 1)) ∧ w' = w.alloc (.cells ((Lib.splitB sep 0 (Lib.countB s sep) s).map Value.string).toArray 9) := Any.strings_Split_shaped Tryd.laysM146 s sep w h hs h1
def Tryd.laysM154_ren : Go.Shelf.Ren := ⟨fun | 154 => 222 | 138 => 218 | 165 => 142 | 143 => 85 | 166 => 143 | 197 => 149 | 169 => 145 | 195 => 239 | 218 => 240 | 240 => 196 | 241 => 197 | 219 => 160 | 260 => 202 | 276 => 224 | 277 => 225 | 217 => 165 | 225 => 210 | 224 => 211 | 267 => 212 | 266 => 213 | 314 => 238 | n => n, fun | 9 => 9 | 3 => 3 | 4 => 4 | 72 => 142 | 0 => 0 | 76 => 146 | 105 => 152 | 21 => 21 | 5 => 5 | 70 => 140 | 20 => 20 | 37 => 22 | 75 => 145 | 127 => 175 | 164 => 198 | 46 => 155 | 119 => 204 | 139 => 207 | 138 => 206 | 146 => 194 | 51 => 193 | 80 => 149 | n => n, fun | 1 => 3 | 3 => 4 | 4 => 5 | n => n⟩
theorem Tryd.laysM154 : Go.Proofs.LaysM.n154 Tryd.prog Tryd.laysM154_ren := {
  mixed := by kernel_rfl
  f138 := Tryd.func218.trans (congrArg some (by kernel_rfl))
  f143 := Tryd.func85.trans (congrArg some (by kernel_rfl))
  f154 := Tryd.func222.trans (congrArg some (by kernel_rfl))
  f165 := Tryd.func142.trans (congrArg some (by kernel_rfl))
  f166 := Tryd.func143.trans (congrArg some (by kernel_rfl))
  f169 := Tryd.func145.trans (congrArg some (by kernel_rfl))
  f195 := Tryd.func239.trans (congrArg some (by kernel_rfl))
  f197 := Tryd.func149.trans (congrArg some (by kernel_rfl))
  f217 := Tryd.func165.trans (congrArg some (by kernel_rfl))
  f218 := Tryd.func240.trans (congrArg some (by kernel_rfl))
  f219 := Tryd.func160.trans (congrArg some (by kernel_rfl))
  f224 := Tryd.func211.trans (congrArg some (by kernel_rfl))
  f225 := Tryd.func210.trans (congrArg some (by kernel_rfl))
  f240 := Tryd.func196.trans (congrArg some (by kernel_rfl))
  f241 := Tryd.func197.trans (congrArg some (by kernel_rfl))
  f260 := Tryd.func202.trans (congrArg some (by kernel_rfl))
  f266 := Tryd.func213.trans (congrArg some (by kernel_rfl))
  f267 := Tryd.func212.trans (congrArg some (by kernel_rfl))
  f276 := Tryd.func224.trans (congrArg some (by kernel_rfl))
  f277 := Tryd.func225.trans (congrArg some (by kernel_rfl))
  f314 := Tryd.func238.trans (congrArg some (by kernel_rfl))
  t0 := Tryd.underlying0
  a0 := Tryd.isAgg0
  z0 := Tryd.sizeOf0
  v0 := Tryd.zeroValue0
  t3 := Tryd.underlying3
  a3 := Tryd.isAgg3
  z3 := Tryd.sizeOf3
  v3 := Tryd.zeroValue3
  t4 := Tryd.underlying4
  a4 := Tryd.isAgg4
  z4 := Tryd.sizeOf4
  v4 := Tryd.zeroValue4
  t5 := Tryd.underlying5
  a5 := Tryd.isAgg5
  z5 := Tryd.sizeOf5
  v5 := Tryd.zeroValue5
  t9 := Tryd.underlying9
  a9 := Tryd.isAgg9
  z9 := Tryd.sizeOf9
  v9 := Tryd.zeroValue9
  t20 := Tryd.underlying20
  a20 := Tryd.isAgg20
  z20 := Tryd.sizeOf20
  v20 := Tryd.zeroValue20
  t21 := Tryd.underlying21
  a21 := Tryd.isAgg21
  z21 := Tryd.sizeOf21
  v21 := Tryd.zeroValue21
  t37 := Tryd.underlying22
  a37 := Tryd.isAgg22
  z37 := Tryd.sizeOf22
  v37 := Tryd.zeroValue22
  t46 := Tryd.underlying155
  a46 := Tryd.isAgg155
  z46 := Tryd.sizeOf155
  v46 := Tryd.zeroValue155
  t51 := Tryd.underlying193
  a51 := Tryd.isAgg193
  z51 := Tryd.sizeOf193
  v51 := Tryd.zeroValue193
  t70 := Tryd.underlying140
  a70 := Tryd.isAgg140
  z70 := Tryd.sizeOf140
  v70 := Tryd.zeroValue140
  t72 := Tryd.underlying142
  a72 := Tryd.isAgg142
  z72 := Tryd.sizeOf142
  v72 := Tryd.zeroValue142
  t75 := Tryd.underlying145
  a75 := Tryd.isAgg145
  z75 := Tryd.sizeOf145
  v75 := Tryd.zeroValue145
  t76 := Tryd.underlying146
  a76 := Tryd.isAgg146
  z76 := Tryd.sizeOf146
  v76 := Tryd.zeroValue146
  t105 := Tryd.underlying152
  a105 := Tryd.isAgg152
  z105 := Tryd.sizeOf152
  v105 := Tryd.zeroValue152
  t119 := Tryd.underlying204
  a119 := Tryd.isAgg204
  z119 := Tryd.sizeOf204
  t127 := Tryd.underlying175
  a127 := Tryd.isAgg175
  z127 := Tryd.sizeOf175
  v127 := Tryd.zeroValue175
  t138 := Tryd.underlying206
  a138 := Tryd.isAgg206
  z138 := Tryd.sizeOf206
  v138 := Tryd.zeroValue206
  t139 := Tryd.underlying207
  a139 := Tryd.isAgg207
  z139 := Tryd.sizeOf207
  v139 := Tryd.zeroValue207
  t146 := Tryd.underlying194
  a146 := Tryd.isAgg194
  z146 := Tryd.sizeOf194
  v146 := Tryd.zeroValue194
  t164 := Tryd.underlying198
  a164 := Tryd.isAgg198
  z164 := Tryd.sizeOf198
  v164 := Tryd.zeroValue198
  g1 := by kernel_rfl
  g3 := by kernel_rfl
  g4 := by kernel_rfl
  t80 := Tryd.underlying149
  a80 := Tryd.isAgg149
  z80 := Tryd.sizeOf149
  v80 := Tryd.zeroValue149
  i0 := by kernel_rfl
  i3 := by kernel_rfl
  i4 := by kernel_rfl
  i5 := by kernel_rfl
  i9 := by kernel_rfl
  i20 := by kernel_rfl
  i21 := by kernel_rfl
  i37 := by kernel_rfl
  i46 := by kernel_rfl
  i51 := by kernel_rfl
  i70 := by kernel_rfl
  i72 := by kernel_rfl
  i75 := by kernel_rfl
  i76 := by kernel_rfl
  i80 := by kernel_rfl
  i105 := by kernel_rfl
  i127 := by kernel_rfl
  i138 := by kernel_rfl
  i139 := by kernel_rfl
  i146 := by kernel_rfl
  i164 := by kernel_rfl
  m1 := by kernel_rfl
  s1_3 := fun w h => Go.Proofs.cell_of_shapedOpen_int (zero := #[.int .i64 0]) (t := 3) h (of_decide_eq_true (by kernel_rfl)) (by kernel_rfl) rfl (by kernel_rfl) (by kernel_rfl) Tryd.underlying3
  m3 := by kernel_rfl
  m4 := by kernel_rfl }
theorem Tryd.Builder_Extra_M154 : Builder.Extra Tryd.prog Tryd.laysM154_ren := {
  sizeBuilder := by kernel_rfl
  liesBuilder := by kernel_rfl
  t5 := Tryd.underlying5
  a5 := Tryd.isAgg5
  z5 := Tryd.sizeOf5
  v5 := Tryd.zeroValue5
  infoByte := by kernel_rfl
  cellsByte := by kernel_rfl
  sizeByte := by kernel_rfl
  neB5 := by decide }
open Go.RowKit Go.Lib in
theorem Tryd.strings_Replace_shaped (s old new : ByteArray) (n : Int) (w : World) (h : w.ShapedOpen Tryd.prog) (hs : s.size < 4294967281) (h1 : 1 ≤ old.size) (hlen : s.size + Lib.countB s old * new.size ≤ 140737488355328) :
    Calls Tryd.prog 222 #[.string s, .string old, .string new, .int .i64 n] w fun e w' =>
      e = .returned (.string ⟨(Lib.replace s.data.toList old.data.toList new.data.toList n).toArray⟩) ∧ Below w.heap.size w w' := Any.strings_Replace_shaped Tryd.laysM154 Tryd.Builder_Extra_M154 s old new n w h hs h1 hlen
def Tryd.laysM155_ren : Go.Shelf.Ren := ⟨fun | 155 => 189 | 154 => 222 | 138 => 218 | 165 => 142 | 143 => 85 | 166 => 143 | 197 => 149 | 169 => 145 | 195 => 239 | 218 => 240 | 240 => 196 | 241 => 197 | 219 => 160 | 260 => 202 | 276 => 224 | 277 => 225 | 217 => 165 | 225 => 210 | 224 => 211 | 267 => 212 | 266 => 213 | 314 => 238 | n => n, fun | 9 => 9 | 3 => 3 | 4 => 4 | 72 => 142 | 0 => 0 | 76 => 146 | 105 => 152 | 21 => 21 | 5 => 5 | 70 => 140 | 20 => 20 | 37 => 22 | 75 => 145 | 127 => 175 | 164 => 198 | 46 => 155 | 119 => 204 | 139 => 207 | 138 => 206 | 146 => 194 | 51 => 193 | 80 => 149 | n => n, fun | 1 => 3 | 3 => 4 | 4 => 5 | n => n⟩
theorem Tryd.laysM155 : Go.Proofs.LaysM.n155 Tryd.prog Tryd.laysM155_ren := {
  mixed := by kernel_rfl
  f138 := Tryd.func218.trans (congrArg some (by kernel_rfl))
  f143 := Tryd.func85.trans (congrArg some (by kernel_rfl))
  f154 := Tryd.func222.trans (congrArg some (by kernel_rfl))
  f155 := Tryd.func189.trans (congrArg some (by kernel_rfl))
  f165 := Tryd.func142.trans (congrArg some (by kernel_rfl))
  f166 := Tryd.func143.trans (congrArg some (by kernel_rfl))
  f169 := Tryd.func145.trans (congrArg some (by kernel_rfl))
  f195 := Tryd.func239.trans (congrArg some (by kernel_rfl))
  f197 := Tryd.func149.trans (congrArg some (by kernel_rfl))
  f217 := Tryd.func165.trans (congrArg some (by kernel_rfl))
  f218 := Tryd.func240.trans (congrArg some (by kernel_rfl))
  f219 := Tryd.func160.trans (congrArg some (by kernel_rfl))
  f224 := Tryd.func211.trans (congrArg some (by kernel_rfl))
  f225 := Tryd.func210.trans (congrArg some (by kernel_rfl))
  f240 := Tryd.func196.trans (congrArg some (by kernel_rfl))
  f241 := Tryd.func197.trans (congrArg some (by kernel_rfl))
  f260 := Tryd.func202.trans (congrArg some (by kernel_rfl))
  f266 := Tryd.func213.trans (congrArg some (by kernel_rfl))
  f267 := Tryd.func212.trans (congrArg some (by kernel_rfl))
  f276 := Tryd.func224.trans (congrArg some (by kernel_rfl))
  f277 := Tryd.func225.trans (congrArg some (by kernel_rfl))
  f314 := Tryd.func238.trans (congrArg some (by kernel_rfl))
  t0 := Tryd.underlying0
  a0 := Tryd.isAgg0
  z0 := Tryd.sizeOf0
  v0 := Tryd.zeroValue0
  t3 := Tryd.underlying3
  a3 := Tryd.isAgg3
  z3 := Tryd.sizeOf3
  v3 := Tryd.zeroValue3
  t4 := Tryd.underlying4
  a4 := Tryd.isAgg4
  z4 := Tryd.sizeOf4
  v4 := Tryd.zeroValue4
  t5 := Tryd.underlying5
  a5 := Tryd.isAgg5
  z5 := Tryd.sizeOf5
  v5 := Tryd.zeroValue5
  t9 := Tryd.underlying9
  a9 := Tryd.isAgg9
  z9 := Tryd.sizeOf9
  v9 := Tryd.zeroValue9
  t20 := Tryd.underlying20
  a20 := Tryd.isAgg20
  z20 := Tryd.sizeOf20
  v20 := Tryd.zeroValue20
  t21 := Tryd.underlying21
  a21 := Tryd.isAgg21
  z21 := Tryd.sizeOf21
  v21 := Tryd.zeroValue21
  t37 := Tryd.underlying22
  a37 := Tryd.isAgg22
  z37 := Tryd.sizeOf22
  v37 := Tryd.zeroValue22
  t46 := Tryd.underlying155
  a46 := Tryd.isAgg155
  z46 := Tryd.sizeOf155
  v46 := Tryd.zeroValue155
  t51 := Tryd.underlying193
  a51 := Tryd.isAgg193
  z51 := Tryd.sizeOf193
  v51 := Tryd.zeroValue193
  t70 := Tryd.underlying140
  a70 := Tryd.isAgg140
  z70 := Tryd.sizeOf140
  v70 := Tryd.zeroValue140
  t72 := Tryd.underlying142
  a72 := Tryd.isAgg142
  z72 := Tryd.sizeOf142
  v72 := Tryd.zeroValue142
  t75 := Tryd.underlying145
  a75 := Tryd.isAgg145
  z75 := Tryd.sizeOf145
  v75 := Tryd.zeroValue145
  t76 := Tryd.underlying146
  a76 := Tryd.isAgg146
  z76 := Tryd.sizeOf146
  v76 := Tryd.zeroValue146
  t105 := Tryd.underlying152
  a105 := Tryd.isAgg152
  z105 := Tryd.sizeOf152
  v105 := Tryd.zeroValue152
  t119 := Tryd.underlying204
  a119 := Tryd.isAgg204
  z119 := Tryd.sizeOf204
  t127 := Tryd.underlying175
  a127 := Tryd.isAgg175
  z127 := Tryd.sizeOf175
  v127 := Tryd.zeroValue175
  t138 := Tryd.underlying206
  a138 := Tryd.isAgg206
  z138 := Tryd.sizeOf206
  v138 := Tryd.zeroValue206
  t139 := Tryd.underlying207
  a139 := Tryd.isAgg207
  z139 := Tryd.sizeOf207
  v139 := Tryd.zeroValue207
  t146 := Tryd.underlying194
  a146 := Tryd.isAgg194
  z146 := Tryd.sizeOf194
  v146 := Tryd.zeroValue194
  t164 := Tryd.underlying198
  a164 := Tryd.isAgg198
  z164 := Tryd.sizeOf198
  v164 := Tryd.zeroValue198
  g1 := by kernel_rfl
  g3 := by kernel_rfl
  g4 := by kernel_rfl
  t80 := Tryd.underlying149
  a80 := Tryd.isAgg149
  z80 := Tryd.sizeOf149
  v80 := Tryd.zeroValue149
  i0 := by kernel_rfl
  i3 := by kernel_rfl
  i4 := by kernel_rfl
  i5 := by kernel_rfl
  i9 := by kernel_rfl
  i20 := by kernel_rfl
  i21 := by kernel_rfl
  i37 := by kernel_rfl
  i46 := by kernel_rfl
  i51 := by kernel_rfl
  i70 := by kernel_rfl
  i72 := by kernel_rfl
  i75 := by kernel_rfl
  i76 := by kernel_rfl
  i80 := by kernel_rfl
  i105 := by kernel_rfl
  i127 := by kernel_rfl
  i138 := by kernel_rfl
  i139 := by kernel_rfl
  i146 := by kernel_rfl
  i164 := by kernel_rfl
  m1 := by kernel_rfl
  s1_3 := fun w h => Go.Proofs.cell_of_shapedOpen_int (zero := #[.int .i64 0]) (t := 3) h (of_decide_eq_true (by kernel_rfl)) (by kernel_rfl) rfl (by kernel_rfl) (by kernel_rfl) Tryd.underlying3
  m3 := by kernel_rfl
  m4 := by kernel_rfl }
theorem Tryd.Builder_Extra_M155 : Builder.Extra Tryd.prog Tryd.laysM155_ren := {
  sizeBuilder := by kernel_rfl
  liesBuilder := by kernel_rfl
  t5 := Tryd.underlying5
  a5 := Tryd.isAgg5
  z5 := Tryd.sizeOf5
  v5 := Tryd.zeroValue5
  infoByte := by kernel_rfl
  cellsByte := by kernel_rfl
  sizeByte := by kernel_rfl
  neB5 := by decide }
open Go.RowKit Go.Lib in
theorem Tryd.strings_ReplaceAll_shaped (s old new : ByteArray) (w : World) (h : w.ShapedOpen Tryd.prog) (hs : s.size < 4294967281) (h1 : 1 ≤ old.size) (hlen : s.size + Lib.countB s old * new.size ≤ 140737488355328) :
    Calls Tryd.prog 189 #[.string s, .string old, .string new] w fun e w' =>
      e = .returned (.string ⟨(Lib.replaceAll s.data.toList old.data.toList new.data.toList).toArray⟩) ∧ Below w.heap.size w w' := Any.strings_ReplaceAll_shaped Tryd.laysM155 Tryd.Builder_Extra_M155 s old new w h hs h1 hlen
def Tryd.lays203_ren : Go.Shelf.Ren := ⟨fun | 203 => 147 | 262 => 201 | 313 => 227 | 274 => 203 | 275 => 204 | n => n, fun | 21 => 21 | 4 => 4 | 3 => 3 | 162 => 187 | 203 => 202 | 160 => 185 | 46 => 155 | 0 => 0 | 208 => 211 | 51 => 193 | 206 => 209 | n => n, fun | 13 => 2 | n => n⟩
theorem Tryd.lays203 : Go.Proofs.Lays.n203 Tryd.prog Tryd.lays203_ren := {
  mixed := by kernel_rfl
  f203 := Tryd.func147.trans (congrArg some (by kernel_rfl))
  f262 := Tryd.func201.trans (congrArg some (by kernel_rfl))
  f274 := Tryd.func203.trans (congrArg some (by kernel_rfl))
  f275 := Tryd.func204.trans (congrArg some (by kernel_rfl))
  f313 := Tryd.func227.trans (congrArg some (by kernel_rfl))
  t0 := Tryd.underlying0
  a0 := Tryd.isAgg0
  z0 := Tryd.sizeOf0
  v0 := Tryd.zeroValue0
  t3 := Tryd.underlying3
  a3 := Tryd.isAgg3
  z3 := Tryd.sizeOf3
  v3 := Tryd.zeroValue3
  t4 := Tryd.underlying4
  a4 := Tryd.isAgg4
  z4 := Tryd.sizeOf4
  v4 := Tryd.zeroValue4
  t21 := Tryd.underlying21
  a21 := Tryd.isAgg21
  z21 := Tryd.sizeOf21
  v21 := Tryd.zeroValue21
  t46 := Tryd.underlying155
  a46 := Tryd.isAgg155
  z46 := Tryd.sizeOf155
  v46 := Tryd.zeroValue155
  t51 := Tryd.underlying193
  a51 := Tryd.isAgg193
  z51 := Tryd.sizeOf193
  v51 := Tryd.zeroValue193
  t160 := Tryd.underlying185
  a160 := Tryd.isAgg185
  z160 := Tryd.sizeOf185
  v160 := Tryd.zeroValue185
  t162 := Tryd.underlying187
  a162 := Tryd.isAgg187
  z162 := Tryd.sizeOf187
  v162 := Tryd.zeroValue187
  t203 := Tryd.underlying202
  a203 := Tryd.isAgg202
  z203 := Tryd.sizeOf202
  v203 := Tryd.zeroValue202
  t206 := Tryd.underlying209
  a206 := Tryd.isAgg209
  z206 := Tryd.sizeOf209
  v206 := Tryd.zeroValue209
  t208 := Tryd.underlying211
  a208 := Tryd.isAgg211
  z208 := Tryd.sizeOf211
  v208 := Tryd.zeroValue211
  g13 := by kernel_rfl }
open Go.RowKit Go.Lib in
theorem Tryd.unicode_ToUpper (r : Int) (w : World) (h : r ≤ 127) :
    Calls Tryd.prog 147 #[.int .i32 r] w fun e w' => e = .returned (.int .i32 (Lib.toUpperR r)) ∧ w' = w := Any.unicode_ToUpper Tryd.lays203 r w h
def Tryd.lays204_ren : Go.Shelf.Ren := ⟨fun | 204 => 148 | 262 => 201 | 313 => 227 | 274 => 203 | 275 => 204 | n => n, fun | 21 => 21 | 4 => 4 | 3 => 3 | 162 => 187 | 203 => 202 | 160 => 185 | 46 => 155 | 0 => 0 | 208 => 211 | 51 => 193 | 206 => 209 | n => n, fun | 13 => 2 | n => n⟩
theorem Tryd.lays204 : Go.Proofs.Lays.n204 Tryd.prog Tryd.lays204_ren := {
  mixed := by kernel_rfl
  f204 := Tryd.func148.trans (congrArg some (by kernel_rfl))
  f262 := Tryd.func201.trans (congrArg some (by kernel_rfl))
  f274 := Tryd.func203.trans (congrArg some (by kernel_rfl))
  f275 := Tryd.func204.trans (congrArg some (by kernel_rfl))
  f313 := Tryd.func227.trans (congrArg some (by kernel_rfl))
  t0 := Tryd.underlying0
  a0 := Tryd.isAgg0
  z0 := Tryd.sizeOf0
  v0 := Tryd.zeroValue0
  t3 := Tryd.underlying3
  a3 := Tryd.isAgg3
  z3 := Tryd.sizeOf3
  v3 := Tryd.zeroValue3
  t4 := Tryd.underlying4
  a4 := Tryd.isAgg4
  z4 := Tryd.sizeOf4
  v4 := Tryd.zeroValue4
  t21 := Tryd.underlying21
  a21 := Tryd.isAgg21
  z21 := Tryd.sizeOf21
  v21 := Tryd.zeroValue21
  t46 := Tryd.underlying155
  a46 := Tryd.isAgg155
  z46 := Tryd.sizeOf155
  v46 := Tryd.zeroValue155
  t51 := Tryd.underlying193
  a51 := Tryd.isAgg193
  z51 := Tryd.sizeOf193
  v51 := Tryd.zeroValue193
  t160 := Tryd.underlying185
  a160 := Tryd.isAgg185
  z160 := Tryd.sizeOf185
  v160 := Tryd.zeroValue185
  t162 := Tryd.underlying187
  a162 := Tryd.isAgg187
  z162 := Tryd.sizeOf187
  v162 := Tryd.zeroValue187
  t203 := Tryd.underlying202
  a203 := Tryd.isAgg202
  z203 := Tryd.sizeOf202
  v203 := Tryd.zeroValue202
  t206 := Tryd.underlying209
  a206 := Tryd.isAgg209
  z206 := Tryd.sizeOf209
  v206 := Tryd.zeroValue209
  t208 := Tryd.underlying211
  a208 := Tryd.isAgg211
  z208 := Tryd.sizeOf211
  v208 := Tryd.zeroValue211
  g13 := by kernel_rfl }
open Go.RowKit Go.Lib in
theorem Tryd.unicode_ToLower (r : Int) (w : World) (h : r ≤ 127) :
    Calls Tryd.prog 148 #[.int .i32 r] w fun e w' => e = .returned (.int .i32 (Lib.toLowerR r)) ∧ w' = w := Any.unicode_ToLower Tryd.lays204 r w h
def Tryd.lays152_ren : Go.Shelf.Ren := ⟨fun | 152 => 172 | 137 => 93 | 119 => 215 | 224 => 211 | 225 => 210 | 217 => 165 | 266 => 213 | n => n, fun | 9 => 9 | 21 => 21 | 3 => 3 | 4 => 4 | 5 => 5 | 0 => 0 | 46 => 155 | n => n, fun | n => n⟩
theorem Tryd.lays152 : Go.Proofs.Lays.n152 Tryd.prog Tryd.lays152_ren := {
  mixed := by kernel_rfl
  f119 := Tryd.func215.trans (congrArg some (by kernel_rfl))
  f137 := Tryd.func93.trans (congrArg some (by kernel_rfl))
  f152 := Tryd.func172.trans (congrArg some (by kernel_rfl))
  f217 := Tryd.func165.trans (congrArg some (by kernel_rfl))
  f224 := Tryd.func211.trans (congrArg some (by kernel_rfl))
  f225 := Tryd.func210.trans (congrArg some (by kernel_rfl))
  f266 := Tryd.func213.trans (congrArg some (by kernel_rfl))
  t0 := Tryd.underlying0
  a0 := Tryd.isAgg0
  z0 := Tryd.sizeOf0
  v0 := Tryd.zeroValue0
  t3 := Tryd.underlying3
  a3 := Tryd.isAgg3
  z3 := Tryd.sizeOf3
  v3 := Tryd.zeroValue3
  t4 := Tryd.underlying4
  a4 := Tryd.isAgg4
  z4 := Tryd.sizeOf4
  v4 := Tryd.zeroValue4
  t5 := Tryd.underlying5
  a5 := Tryd.isAgg5
  z5 := Tryd.sizeOf5
  v5 := Tryd.zeroValue5
  t9 := Tryd.underlying9
  a9 := Tryd.isAgg9
  z9 := Tryd.sizeOf9
  v9 := Tryd.zeroValue9
  t21 := Tryd.underlying21
  a21 := Tryd.isAgg21
  z21 := Tryd.sizeOf21
  v21 := Tryd.zeroValue21
  t46 := Tryd.underlying155
  a46 := Tryd.isAgg155
  z46 := Tryd.sizeOf155
  v46 := Tryd.zeroValue155 }
open Go.RowKit Go.Lib in
theorem Tryd.strings_IndexRune_ascii (s : ByteArray) (r : Int) (w : World) (h0 : 0 ≤ r) (h1 : r < 128) :
    Calls Tryd.prog 172 #[.string s, .int .i32 r] w fun e w' => e = .returned (.int .i64 (Lib.indexByte s.data.toList r.toNat.toUInt8)) ∧ w' = w := Any.strings_IndexRune_ascii Tryd.lays152 s r w h0 h1
def Tryd.lays151_ren : Go.Shelf.Ren := ⟨fun | 151 => 130 | 152 => 172 | 137 => 93 | 119 => 215 | 224 => 211 | 225 => 210 | 217 => 165 | 266 => 213 | n => n, fun | 9 => 9 | 21 => 21 | 4 => 4 | 3 => 3 | 5 => 5 | 0 => 0 | 46 => 155 | n => n, fun | n => n⟩
theorem Tryd.lays151 : Go.Proofs.Lays.n151 Tryd.prog Tryd.lays151_ren := {
  mixed := by kernel_rfl
  f119 := Tryd.func215.trans (congrArg some (by kernel_rfl))
  f137 := Tryd.func93.trans (congrArg some (by kernel_rfl))
  f151 := Tryd.func130.trans (congrArg some (by kernel_rfl))
  f152 := Tryd.func172.trans (congrArg some (by kernel_rfl))
  f217 := Tryd.func165.trans (congrArg some (by kernel_rfl))
  f224 := Tryd.func211.trans (congrArg some (by kernel_rfl))
  f225 := Tryd.func210.trans (congrArg some (by kernel_rfl))
  f266 := Tryd.func213.trans (congrArg some (by kernel_rfl))
  t0 := Tryd.underlying0
  a0 := Tryd.isAgg0
  z0 := Tryd.sizeOf0
  v0 := Tryd.zeroValue0
  t3 := Tryd.underlying3
  a3 := Tryd.isAgg3
  z3 := Tryd.sizeOf3
  v3 := Tryd.zeroValue3
  t4 := Tryd.underlying4
  a4 := Tryd.isAgg4
  z4 := Tryd.sizeOf4
  v4 := Tryd.zeroValue4
  t5 := Tryd.underlying5
  a5 := Tryd.isAgg5
  z5 := Tryd.sizeOf5
  v5 := Tryd.zeroValue5
  t9 := Tryd.underlying9
  a9 := Tryd.isAgg9
  z9 := Tryd.sizeOf9
  v9 := Tryd.zeroValue9
  t21 := Tryd.underlying21
  a21 := Tryd.isAgg21
  z21 := Tryd.sizeOf21
  v21 := Tryd.zeroValue21
  t46 := Tryd.underlying155
  a46 := Tryd.isAgg155
  z46 := Tryd.sizeOf155
  v46 := Tryd.zeroValue155 }
open Go.RowKit Go.Lib in
theorem Tryd.strings_ContainsRune_ascii (s : ByteArray) (r : Int) (w : World) (h0 : 0 ≤ r) (h1 : r < 128) :
    Calls Tryd.prog 130 #[.string s, .int .i32 r] w fun e w' => e = .returned (.bool (decide (0 ≤ Lib.indexByte s.data.toList r.toNat.toUInt8))) ∧ w' = w := Any.strings_ContainsRune_ascii Tryd.lays151 s r w h0 h1
def Tryd.lays226_ren : Go.Shelf.Ren := ⟨fun | 226 => 173 | n => n, fun | 3 => 3 | 4 => 4 | n => n, fun | n => n⟩
theorem Tryd.lays226 : Go.Proofs.Lays.n226 Tryd.prog Tryd.lays226_ren := {
  mixed := by kernel_rfl
  f226 := Tryd.func173.trans (congrArg some (by kernel_rfl))
  t3 := Tryd.underlying3
  a3 := Tryd.isAgg3
  z3 := Tryd.sizeOf3
  v3 := Tryd.zeroValue3
  t4 := Tryd.underlying4
  a4 := Tryd.isAgg4
  z4 := Tryd.sizeOf4
  v4 := Tryd.zeroValue4 }
open Go.RowKit Go.Lib in
theorem Tryd.strings_shouldUseASCIISet (n : Int) (w : World) :
    Calls Tryd.prog 173 #[.int .i64 n] w fun e w' => e = .returned (.bool (decide (8 < n))) ∧ w' = w := Any.strings_shouldUseASCIISet Tryd.lays226 n w
def Tryd.lays153_ren : Go.Shelf.Ren := ⟨fun | 153 => 107 | 152 => 172 | 226 => 173 | 227 => 97 | 228 => 169 | 137 => 93 | 119 => 215 | 224 => 211 | 225 => 210 | 217 => 165 | 266 => 213 | n => n, fun | 9 => 9 | 3 => 3 | 4 => 4 | 5 => 5 | 21 => 21 | 117 => 109 | 116 => 108 | 0 => 0 | 46 => 155 | 124 => 112 | n => n, fun | n => n⟩
theorem Tryd.lays153 : Go.Proofs.Lays.n153 Tryd.prog Tryd.lays153_ren := {
  mixed := by kernel_rfl
  f119 := Tryd.func215.trans (congrArg some (by kernel_rfl))
  f137 := Tryd.func93.trans (congrArg some (by kernel_rfl))
  f152 := Tryd.func172.trans (congrArg some (by kernel_rfl))
  f153 := Tryd.func107.trans (congrArg some (by kernel_rfl))
  f217 := Tryd.func165.trans (congrArg some (by kernel_rfl))
  f224 := Tryd.func211.trans (congrArg some (by kernel_rfl))
  f225 := Tryd.func210.trans (congrArg some (by kernel_rfl))
  f226 := Tryd.func173.trans (congrArg some (by kernel_rfl))
  f227 := Tryd.func97.trans (congrArg some (by kernel_rfl))
  f228 := Tryd.func169.trans (congrArg some (by kernel_rfl))
  f266 := Tryd.func213.trans (congrArg some (by kernel_rfl))
  t0 := Tryd.underlying0
  a0 := Tryd.isAgg0
  z0 := Tryd.sizeOf0
  v0 := Tryd.zeroValue0
  t3 := Tryd.underlying3
  a3 := Tryd.isAgg3
  z3 := Tryd.sizeOf3
  v3 := Tryd.zeroValue3
  t4 := Tryd.underlying4
  a4 := Tryd.isAgg4
  z4 := Tryd.sizeOf4
  v4 := Tryd.zeroValue4
  t5 := Tryd.underlying5
  a5 := Tryd.isAgg5
  z5 := Tryd.sizeOf5
  v5 := Tryd.zeroValue5
  t9 := Tryd.underlying9
  a9 := Tryd.isAgg9
  z9 := Tryd.sizeOf9
  v9 := Tryd.zeroValue9
  t21 := Tryd.underlying21
  a21 := Tryd.isAgg21
  z21 := Tryd.sizeOf21
  v21 := Tryd.zeroValue21
  t46 := Tryd.underlying155
  a46 := Tryd.isAgg155
  z46 := Tryd.sizeOf155
  v46 := Tryd.zeroValue155
  t116 := Tryd.underlying108
  a116 := Tryd.isAgg108
  z116 := Tryd.sizeOf108
  t117 := Tryd.underlying109
  a117 := Tryd.isAgg109
  z117 := Tryd.sizeOf109
  v117 := Tryd.zeroValue109
  t124 := Tryd.underlying112
  a124 := Tryd.isAgg112
  z124 := Tryd.sizeOf112
  v124 := Tryd.zeroValue112 }
open Go.RowKit Go.Lib in
theorem Tryd.strings_IndexAny_none (s chars : ByteArray) (w : World) (h0 : chars.size = 0) :
    Calls Tryd.prog 107 #[.string s, .string chars] w fun e w' => e = .returned (.int .i64 (Lib.indexAny s.data.toList chars.data.toList)) ∧ w' = w := Any.strings_IndexAny_none Tryd.lays153 s chars w h0
open Go.RowKit Go.Lib in
theorem Tryd.strings_IndexAny_one (s chars : ByteArray) (w : World) (h1 : chars.size = 1) (hascii : ∀ (j : Nat) b, chars.data.toList[j]? = some b → b.toNat < 128) :
    Calls Tryd.prog 107 #[.string s, .string chars] w fun e w' => e = .returned (.int .i64 (Lib.indexAny s.data.toList chars.data.toList)) ∧ w' = w := Any.strings_IndexAny_one Tryd.lays153 s chars w h1 hascii
open Go.RowKit Go.Lib in
theorem Tryd.strings_IndexAny_short (s chars : ByteArray) (w : World) (h2 : 2 ≤ chars.size) (h8 : s.size ≤ 8) (hascii : ∀ (j : Nat) b, s.data.toList[j]? = some b → b.toNat < 128) :
    Calls Tryd.prog 107 #[.string s, .string chars] w fun e w' => e = .returned (.int .i64 (Lib.indexAny s.data.toList chars.data.toList)) ∧ ∃ pos, w' = w.iter s pos := Any.strings_IndexAny_short Tryd.lays153 s chars w h2 h8 hascii
def Tryd.lays227_ren : Go.Shelf.Ren := ⟨fun | 227 => 97 | n => n, fun | 9 => 9 | 116 => 108 | 4 => 4 | 0 => 0 | 3 => 3 | 5 => 5 | n => n, fun | n => n⟩
theorem Tryd.lays227 : Go.Proofs.Lays.n227 Tryd.prog Tryd.lays227_ren := {
  mixed := by kernel_rfl
  f227 := Tryd.func97.trans (congrArg some (by kernel_rfl))
  t0 := Tryd.underlying0
  a0 := Tryd.isAgg0
  z0 := Tryd.sizeOf0
  v0 := Tryd.zeroValue0
  t3 := Tryd.underlying3
  a3 := Tryd.isAgg3
  z3 := Tryd.sizeOf3
  v3 := Tryd.zeroValue3
  t4 := Tryd.underlying4
  a4 := Tryd.isAgg4
  z4 := Tryd.sizeOf4
  v4 := Tryd.zeroValue4
  t5 := Tryd.underlying5
  a5 := Tryd.isAgg5
  z5 := Tryd.sizeOf5
  v5 := Tryd.zeroValue5
  t9 := Tryd.underlying9
  a9 := Tryd.isAgg9
  z9 := Tryd.sizeOf9
  v9 := Tryd.zeroValue9
  t116 := Tryd.underlying108
  a116 := Tryd.isAgg108
  z116 := Tryd.sizeOf108 }
open Go.RowKit Go.Lib in
theorem Tryd.strings_makeASCIISet (hv116 : ∀ w, (zeroValue 108).run Tryd.prog w = .ok (.agg (Array.replicate 256 (.bool false))) w) (chars : ByteArray) (w : World) (hs : chars.size < 4294967281) (hascii : ∀ (j : Nat) b, chars.data.toList[j]? = some b → b.toNat < 128) :
    Calls Tryd.prog 97 #[.string chars] w fun e w' => e = .returned (.tuple #[.agg (Lib.setCells chars.data.toList), .bool true]) ∧ w' = w.alloc (.cells (Lib.setCells chars.data.toList) 108) := Any.strings_makeASCIISet Tryd.lays227 hv116 (by kernel_rfl) chars w hs hascii
def Tryd.lays228_ren : Go.Shelf.Ren := ⟨fun | 228 => 169 | n => n, fun | 124 => 112 | 5 => 5 | 4 => 4 | 0 => 0 | 116 => 108 | n => n, fun | n => n⟩
theorem Tryd.lays228 : Go.Proofs.Lays.n228 Tryd.prog Tryd.lays228_ren := {
  mixed := by kernel_rfl
  f228 := Tryd.func169.trans (congrArg some (by kernel_rfl))
  t0 := Tryd.underlying0
  a0 := Tryd.isAgg0
  z0 := Tryd.sizeOf0
  v0 := Tryd.zeroValue0
  t4 := Tryd.underlying4
  a4 := Tryd.isAgg4
  z4 := Tryd.sizeOf4
  v4 := Tryd.zeroValue4
  t5 := Tryd.underlying5
  a5 := Tryd.isAgg5
  z5 := Tryd.sizeOf5
  v5 := Tryd.zeroValue5
  t116 := Tryd.underlying108
  a116 := Tryd.isAgg108
  z116 := Tryd.sizeOf108
  t124 := Tryd.underlying112
  a124 := Tryd.isAgg112
  z124 := Tryd.sizeOf112
  v124 := Tryd.zeroValue112 }
open Go.RowKit Go.Lib in
theorem Tryd.asciiSet_contains (b : Nat) (x : UInt8) (v : Bool) (w : World) (hc : w.cell? ⟨b, x.toNat, none⟩ = some (.bool v)) :
    Calls Tryd.prog 169 #[.pointer (some ⟨b, 0, none⟩), .int .u8 x.toNat] w fun e w' => e = .returned (.bool v) ∧ w' = w := Any.asciiSet_contains Tryd.lays228 b x v w hc
open Go.RowKit Go.Lib in
theorem Tryd.strings_IndexAny_long (hv116 : ∀ w, (zeroValue 108).run Tryd.prog w = .ok (.agg (Array.replicate 256 (.bool false))) w) (s chars : ByteArray) (w : World) (h2 : 2 ≤ chars.size) (h8 : 8 < s.size) (hs : s.size < 4294967281) (hcs : chars.size < 4294967281) (hascii : ∀ (j : Nat) b, chars.data.toList[j]? = some b → b.toNat < 128) :
    Calls Tryd.prog 107 #[.string s, .string chars] w fun e w' => e = .returned (.int .i64 (Lib.indexAny s.data.toList chars.data.toList)) ∧ w' = ((w.alloc (.cells (Lib.setCells chars.data.toList) 108)).alloc (.cells (Lib.setCells chars.data.toList) 108)) := Any.strings_IndexAny_long Tryd.lays153 hv116 (by kernel_rfl) s chars w h2 h8 hs hcs hascii
open Go.RowKit Go.Lib in
theorem Tryd.strings_IndexAny (hv116 : ∀ w, (zeroValue 108).run Tryd.prog w = .ok (.agg (Array.replicate 256 (.bool false))) w) (s chars : ByteArray) (w : World) (hs : s.size < 4294967281) (hcs : chars.size < 4294967281) (has : ∀ (j : Nat) b, s.data.toList[j]? = some b → b.toNat < 128) (hac : ∀ (j : Nat) b, chars.data.toList[j]? = some b → b.toNat < 128) :
    Calls Tryd.prog 107 #[.string s, .string chars] w fun e w' => e = .returned (.int .i64 (Lib.indexAny s.data.toList chars.data.toList)) ∧ Below w.heap.size w w' := Any.strings_IndexAny Tryd.lays153 hv116 (by kernel_rfl) s chars w hs hcs has hac
open Go.RowKit Go.Lib in
theorem Tryd.strings_IndexAny_laid (s chars : ByteArray) (w : World) (hs : s.size < 4294967281) (hcs : chars.size < 4294967281) (has : ∀ (j : Nat) b, s.data.toList[j]? = some b → b.toNat < 128) (hac : ∀ (j : Nat) b, chars.data.toList[j]? = some b → b.toNat < 128) :
    Calls Tryd.prog 107 #[.string s, .string chars] w fun e w' => e = .returned (.int .i64 (Lib.indexAny s.data.toList chars.data.toList)) ∧ Below w.heap.size w w' := Any.strings_IndexAny_laid Tryd.lays153 (by kernel_rfl) s chars w hs hcs has hac
def Tryd.lays260_ren : Go.Shelf.Ren := ⟨fun | 260 => 202 | n => n, fun | 9 => 9 | 21 => 21 | 3 => 3 | 4 => 4 | 5 => 5 | 119 => 204 | 0 => 0 | 46 => 155 | 139 => 207 | 138 => 206 | n => n, fun | 3 => 4 | 4 => 5 | n => n⟩
theorem Tryd.lays260 : Go.Proofs.Lays.n260 Tryd.prog Tryd.lays260_ren := {
  mixed := by kernel_rfl
  f260 := Tryd.func202.trans (congrArg some (by kernel_rfl))
  t0 := Tryd.underlying0
  a0 := Tryd.isAgg0
  z0 := Tryd.sizeOf0
  v0 := Tryd.zeroValue0
  t3 := Tryd.underlying3
  a3 := Tryd.isAgg3
  z3 := Tryd.sizeOf3
  v3 := Tryd.zeroValue3
  t4 := Tryd.underlying4
  a4 := Tryd.isAgg4
  z4 := Tryd.sizeOf4
  v4 := Tryd.zeroValue4
  t5 := Tryd.underlying5
  a5 := Tryd.isAgg5
  z5 := Tryd.sizeOf5
  v5 := Tryd.zeroValue5
  t9 := Tryd.underlying9
  a9 := Tryd.isAgg9
  z9 := Tryd.sizeOf9
  v9 := Tryd.zeroValue9
  t21 := Tryd.underlying21
  a21 := Tryd.isAgg21
  z21 := Tryd.sizeOf21
  v21 := Tryd.zeroValue21
  t46 := Tryd.underlying155
  a46 := Tryd.isAgg155
  z46 := Tryd.sizeOf155
  v46 := Tryd.zeroValue155
  t119 := Tryd.underlying204
  a119 := Tryd.isAgg204
  z119 := Tryd.sizeOf204
  t138 := Tryd.underlying206
  a138 := Tryd.isAgg206
  z138 := Tryd.sizeOf206
  v138 := Tryd.zeroValue206
  t139 := Tryd.underlying207
  a139 := Tryd.isAgg207
  z139 := Tryd.sizeOf207
  v139 := Tryd.zeroValue207
  g3 := by kernel_rfl
  g4 := by kernel_rfl }
open Go.RowKit Go.Lib in
theorem Tryd.utf8_decodeRuneInStringSlow (s : ByteArray) (w : World) (hT : Lib.Utf8Tabs 4 5 w) :
    Calls Tryd.prog 202 #[.string s] w fun e w' => e = .returned (.tuple #[.int .i32 (Lib.decodeGo s).1, .int .i64 (Lib.decodeGo s).2]) ∧ Below w.heap.size w w' := Any.utf8_decodeRuneInStringSlow Tryd.lays260 s w hT
def Tryd.lays197_ren : Go.Shelf.Ren := ⟨fun | 197 => 149 | 260 => 202 | n => n, fun | 9 => 9 | 21 => 21 | 3 => 3 | 4 => 4 | 5 => 5 | 105 => 152 | 119 => 204 | 0 => 0 | 46 => 155 | 139 => 207 | 138 => 206 | n => n, fun | 3 => 4 | 4 => 5 | n => n⟩
theorem Tryd.lays197 : Go.Proofs.Lays.n197 Tryd.prog Tryd.lays197_ren := {
  mixed := by kernel_rfl
  f197 := Tryd.func149.trans (congrArg some (by kernel_rfl))
  f260 := Tryd.func202.trans (congrArg some (by kernel_rfl))
  t0 := Tryd.underlying0
  a0 := Tryd.isAgg0
  z0 := Tryd.sizeOf0
  v0 := Tryd.zeroValue0
  t3 := Tryd.underlying3
  a3 := Tryd.isAgg3
  z3 := Tryd.sizeOf3
  v3 := Tryd.zeroValue3
  t4 := Tryd.underlying4
  a4 := Tryd.isAgg4
  z4 := Tryd.sizeOf4
  v4 := Tryd.zeroValue4
  t5 := Tryd.underlying5
  a5 := Tryd.isAgg5
  z5 := Tryd.sizeOf5
  v5 := Tryd.zeroValue5
  t9 := Tryd.underlying9
  a9 := Tryd.isAgg9
  z9 := Tryd.sizeOf9
  v9 := Tryd.zeroValue9
  t21 := Tryd.underlying21
  a21 := Tryd.isAgg21
  z21 := Tryd.sizeOf21
  v21 := Tryd.zeroValue21
  t46 := Tryd.underlying155
  a46 := Tryd.isAgg155
  z46 := Tryd.sizeOf155
  v46 := Tryd.zeroValue155
  t105 := Tryd.underlying152
  a105 := Tryd.isAgg152
  z105 := Tryd.sizeOf152
  v105 := Tryd.zeroValue152
  t119 := Tryd.underlying204
  a119 := Tryd.isAgg204
  z119 := Tryd.sizeOf204
  t138 := Tryd.underlying206
  a138 := Tryd.isAgg206
  z138 := Tryd.sizeOf206
  v138 := Tryd.zeroValue206
  t139 := Tryd.underlying207
  a139 := Tryd.isAgg207
  z139 := Tryd.sizeOf207
  v139 := Tryd.zeroValue207
  g3 := by kernel_rfl
  g4 := by kernel_rfl }
open Go.RowKit Go.Lib in
theorem Tryd.utf8_DecodeRuneInString (s : ByteArray) (w : World) (hT : Lib.Utf8Tabs 4 5 w) :
    Calls Tryd.prog 149 #[.string s] w fun e w' => e = .returned (.tuple #[.int .i32 (Lib.decodeGo s).1, .int .i64 (Lib.decodeGo s).2]) ∧ Below w.heap.size w w' := Any.utf8_DecodeRuneInString Tryd.lays197 s w hT
def Tryd.lays271_ren : Go.Shelf.Ren := ⟨fun | 271 => 170 | 120 => 214 | 197 => 149 | 260 => 202 | n => n, fun | 9 => 9 | 21 => 21 | 3 => 3 | 4 => 4 | 5 => 5 | 105 => 152 | 119 => 204 | 0 => 0 | 46 => 155 | 139 => 207 | 138 => 206 | n => n, fun | 3 => 4 | 4 => 5 | n => n⟩
theorem Tryd.lays271 : Go.Proofs.Lays.n271 Tryd.prog Tryd.lays271_ren := {
  mixed := by kernel_rfl
  f120 := Tryd.func214.trans (congrArg some (by kernel_rfl))
  f197 := Tryd.func149.trans (congrArg some (by kernel_rfl))
  f260 := Tryd.func202.trans (congrArg some (by kernel_rfl))
  f271 := Tryd.func170.trans (congrArg some (by kernel_rfl))
  t0 := Tryd.underlying0
  a0 := Tryd.isAgg0
  z0 := Tryd.sizeOf0
  v0 := Tryd.zeroValue0
  t3 := Tryd.underlying3
  a3 := Tryd.isAgg3
  z3 := Tryd.sizeOf3
  v3 := Tryd.zeroValue3
  t4 := Tryd.underlying4
  a4 := Tryd.isAgg4
  z4 := Tryd.sizeOf4
  v4 := Tryd.zeroValue4
  t5 := Tryd.underlying5
  a5 := Tryd.isAgg5
  z5 := Tryd.sizeOf5
  v5 := Tryd.zeroValue5
  t9 := Tryd.underlying9
  a9 := Tryd.isAgg9
  z9 := Tryd.sizeOf9
  v9 := Tryd.zeroValue9
  t21 := Tryd.underlying21
  a21 := Tryd.isAgg21
  z21 := Tryd.sizeOf21
  v21 := Tryd.zeroValue21
  t46 := Tryd.underlying155
  a46 := Tryd.isAgg155
  z46 := Tryd.sizeOf155
  v46 := Tryd.zeroValue155
  t105 := Tryd.underlying152
  a105 := Tryd.isAgg152
  z105 := Tryd.sizeOf152
  v105 := Tryd.zeroValue152
  t119 := Tryd.underlying204
  a119 := Tryd.isAgg204
  z119 := Tryd.sizeOf204
  t138 := Tryd.underlying206
  a138 := Tryd.isAgg206
  z138 := Tryd.sizeOf206
  v138 := Tryd.zeroValue206
  t139 := Tryd.underlying207
  a139 := Tryd.isAgg207
  z139 := Tryd.sizeOf207
  v139 := Tryd.zeroValue207
  g3 := by kernel_rfl
  g4 := by kernel_rfl }
open Go.RowKit Go.Lib in
theorem Tryd.utf8_DecodeLastRuneInString (s : ByteArray) (w : World) (hs : s.size ≤ 9223372036854775807) (hT : Lib.Utf8Tabs 4 5 w) :
    Calls Tryd.prog 170 #[.string s] w fun e w' => e = .returned (.tuple #[.int .i32 (Lib.decodeLastL s.data.toList).1, .int .i64 (Lib.decodeLastL s.data.toList).2]) ∧ Below w.heap.size w w' := Any.utf8_DecodeLastRuneInString Tryd.lays271 s w hs hT
def Tryd.lays274_ren : Go.Shelf.Ren := ⟨fun | 274 => 203 | n => n, fun | 21 => 21 | 162 => 187 | 160 => 185 | 3 => 3 | 4 => 4 | 46 => 155 | 0 => 0 | 208 => 211 | 51 => 193 | 206 => 209 | n => n, fun | n => n⟩
theorem Tryd.lays274 : Go.Proofs.Lays.n274 Tryd.prog Tryd.lays274_ren := {
  mixed := by kernel_rfl
  f274 := Tryd.func203.trans (congrArg some (by kernel_rfl))
  t0 := Tryd.underlying0
  a0 := Tryd.isAgg0
  z0 := Tryd.sizeOf0
  v0 := Tryd.zeroValue0
  t3 := Tryd.underlying3
  a3 := Tryd.isAgg3
  z3 := Tryd.sizeOf3
  v3 := Tryd.zeroValue3
  t4 := Tryd.underlying4
  a4 := Tryd.isAgg4
  z4 := Tryd.sizeOf4
  v4 := Tryd.zeroValue4
  t21 := Tryd.underlying21
  a21 := Tryd.isAgg21
  z21 := Tryd.sizeOf21
  v21 := Tryd.zeroValue21
  t46 := Tryd.underlying155
  a46 := Tryd.isAgg155
  z46 := Tryd.sizeOf155
  v46 := Tryd.zeroValue155
  t51 := Tryd.underlying193
  a51 := Tryd.isAgg193
  z51 := Tryd.sizeOf193
  v51 := Tryd.zeroValue193
  t160 := Tryd.underlying185
  a160 := Tryd.isAgg185
  z160 := Tryd.sizeOf185
  v160 := Tryd.zeroValue185
  t162 := Tryd.underlying187
  a162 := Tryd.isAgg187
  z162 := Tryd.sizeOf187
  v162 := Tryd.zeroValue187
  t208 := Tryd.underlying211
  a208 := Tryd.isAgg211
  z208 := Tryd.sizeOf211
  v208 := Tryd.zeroValue211 }
open Go.RowKit Go.Lib in
theorem Tryd.unicode_lookupCaseRange (T : Array CaseRow) (R oR cap : Nat) (r : Int) (w : World) (hT : CaseTab R oR T w) (hok : CaseOk T) (hn : T.size ≤ 1000000000) :
    Calls Tryd.prog 203 #[.int .i32 r, .slice (some ⟨R, oR, none⟩) T.size cap] w fun e w' =>
      e = .returned (match lookupIdx T r (T.size + 1) 0 T.size with | some i => .pointer (some ⟨R, oR + i * 5, none⟩) | none => .pointer none) ∧ w' = w := Any.unicode_lookupCaseRange Tryd.lays274 T R oR cap r w hT hok hn
def Tryd.lays275_ren : Go.Shelf.Ren := ⟨fun | 275 => 204 | n => n, fun | 3 => 3 | 21 => 21 | 160 => 185 | 0 => 0 | 208 => 211 | 206 => 209 | 4 => 4 | 51 => 193 | n => n, fun | n => n⟩
theorem Tryd.lays275 : Go.Proofs.Lays.n275 Tryd.prog Tryd.lays275_ren := {
  mixed := by kernel_rfl
  f275 := Tryd.func204.trans (congrArg some (by kernel_rfl))
  t0 := Tryd.underlying0
  a0 := Tryd.isAgg0
  z0 := Tryd.sizeOf0
  v0 := Tryd.zeroValue0
  t3 := Tryd.underlying3
  a3 := Tryd.isAgg3
  z3 := Tryd.sizeOf3
  v3 := Tryd.zeroValue3
  t4 := Tryd.underlying4
  a4 := Tryd.isAgg4
  z4 := Tryd.sizeOf4
  v4 := Tryd.zeroValue4
  t21 := Tryd.underlying21
  a21 := Tryd.isAgg21
  z21 := Tryd.sizeOf21
  v21 := Tryd.zeroValue21
  t51 := Tryd.underlying193
  a51 := Tryd.isAgg193
  z51 := Tryd.sizeOf193
  v51 := Tryd.zeroValue193
  t160 := Tryd.underlying185
  a160 := Tryd.isAgg185
  z160 := Tryd.sizeOf185
  v160 := Tryd.zeroValue185
  t206 := Tryd.underlying209
  a206 := Tryd.isAgg209
  z206 := Tryd.sizeOf209
  v206 := Tryd.zeroValue209
  t208 := Tryd.underlying211
  a208 := Tryd.isAgg211
  z208 := Tryd.sizeOf211
  v208 := Tryd.zeroValue211 }
open Go.RowKit Go.Lib in
theorem Tryd.unicode_convertCase (c : Nat) (hc : c < 3) (r : Int) (A o : Nat) (x : CaseRow) (w : World) (hlo : (x.1 : Int) ≤ r) (hhi : r ≤ (x.2.1 : Int)) (hH : x.2.1 < 2147483647) (c0 : w.cell? ⟨A, o, none⟩ = some (.int .u32 x.1)) (cD : w.cell? ⟨A, o + 2 + c, none⟩ = some (.int .i32 (x.delta c))) :
    Calls Tryd.prog 204 #[.int .i64 c, .int .i32 r, .pointer (some ⟨A, o, none⟩)] w fun e w' => e = .returned (.int .i32 (wrap32 (convertR c r x))) ∧ ∃ q, w' = w.drewN q := Any.unicode_convertCase Tryd.lays275 c hc r A o x w hlo hhi hH c0 cD
def Tryd.lays313_ren : Go.Shelf.Ren := ⟨fun | 313 => 227 | 274 => 203 | 275 => 204 | n => n, fun | 3 => 3 | 21 => 21 | 162 => 187 | 4 => 4 | 160 => 185 | 46 => 155 | 0 => 0 | 208 => 211 | 51 => 193 | 206 => 209 | n => n, fun | n => n⟩
theorem Tryd.lays313 : Go.Proofs.Lays.n313 Tryd.prog Tryd.lays313_ren := {
  mixed := by kernel_rfl
  f274 := Tryd.func203.trans (congrArg some (by kernel_rfl))
  f275 := Tryd.func204.trans (congrArg some (by kernel_rfl))
  f313 := Tryd.func227.trans (congrArg some (by kernel_rfl))
  t0 := Tryd.underlying0
  a0 := Tryd.isAgg0
  z0 := Tryd.sizeOf0
  v0 := Tryd.zeroValue0
  t3 := Tryd.underlying3
  a3 := Tryd.isAgg3
  z3 := Tryd.sizeOf3
  v3 := Tryd.zeroValue3
  t4 := Tryd.underlying4
  a4 := Tryd.isAgg4
  z4 := Tryd.sizeOf4
  v4 := Tryd.zeroValue4
  t21 := Tryd.underlying21
  a21 := Tryd.isAgg21
  z21 := Tryd.sizeOf21
  v21 := Tryd.zeroValue21
  t46 := Tryd.underlying155
  a46 := Tryd.isAgg155
  z46 := Tryd.sizeOf155
  v46 := Tryd.zeroValue155
  t51 := Tryd.underlying193
  a51 := Tryd.isAgg193
  z51 := Tryd.sizeOf193
  v51 := Tryd.zeroValue193
  t160 := Tryd.underlying185
  a160 := Tryd.isAgg185
  z160 := Tryd.sizeOf185
  v160 := Tryd.zeroValue185
  t162 := Tryd.underlying187
  a162 := Tryd.isAgg187
  z162 := Tryd.sizeOf187
  v162 := Tryd.zeroValue187
  t206 := Tryd.underlying209
  a206 := Tryd.isAgg209
  z206 := Tryd.sizeOf209
  v206 := Tryd.zeroValue209
  t208 := Tryd.underlying211
  a208 := Tryd.isAgg211
  z208 := Tryd.sizeOf211
  v208 := Tryd.zeroValue211 }
open Go.RowKit Go.Lib in
theorem Tryd.unicode_to (c : Nat) (hc : c < 3) (r : Int) (T : Array CaseRow) (R oR cap : Nat) (w : World) (hT : CaseTab R oR T w) (hok : CaseOk2 T) (hn : T.size ≤ 1000000000) :
    Calls Tryd.prog 227 #[.int .i64 c, .int .i32 r, .slice (some ⟨R, oR, none⟩) T.size cap] w fun e w' => e = .returned (.tuple #[.int .i32 (toW T c r), .bool (lookupIdx T r (T.size + 1) 0 T.size).isSome]) ∧ ∃ q, w' = w.drewN q := Any.unicode_to Tryd.lays313 c hc r T R oR cap w hT hok hn
def Tryd.lays262_ren : Go.Shelf.Ren := ⟨fun | 262 => 201 | 313 => 227 | 274 => 203 | 275 => 204 | n => n, fun | 3 => 3 | 21 => 21 | 162 => 187 | 203 => 202 | 4 => 4 | 160 => 185 | 46 => 155 | 0 => 0 | 208 => 211 | 51 => 193 | 206 => 209 | n => n, fun | 13 => 2 | n => n⟩
theorem Tryd.lays262 : Go.Proofs.Lays.n262 Tryd.prog Tryd.lays262_ren := {
  mixed := by kernel_rfl
  f262 := Tryd.func201.trans (congrArg some (by kernel_rfl))
  f274 := Tryd.func203.trans (congrArg some (by kernel_rfl))
  f275 := Tryd.func204.trans (congrArg some (by kernel_rfl))
  f313 := Tryd.func227.trans (congrArg some (by kernel_rfl))
  t0 := Tryd.underlying0
  a0 := Tryd.isAgg0
  z0 := Tryd.sizeOf0
  v0 := Tryd.zeroValue0
  t3 := Tryd.underlying3
  a3 := Tryd.isAgg3
  z3 := Tryd.sizeOf3
  v3 := Tryd.zeroValue3
  t4 := Tryd.underlying4
  a4 := Tryd.isAgg4
  z4 := Tryd.sizeOf4
  v4 := Tryd.zeroValue4
  t21 := Tryd.underlying21
  a21 := Tryd.isAgg21
  z21 := Tryd.sizeOf21
  v21 := Tryd.zeroValue21
  t46 := Tryd.underlying155
  a46 := Tryd.isAgg155
  z46 := Tryd.sizeOf155
  v46 := Tryd.zeroValue155
  t51 := Tryd.underlying193
  a51 := Tryd.isAgg193
  z51 := Tryd.sizeOf193
  v51 := Tryd.zeroValue193
  t160 := Tryd.underlying185
  a160 := Tryd.isAgg185
  z160 := Tryd.sizeOf185
  v160 := Tryd.zeroValue185
  t162 := Tryd.underlying187
  a162 := Tryd.isAgg187
  z162 := Tryd.sizeOf187
  v162 := Tryd.zeroValue187
  t203 := Tryd.underlying202
  a203 := Tryd.isAgg202
  z203 := Tryd.sizeOf202
  v203 := Tryd.zeroValue202
  t206 := Tryd.underlying209
  a206 := Tryd.isAgg209
  z206 := Tryd.sizeOf209
  v206 := Tryd.zeroValue209
  t208 := Tryd.underlying211
  a208 := Tryd.isAgg211
  z208 := Tryd.sizeOf211
  v208 := Tryd.zeroValue211
  g13 := by kernel_rfl }
open Go.RowKit Go.Lib in
theorem Tryd.unicode_To (c : Nat) (hc : c < 3) (r : Int) (T : Array CaseRow) (w : World) (hV : CaseVar 2 T w) (hok : CaseOk2 T) (hn : T.size ≤ 1000000000) :
    Calls Tryd.prog 201 #[.int .i64 c, .int .i32 r] w fun e w' => e = .returned (.int .i32 (toW T c r)) ∧ ∃ q, w' = w.drewN q := Any.unicode_To Tryd.lays262 c hc r T w hV hok hn
open Go.RowKit Go.Lib in
theorem Tryd.unicode_ToLower_any (r : Int) (T : Array CaseRow) (w : World) (hV : CaseVar 2 T w) (hok : CaseOk2 T) (hn : T.size ≤ 1000000000) :
    Calls Tryd.prog 148 #[.int .i32 r] w fun e w' => e = .returned (.int .i32 (Lib.toLowerW T r)) ∧ ∃ q, w' = w.drewN q := Any.unicode_ToLower_any Tryd.lays204 r T w hV hok hn
open Go.RowKit Go.Lib in
theorem Tryd.unicode_ToUpper_any (r : Int) (T : Array CaseRow) (w : World) (hV : CaseVar 2 T w) (hok : CaseOk2 T) (hn : T.size ≤ 1000000000) :
    Calls Tryd.prog 147 #[.int .i32 r] w fun e w' => e = .returned (.int .i32 (Lib.toUpperW T r)) ∧ ∃ q, w' = w.drewN q := Any.unicode_ToUpper_any Tryd.lays203 r T w hV hok hn
open Go.RowKit Go.Lib in
theorem Tryd.unicode_ToLower_laid (r : Int) (w : World) (hV : CaseVar 2 caseA w) :
    Calls Tryd.prog 148 #[.int .i32 r] w fun e w' => e = .returned (.int .i32 (toLowerU r)) ∧ ∃ q, w' = w.drewN q := Any.unicode_ToLower_laid Tryd.lays204 r w hV
open Go.RowKit Go.Lib in
theorem Tryd.unicode_ToUpper_laid (r : Int) (w : World) (hV : CaseVar 2 caseA w) :
    Calls Tryd.prog 147 #[.int .i32 r] w fun e w' => e = .returned (.int .i32 (toUpperU r)) ∧ ∃ q, w' = w.drewN q := Any.unicode_ToUpper_laid Tryd.lays203 r w hV
def Tryd.lays270_ren : Go.Shelf.Ren := ⟨fun | 270 => 200 | n => n, fun | 70 => 140 | 3 => 3 | 0 => 0 | 72 => 142 | 37 => 22 | 5 => 5 | n => n, fun | n => n⟩
theorem Tryd.lays270 : Go.Proofs.Lays.n270 Tryd.prog Tryd.lays270_ren := {
  mixed := by kernel_rfl
  f270 := Tryd.func200.trans (congrArg some (by kernel_rfl))
  t0 := Tryd.underlying0
  a0 := Tryd.isAgg0
  z0 := Tryd.sizeOf0
  v0 := Tryd.zeroValue0
  t3 := Tryd.underlying3
  a3 := Tryd.isAgg3
  z3 := Tryd.sizeOf3
  v3 := Tryd.zeroValue3
  t37 := Tryd.underlying22
  a37 := Tryd.isAgg22
  z37 := Tryd.sizeOf22
  v37 := Tryd.zeroValue22
  t70 := Tryd.underlying140
  a70 := Tryd.isAgg140
  z70 := Tryd.sizeOf140
  v70 := Tryd.zeroValue140
  t72 := Tryd.underlying142
  a72 := Tryd.isAgg142
  z72 := Tryd.sizeOf142
  v72 := Tryd.zeroValue142 }
open Go.RowKit Go.Lib in
theorem Tryd.Builder_Cap_cell (b : Nat) (p : Option Addr) (n cap : Nat) (w : World) (c1 : w.cell? ⟨b, 1, none⟩ = some (.slice p n cap)) :
    Calls Tryd.prog 200 #[.pointer (some ⟨b, 0, none⟩)] w fun e w' => e = .returned (.int .i64 cap) ∧ w' = w := Any.Builder_Cap_cell Tryd.lays270 b p n cap w c1
def Tryd.lays230_ren : Go.Shelf.Ren := ⟨fun | 230 => 146 | 197 => 149 | 118 => 198 | 165 => 142 | 166 => 143 | 168 => 199 | 270 => 200 | 167 => 144 | 169 => 145 | 260 => 202 | 240 => 196 | 241 => 197 | 242 => 226 | 276 => 224 | 277 => 225 | 278 => 242 | n => n, fun | 107 => 151 | 9 => 9 | 72 => 142 | 0 => 0 | 4 => 4 | 3 => 3 | 21 => 21 | 105 => 152 | 76 => 146 | 5 => 5 | 75 => 145 | 70 => 140 | 20 => 20 | 37 => 22 | 127 => 175 | 119 => 204 | 46 => 155 | 139 => 207 | 138 => 206 | 164 => 198 | 51 => 193 | 80 => 149 | n => n, fun | 3 => 4 | 4 => 5 | n => n⟩
theorem Tryd.lays230 : Go.Proofs.Lays.n230 Tryd.prog Tryd.lays230_ren := {
  mixed := by kernel_rfl
  f118 := Tryd.func198.trans (congrArg some (by kernel_rfl))
  f165 := Tryd.func142.trans (congrArg some (by kernel_rfl))
  f166 := Tryd.func143.trans (congrArg some (by kernel_rfl))
  f167 := Tryd.func144.trans (congrArg some (by kernel_rfl))
  f168 := Tryd.func199.trans (congrArg some (by kernel_rfl))
  f169 := Tryd.func145.trans (congrArg some (by kernel_rfl))
  f197 := Tryd.func149.trans (congrArg some (by kernel_rfl))
  f230 := Tryd.func146.trans (congrArg some (by kernel_rfl))
  f240 := Tryd.func196.trans (congrArg some (by kernel_rfl))
  f241 := Tryd.func197.trans (congrArg some (by kernel_rfl))
  f242 := Tryd.func226.trans (congrArg some (by kernel_rfl))
  f260 := Tryd.func202.trans (congrArg some (by kernel_rfl))
  f270 := Tryd.func200.trans (congrArg some (by kernel_rfl))
  f276 := Tryd.func224.trans (congrArg some (by kernel_rfl))
  f277 := Tryd.func225.trans (congrArg some (by kernel_rfl))
  f278 := Tryd.func242.trans (congrArg some (by kernel_rfl))
  t0 := Tryd.underlying0
  a0 := Tryd.isAgg0
  z0 := Tryd.sizeOf0
  v0 := Tryd.zeroValue0
  t3 := Tryd.underlying3
  a3 := Tryd.isAgg3
  z3 := Tryd.sizeOf3
  v3 := Tryd.zeroValue3
  t4 := Tryd.underlying4
  a4 := Tryd.isAgg4
  z4 := Tryd.sizeOf4
  v4 := Tryd.zeroValue4
  t5 := Tryd.underlying5
  a5 := Tryd.isAgg5
  z5 := Tryd.sizeOf5
  v5 := Tryd.zeroValue5
  t9 := Tryd.underlying9
  a9 := Tryd.isAgg9
  z9 := Tryd.sizeOf9
  v9 := Tryd.zeroValue9
  t20 := Tryd.underlying20
  a20 := Tryd.isAgg20
  z20 := Tryd.sizeOf20
  v20 := Tryd.zeroValue20
  t21 := Tryd.underlying21
  a21 := Tryd.isAgg21
  z21 := Tryd.sizeOf21
  v21 := Tryd.zeroValue21
  t37 := Tryd.underlying22
  a37 := Tryd.isAgg22
  z37 := Tryd.sizeOf22
  v37 := Tryd.zeroValue22
  t46 := Tryd.underlying155
  a46 := Tryd.isAgg155
  z46 := Tryd.sizeOf155
  v46 := Tryd.zeroValue155
  t51 := Tryd.underlying193
  a51 := Tryd.isAgg193
  z51 := Tryd.sizeOf193
  v51 := Tryd.zeroValue193
  t70 := Tryd.underlying140
  a70 := Tryd.isAgg140
  z70 := Tryd.sizeOf140
  v70 := Tryd.zeroValue140
  t72 := Tryd.underlying142
  a72 := Tryd.isAgg142
  z72 := Tryd.sizeOf142
  v72 := Tryd.zeroValue142
  t75 := Tryd.underlying145
  a75 := Tryd.isAgg145
  z75 := Tryd.sizeOf145
  v75 := Tryd.zeroValue145
  t76 := Tryd.underlying146
  a76 := Tryd.isAgg146
  z76 := Tryd.sizeOf146
  v76 := Tryd.zeroValue146
  t105 := Tryd.underlying152
  a105 := Tryd.isAgg152
  z105 := Tryd.sizeOf152
  v105 := Tryd.zeroValue152
  t107 := Tryd.underlying151
  a107 := Tryd.isAgg151
  z107 := Tryd.sizeOf151
  v107 := Tryd.zeroValue151
  t119 := Tryd.underlying204
  a119 := Tryd.isAgg204
  z119 := Tryd.sizeOf204
  t127 := Tryd.underlying175
  a127 := Tryd.isAgg175
  z127 := Tryd.sizeOf175
  v127 := Tryd.zeroValue175
  t138 := Tryd.underlying206
  a138 := Tryd.isAgg206
  z138 := Tryd.sizeOf206
  v138 := Tryd.zeroValue206
  t139 := Tryd.underlying207
  a139 := Tryd.isAgg207
  z139 := Tryd.sizeOf207
  v139 := Tryd.zeroValue207
  t164 := Tryd.underlying198
  a164 := Tryd.isAgg198
  z164 := Tryd.sizeOf198
  v164 := Tryd.zeroValue198
  g3 := by kernel_rfl
  g4 := by kernel_rfl }
theorem Tryd.Builder_Extra_230 : Builder.Extra Tryd.prog Tryd.lays230_ren := {
  sizeBuilder := by kernel_rfl
  liesBuilder := by kernel_rfl
  t5 := Tryd.underlying5
  a5 := Tryd.isAgg5
  z5 := Tryd.sizeOf5
  v5 := Tryd.zeroValue5
  infoByte := by kernel_rfl
  cellsByte := by kernel_rfl
  sizeByte := by kernel_rfl
  neB5 := by decide }
open Go.RowKit Go.Lib in
theorem Tryd.strings_Map_runes (g : Nat) (lb : Array Value) (eg : ∀ args w, (callFunc g args).run Tryd.prog w = .ok (.enter g args) w) (f : Int → Int) (s : ByteArray) (w : World) (hs : s.size < 35184372088832) (hf : MapAtRunes Tryd.prog g lb f w) (hnn : ∀ x : Nat, x ≤ 1114111 → 0 ≤ f x ∧ f x ≤ 2147483647) (hT : Lib.Utf8Tabs 4 5 w) :
    Calls Tryd.prog 146 #[.func (.func g) #[] lb, .string s] w fun e w' => e = .returned (.string ⟨(Lib.mapD f s.data.toList).toArray⟩) ∧ Below w.heap.size w w' := Any.strings_Map_runes Tryd.lays230 Tryd.Builder_Extra_230 g lb eg f s w hs hf hnn hT
open Go.RowKit Go.Lib in
theorem Tryd.strings_indexFunc_grows (g : Nat) (lb : Array Value) (eg : ∀ args w, (callFunc g args).run Tryd.prog w = .ok (.enter g args) w) (p : Nat → Bool) (truth : Bool) (s : ByteArray) (w : World) (hp : PredGrows Tryd.prog g lb p w) :
    Calls Tryd.prog 209 #[.string s, .func (.func g) #[] lb, .bool truth] w fun e w' => e = .returned (.int .i64 (Lib.idxFunc p truth s)) ∧ Below w.heap.size w w' := Any.strings_indexFunc_grows Tryd.lays315 g lb eg p truth s w hp
open Go.RowKit Go.Lib in
theorem Tryd.strings_IndexFunc_grows (g : Nat) (lb : Array Value) (eg : ∀ args w, (callFunc g args).run Tryd.prog w = .ok (.enter g args) w) (p : Nat → Bool) (s : ByteArray) (w : World) (hp : PredGrows Tryd.prog g lb p w) :
    Calls Tryd.prog 159 #[.string s, .func (.func g) #[] lb] w fun e w' => e = .returned (.int .i64 (Lib.idxFunc p true s)) ∧ Below w.heap.size w w' := Any.strings_IndexFunc_grows Tryd.laysGw15 g lb eg p s w hp
open Go.RowKit Go.Lib in
theorem Tryd.strings_ContainsFunc_grows (g : Nat) (lb : Array Value) (eg : ∀ args w, (callFunc g args).run Tryd.prog w = .ok (.enter g args) w) (p : Nat → Bool) (s : ByteArray) (w : World) (hp : PredGrows Tryd.prog g lb p w) :
    Calls Tryd.prog 83 #[.string s, .func (.func g) #[] lb] w fun e w' => e = .returned (.bool (decide (0 ≤ Lib.idxFunc p true s))) ∧ Below w.heap.size w w' := Any.strings_ContainsFunc_grows Tryd.laysGw17 g lb eg p s w hp
open Go.RowKit Go.Lib in
theorem Tryd.strings_Map_grows (g : Nat) (lb : Array Value) (eg : ∀ args w, (callFunc g args).run Tryd.prog w = .ok (.enter g args) w) (f : Int → Int) (s : ByteArray) (w : World) (hs : s.size < 35184372088832) (hf : MapGrows Tryd.prog g lb f w) (hnn : ∀ x : Nat, x ≤ 1114111 → -2147483648 ≤ f x ∧ f x ≤ 2147483647) (hT : Lib.Utf8Tabs 4 5 w) :
    Calls Tryd.prog 146 #[.func (.func g) #[] lb, .string s] w fun e w' => e = .returned (.string ⟨(Lib.mapD f s.data.toList).toArray⟩) ∧ Below w.heap.size w w' := Any.strings_Map_grows Tryd.lays230 Tryd.Builder_Extra_230 g lb eg f s w hs hf hnn hT
def Tryd.lays109_ren : Go.Shelf.Ren := ⟨fun | 109 => 190 | n => n, fun | 31 => 41 | 9 => 9 | 3 => 3 | 0 => 0 | 4 => 4 | n => n, fun | n => n⟩
theorem Tryd.lays109 : Go.Proofs.Lays.n109 Tryd.prog Tryd.lays109_ren := {
  mixed := by kernel_rfl
  f109 := Tryd.func190.trans (congrArg some (by kernel_rfl))
  t0 := Tryd.underlying0
  a0 := Tryd.isAgg0
  z0 := Tryd.sizeOf0
  v0 := Tryd.zeroValue0
  t3 := Tryd.underlying3
  a3 := Tryd.isAgg3
  z3 := Tryd.sizeOf3
  v3 := Tryd.zeroValue3
  t4 := Tryd.underlying4
  a4 := Tryd.isAgg4
  z4 := Tryd.sizeOf4
  v4 := Tryd.zeroValue4
  t9 := Tryd.underlying9
  a9 := Tryd.isAgg9
  z9 := Tryd.sizeOf9
  v9 := Tryd.zeroValue9
  t31 := Tryd.underlying41
  a31 := Tryd.isAgg41
  z31 := Tryd.sizeOf41
  v31 := Tryd.zeroValue41 }
open Go.Lib in
theorem Tryd.slices_Index_string (b off n c : Nat) (zs : List ByteArray) (x : ByteArray) (w : World) (hz : n ≤ zs.length) (hbig : n ≤ 9223372036854775807) (hc : ∀ j, j < zs.length → w.cell? ⟨b, off + j, none⟩ = some (.string (zs.getD j ByteArray.empty))) :
    Calls Tryd.prog 190 #[.slice (some ⟨b, off, none⟩) n c, .string x] w fun e w' => e = .returned (.int .i64 (Lib.idxOfS (zs.take n) x)) ∧ w' = w := Any.slices_Index_string Tryd.lays109 b off n c zs x w hz hbig hc
open Go.Lib in
theorem Tryd.slices_Index_string_empty (a : Option Addr) (c : Nat) (x : ByteArray) (w : World) :
    Calls Tryd.prog 190 #[.slice a 0 c, .string x] w fun e w' => e = .returned (.int .i64 (Lib.idxOfS [] x)) ∧ w' = w := Any.slices_Index_string_empty Tryd.lays109 a c x w
def Tryd.lays110_ren : Go.Shelf.Ren := ⟨fun | 110 => 134 | 109 => 190 | n => n, fun | 31 => 41 | 9 => 9 | 4 => 4 | 3 => 3 | 0 => 0 | n => n, fun | n => n⟩
theorem Tryd.lays110 : Go.Proofs.Lays.n110 Tryd.prog Tryd.lays110_ren := {
  mixed := by kernel_rfl
  f109 := Tryd.func190.trans (congrArg some (by kernel_rfl))
  f110 := Tryd.func134.trans (congrArg some (by kernel_rfl))
  t0 := Tryd.underlying0
  a0 := Tryd.isAgg0
  z0 := Tryd.sizeOf0
  v0 := Tryd.zeroValue0
  t3 := Tryd.underlying3
  a3 := Tryd.isAgg3
  z3 := Tryd.sizeOf3
  v3 := Tryd.zeroValue3
  t4 := Tryd.underlying4
  a4 := Tryd.isAgg4
  z4 := Tryd.sizeOf4
  v4 := Tryd.zeroValue4
  t9 := Tryd.underlying9
  a9 := Tryd.isAgg9
  z9 := Tryd.sizeOf9
  v9 := Tryd.zeroValue9
  t31 := Tryd.underlying41
  a31 := Tryd.isAgg41
  z31 := Tryd.sizeOf41
  v31 := Tryd.zeroValue41 }
open Go.Lib in
theorem Tryd.slices_Contains_string (b off n c : Nat) (zs : List ByteArray) (x : ByteArray) (w : World) (hz : n ≤ zs.length) (hbig : n ≤ 9223372036854775807) (hc : ∀ j, j < zs.length → w.cell? ⟨b, off + j, none⟩ = some (.string (zs.getD j ByteArray.empty))) :
    Calls Tryd.prog 134 #[.slice (some ⟨b, off, none⟩) n c, .string x] w fun e w' => e = .returned (.bool (Lib.containsS (zs.take n) x)) ∧ w' = w := Any.slices_Contains_string Tryd.lays110 b off n c zs x w hz hbig hc
open Go.Lib in
theorem Tryd.slices_Contains_string_empty (a : Option Addr) (c : Nat) (x : ByteArray) (w : World) :
    Calls Tryd.prog 134 #[.slice a 0 c, .string x] w fun e w' => e = .returned (.bool false) ∧ w' = w := Any.slices_Contains_string_empty Tryd.lays110 a c x w
def Tryd.lays111_ren : Go.Shelf.Ren := ⟨fun | 111 => 26 | n => n, fun | 28 => 29 | 3 => 3 | 4 => 4 | 0 => 0 | n => n, fun | n => n⟩
theorem Tryd.lays111 : Go.Proofs.Lays.n111 Tryd.prog Tryd.lays111_ren := {
  mixed := by kernel_rfl
  f111 := Tryd.func26.trans (congrArg some (by kernel_rfl))
  t0 := Tryd.underlying0
  a0 := Tryd.isAgg0
  z0 := Tryd.sizeOf0
  v0 := Tryd.zeroValue0
  t3 := Tryd.underlying3
  a3 := Tryd.isAgg3
  z3 := Tryd.sizeOf3
  v3 := Tryd.zeroValue3
  t4 := Tryd.underlying4
  a4 := Tryd.isAgg4
  z4 := Tryd.sizeOf4
  v4 := Tryd.zeroValue4
  t28 := Tryd.underlying29
  a28 := Tryd.isAgg29
  z28 := Tryd.sizeOf29
  v28 := Tryd.zeroValue29 }
open Go.RowKit Go.Lib in
theorem Tryd.slices_Equal_int (b1 o1 n c b2 o2 m d : Nat) (xs ys : List Int) (w : World) (hx : n ≤ xs.length) (hy : m ≤ ys.length) (hbig : n ≤ 9223372036854775807) (hbig2 : m ≤ 9223372036854775807) (hc1 : ∀ j, j < xs.length → w.cell? ⟨b1, o1 + j, none⟩ = some (.int .i64 (xs.getD j 0))) (hc2 : ∀ j, j < ys.length → w.cell? ⟨b2, o2 + j, none⟩ = some (.int .i64 (ys.getD j 0))) :
    Calls Tryd.prog 26 #[.slice (some ⟨b1, o1, none⟩) n c, .slice (some ⟨b2, o2, none⟩) m d] w fun e w' => e = .returned (.bool (xs.take n == ys.take m)) ∧ ∃ q, w' = w.drewN q := Any.slices_Equal_int Tryd.lays111 b1 o1 n c b2 o2 m d xs ys w hx hy hbig hbig2 hc1 hc2
open Go.RowKit Go.Lib in
theorem Tryd.slices_Equal_int_empty (a1 a2 : Option Addr) (c m d : Nat) (w : World) (hbig2 : m ≤ 9223372036854775807) :
    Calls Tryd.prog 26 #[.slice a1 0 c, .slice a2 m d] w fun e w' => e = .returned (.bool (decide (m = 0))) ∧ w' = w := Any.slices_Equal_int_empty Tryd.lays111 a1 a2 c m d w hbig2
open Go.RowKit Go.Lib in
theorem Tryd.slices_Equal_int_lens (a1 a2 : Option Addr) (n c m d : Nat) (w : World) (hnm : n ≠ m) :
    Calls Tryd.prog 26 #[.slice a1 n c, .slice a2 m d] w fun e w' => e = .returned (.bool false) ∧ w' = w := Any.slices_Equal_int_lens Tryd.lays111 a1 a2 n c m d w hnm
end Go.Proofs
