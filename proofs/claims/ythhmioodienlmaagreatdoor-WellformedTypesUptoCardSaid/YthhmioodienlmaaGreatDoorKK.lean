/-
  DERIVED: THE SHELF's CONTRACTS AT THIS DUMP, IN PLAIN WORDS (tools/lay-plain.mjs out of 'TryzShelf.lean', which tools/lay-shelf.mjs wrote): THE SAME DECLARATIONS UNDER THE SAME NAMES: 'import', 'namespace', 'open', 'def', 'theorem' AND NOTHING ELSE: no command of the shelf's: FOR A HAND-IN. Each laying: the table of numbers ('.._ren') and one theorem, a field a fact of the dump's own or the kernel's comparison; each contract: ONE APPLICATION.
-/
import Derived.Shelf.Small.Strs
import Derived.Shelf.Strings.Search1
import Derived.Shelf.Strings.Search2
import Derived.Shelf.Strings.Search3
import Derived.Shelf.Strings.Count
import Derived.Shelf.LaysM
import Derived.Shelf.Strings.Shaped
import Derived.Shelf.Strings.Split
import Derived.Shelf.Strings.SplitShaped
import Derived.Shelf.Unicode.Decode
import Derived.Shelf.Strings.RuneCount
import Derived.Shelf.Strings.Explode
import Derived.Shelf.Unicode.DecodeSlow
import Derived.Test.YthhmioodienlmaaGreatDoorProg
import Derived.Test.YthhmioodienlmaaGreatDoorKJ
set_option linter.unusedSimpArgs false
set_option linter.unusedVariables false
namespace Go.Proofs
open Go.Shelf
def Tryz.lays213_ren : Go.Shelf.Ren := ⟨fun | 213 => 205 | 265 => 224 | n => n, fun | 9 => 9 | 3 => 3 | n => n, fun | n => n⟩
theorem Tryz.lays213 : Go.Proofs.Lays.n213 Tryz.prog Tryz.lays213_ren := {
  mixed := by kernel_rfl
  f213 := Tryz.func205.trans (congrArg some (by kernel_rfl))
  f265 := Tryz.func224.trans (congrArg some (by kernel_rfl))
  t3 := Tryz.underlying3
  a3 := Tryz.isAgg3
  z3 := Tryz.sizeOf3
  v3 := Tryz.zeroValue3
  t9 := Tryz.underlying9
  a9 := Tryz.isAgg9
  z9 := Tryz.sizeOf9
  v9 := Tryz.zeroValue9 }
open Go.RowKit in
/-- internal/bytealg.CompareString (what strings.Compare calls): IT RETURNS 'Lib.compareBytes a b'; the world is as it was. (LAID: no walk: one application.) -/
theorem Tryz.bytealg_CompareString (a b : ByteArray) (w : World) :
    Calls Tryz.prog 205 #[.string a, .string b] w fun e w' => e = .returned (.int .i64 (Lib.compareBytes a.data.toList b.data.toList)) ∧ w' = w := Any.bytealg_CompareString Tryz.lays213 a b w
def Tryz.lays106_ren : Go.Shelf.Ren := ⟨fun | 106 => 159 | 213 => 205 | 265 => 224 | n => n, fun | 9 => 9 | 3 => 3 | n => n, fun | n => n⟩
theorem Tryz.lays106 : Go.Proofs.Lays.n106 Tryz.prog Tryz.lays106_ren := {
  mixed := by kernel_rfl
  f106 := Tryz.func159.trans (congrArg some (by kernel_rfl))
  f213 := Tryz.func205.trans (congrArg some (by kernel_rfl))
  f265 := Tryz.func224.trans (congrArg some (by kernel_rfl))
  t3 := Tryz.underlying3
  a3 := Tryz.isAgg3
  z3 := Tryz.sizeOf3
  v3 := Tryz.zeroValue3
  t9 := Tryz.underlying9
  a9 := Tryz.isAgg9
  z9 := Tryz.sizeOf9
  v9 := Tryz.zeroValue9 }
open Go.RowKit in
/-- strings.Compare: "Compare returns an integer comparing two strings lexicographically. The result will be 0 if a == b, -1 if a < b, and +1 if a > b.": IT RETURNS 'Lib.compareBytes a b'; the world is as it was. (LAID: no walk: one application.) -/
theorem Tryz.strings_Compare (a b : ByteArray) (w : World) :
    Calls Tryz.prog 159 #[.string a, .string b] w fun e w' => e = .returned (.int .i64 (Lib.compareBytes a.data.toList b.data.toList)) ∧ w' = w := Any.strings_Compare Tryz.lays106 a b w
def Tryz.lays217_ren : Go.Shelf.Ren := ⟨fun | 217 => 259 | 266 => 267 | n => n, fun | 9 => 9 | 5 => 5 | 3 => 3 | n => n, fun | n => n⟩
theorem Tryz.lays217 : Go.Proofs.Lays.n217 Tryz.prog Tryz.lays217_ren := {
  mixed := by kernel_rfl
  f217 := Tryz.func259.trans (congrArg some (by kernel_rfl))
  f266 := Tryz.func267.trans (congrArg some (by kernel_rfl))
  t3 := Tryz.underlying3
  a3 := Tryz.isAgg3
  z3 := Tryz.sizeOf3
  v3 := Tryz.zeroValue3
  t5 := Tryz.underlying5
  a5 := Tryz.isAgg5
  z5 := Tryz.sizeOf5
  v5 := Tryz.zeroValue5
  t9 := Tryz.underlying9
  a9 := Tryz.isAgg9
  z9 := Tryz.sizeOf9
  v9 := Tryz.zeroValue9 }
open Go.RowKit Go.Lib in
/-- internal/stringslite.IndexByte (what strings.IndexByte calls): IT RETURNS 'Lib.indexByte s c'; the world is as it was. (LAID: no walk: one application.) -/
theorem Tryz.stringslite_IndexByte (s : ByteArray) (c : Int) (w : World) :
    Calls Tryz.prog 259 #[.string s, .int .u8 c] w fun e w' => e = .returned (.int .i64 (Lib.indexByte s.data.toList c.toNat.toUInt8)) ∧ w' = w := Any.stringslite_IndexByte Tryz.lays217 s c w
def Tryz.lays224_ren : Go.Shelf.Ren := ⟨fun | 224 => 261 | n => n, fun | 3 => 3 | n => n, fun | n => n⟩
theorem Tryz.lays224 : Go.Proofs.Lays.n224 Tryz.prog Tryz.lays224_ren := {
  mixed := by kernel_rfl
  f224 := Tryz.func261.trans (congrArg some (by kernel_rfl))
  t3 := Tryz.underlying3
  a3 := Tryz.isAgg3
  z3 := Tryz.sizeOf3
  v3 := Tryz.zeroValue3 }
open Go.RowKit Go.Lib in
/-- internal/bytealg.Cutover: "Cutover reports the number of failures of IndexByte we should tolerate before switching over to Index. n is the number of bytes processed so far.": on amd64: (n + 16) / 8. (LAID: no walk: one application.) -/
theorem Tryz.bytealg_Cutover (n : Int) (h0 : 0 ≤ n) (h1 : n < 4611686018427387904) (w : World) :
    Calls Tryz.prog 261 #[.int .i64 n] w fun e w' => e = .returned (.int .i64 ((n + 16) / 8)) ∧ w' = w := Any.bytealg_Cutover Tryz.lays224 n h0 h1 w
def Tryz.lays314_ren : Go.Shelf.Ren := ⟨fun | 314 => 268 | n => n, fun | 9 => 9 | 51 => 195 | 3 => 3 | 4 => 4 | 5 => 5 | 46 => 141 | n => n, fun | n => n⟩
theorem Tryz.lays314 : Go.Proofs.Lays.n314 Tryz.prog Tryz.lays314_ren := {
  mixed := by kernel_rfl
  f314 := Tryz.func268.trans (congrArg some (by kernel_rfl))
  t3 := Tryz.underlying3
  a3 := Tryz.isAgg3
  z3 := Tryz.sizeOf3
  v3 := Tryz.zeroValue3
  t4 := Tryz.underlying4
  a4 := Tryz.isAgg4
  z4 := Tryz.sizeOf4
  v4 := Tryz.zeroValue4
  t5 := Tryz.underlying5
  a5 := Tryz.isAgg5
  z5 := Tryz.sizeOf5
  v5 := Tryz.zeroValue5
  t9 := Tryz.underlying9
  a9 := Tryz.isAgg9
  z9 := Tryz.sizeOf9
  v9 := Tryz.zeroValue9
  t46 := Tryz.underlying141
  a46 := Tryz.isAgg141
  z46 := Tryz.sizeOf141
  v46 := Tryz.zeroValue141
  t51 := Tryz.underlying195
  a51 := Tryz.isAgg195
  z51 := Tryz.sizeOf195
  v51 := Tryz.zeroValue195 }
open Go.RowKit Go.Lib in
/-- hashStr: "returns the hash and the appropriate multiplicative factor for use in Rabin-Karp algorithm": THE HASH OF ALL OF sep, AND 16777619 ^ len(sep), both in uint32. (LAID: no walk: one application.) -/
theorem Tryz.bytealg_hashStr (sep : ByteArray) (hs : sep.size < 4294967281) (w : World) :
    Calls Tryz.prog 268 #[.string sep] w fun e w' => e = .returned (.tuple #[.int .u32 (RK.H sep.data.toList % 4294967296), .int .u32 (16777619 ^ sep.size % 4294967296)]) ∧ w' = w := Any.bytealg_hashStr Tryz.lays314 sep hs w
def Tryz.lays267_ren : Go.Shelf.Ren := ⟨fun | 267 => 262 | 314 => 268 | n => n, fun | 9 => 9 | 3 => 3 | 146 => 277 | 51 => 195 | 4 => 4 | 5 => 5 | 46 => 141 | n => n, fun | n => n⟩
theorem Tryz.lays267 : Go.Proofs.Lays.n267 Tryz.prog Tryz.lays267_ren := {
  mixed := by kernel_rfl
  f267 := Tryz.func262.trans (congrArg some (by kernel_rfl))
  f314 := Tryz.func268.trans (congrArg some (by kernel_rfl))
  t3 := Tryz.underlying3
  a3 := Tryz.isAgg3
  z3 := Tryz.sizeOf3
  v3 := Tryz.zeroValue3
  t4 := Tryz.underlying4
  a4 := Tryz.isAgg4
  z4 := Tryz.sizeOf4
  v4 := Tryz.zeroValue4
  t5 := Tryz.underlying5
  a5 := Tryz.isAgg5
  z5 := Tryz.sizeOf5
  v5 := Tryz.zeroValue5
  t9 := Tryz.underlying9
  a9 := Tryz.isAgg9
  z9 := Tryz.sizeOf9
  v9 := Tryz.zeroValue9
  t46 := Tryz.underlying141
  a46 := Tryz.isAgg141
  z46 := Tryz.sizeOf141
  v46 := Tryz.zeroValue141
  t51 := Tryz.underlying195
  a51 := Tryz.isAgg195
  z51 := Tryz.sizeOf195
  v51 := Tryz.zeroValue195
  t146 := Tryz.underlying277
  a146 := Tryz.isAgg277
  z146 := Tryz.sizeOf277
  v146 := Tryz.zeroValue277 }
open Go.RowKit Go.Lib in
theorem Tryz.bytealg_IndexRabinKarp (s sep : ByteArray) (h1 : 1 ≤ sep.size) (h2 : sep.size ≤ s.size) (hs : s.size < 4294967281) (w : World) :
    Calls Tryz.prog 262 #[.string s, .string sep] w fun e w' => e = .returned (.int .i64 (Lib.index s.data.toList sep.data.toList)) ∧ w' = w := Any.bytealg_IndexRabinKarp Tryz.lays267 s sep h1 h2 hs w
def Tryz.lays219_ren : Go.Shelf.Ren := ⟨fun | 219 => 243 | 217 => 259 | 225 => 260 | 224 => 261 | 267 => 262 | 266 => 267 | 314 => 268 | n => n, fun | 9 => 9 | 3 => 3 | 4 => 4 | 5 => 5 | 46 => 141 | 146 => 277 | 51 => 195 | n => n, fun | 1 => 0 | n => n⟩
theorem Tryz.lays219 : Go.Proofs.Lays.n219 Tryz.prog Tryz.lays219_ren := {
  mixed := by kernel_rfl
  f217 := Tryz.func259.trans (congrArg some (by kernel_rfl))
  f219 := Tryz.func243.trans (congrArg some (by kernel_rfl))
  f224 := Tryz.func261.trans (congrArg some (by kernel_rfl))
  f225 := Tryz.func260.trans (congrArg some (by kernel_rfl))
  f266 := Tryz.func267.trans (congrArg some (by kernel_rfl))
  f267 := Tryz.func262.trans (congrArg some (by kernel_rfl))
  f314 := Tryz.func268.trans (congrArg some (by kernel_rfl))
  t3 := Tryz.underlying3
  a3 := Tryz.isAgg3
  z3 := Tryz.sizeOf3
  v3 := Tryz.zeroValue3
  t4 := Tryz.underlying4
  a4 := Tryz.isAgg4
  z4 := Tryz.sizeOf4
  v4 := Tryz.zeroValue4
  t5 := Tryz.underlying5
  a5 := Tryz.isAgg5
  z5 := Tryz.sizeOf5
  v5 := Tryz.zeroValue5
  t9 := Tryz.underlying9
  a9 := Tryz.isAgg9
  z9 := Tryz.sizeOf9
  v9 := Tryz.zeroValue9
  t46 := Tryz.underlying141
  a46 := Tryz.isAgg141
  z46 := Tryz.sizeOf141
  v46 := Tryz.zeroValue141
  t51 := Tryz.underlying195
  a51 := Tryz.isAgg195
  z51 := Tryz.sizeOf195
  v51 := Tryz.zeroValue195
  t146 := Tryz.underlying277
  a146 := Tryz.isAgg277
  z146 := Tryz.sizeOf277
  v146 := Tryz.zeroValue277
  g1 := by kernel_rfl }
open Go.RowKit Go.Lib in
/-- internal/stringslite.Index (what strings.Index calls) AT A substr OF ONE BYTE c: IT RETURNS 'Lib.indexByte s c'; the world is as it was. (LAID: no walk: one application.) -/
theorem Tryz.stringslite_Index_one (s : ByteArray) (c : UInt8) (w : World) :
    Calls Tryz.prog 243 #[.string s, .string ⟨#[c]⟩] w fun e w' => e = .returned (.int .i64 (Lib.indexByte s.data.toList c)) ∧ w' = w := Any.stringslite_Index_one Tryz.lays219 s c w
open Go.RowKit Go.Lib in
/-- internal/stringslite.Index (what strings.Index calls) AT A substr OF WHATEVER LENGTH: IT RETURNS 'Lib.index s substr'; the world is as it was. 'm': what internal/bytealg.MaxLen holds: whatever. (LAID: no walk: one application.) -/
theorem Tryz.stringslite_Index (s sub : ByteArray) (m : Int) (w : World) (hs : s.size < 4294967281) (hm : w.cell? ⟨0, 0, none⟩ = some (.int .i64 m)) :
    Calls Tryz.prog 243 #[.string s, .string sub] w fun e w' => e = .returned (.int .i64 (Lib.index s.data.toList sub.data.toList)) ∧ w' = w := Any.stringslite_Index Tryz.lays219 s sub m w hs hm
def Tryz.lays143_ren : Go.Shelf.Ren := ⟨fun | 143 => 223 | 219 => 243 | 217 => 259 | 225 => 260 | 224 => 261 | 267 => 262 | 266 => 267 | 314 => 268 | n => n, fun | 9 => 9 | 3 => 3 | 4 => 4 | 5 => 5 | 46 => 141 | 146 => 277 | 51 => 195 | n => n, fun | 1 => 0 | n => n⟩
theorem Tryz.lays143 : Go.Proofs.Lays.n143 Tryz.prog Tryz.lays143_ren := {
  mixed := by kernel_rfl
  f143 := Tryz.func223.trans (congrArg some (by kernel_rfl))
  f217 := Tryz.func259.trans (congrArg some (by kernel_rfl))
  f219 := Tryz.func243.trans (congrArg some (by kernel_rfl))
  f224 := Tryz.func261.trans (congrArg some (by kernel_rfl))
  f225 := Tryz.func260.trans (congrArg some (by kernel_rfl))
  f266 := Tryz.func267.trans (congrArg some (by kernel_rfl))
  f267 := Tryz.func262.trans (congrArg some (by kernel_rfl))
  f314 := Tryz.func268.trans (congrArg some (by kernel_rfl))
  t3 := Tryz.underlying3
  a3 := Tryz.isAgg3
  z3 := Tryz.sizeOf3
  v3 := Tryz.zeroValue3
  t4 := Tryz.underlying4
  a4 := Tryz.isAgg4
  z4 := Tryz.sizeOf4
  v4 := Tryz.zeroValue4
  t5 := Tryz.underlying5
  a5 := Tryz.isAgg5
  z5 := Tryz.sizeOf5
  v5 := Tryz.zeroValue5
  t9 := Tryz.underlying9
  a9 := Tryz.isAgg9
  z9 := Tryz.sizeOf9
  v9 := Tryz.zeroValue9
  t46 := Tryz.underlying141
  a46 := Tryz.isAgg141
  z46 := Tryz.sizeOf141
  v46 := Tryz.zeroValue141
  t51 := Tryz.underlying195
  a51 := Tryz.isAgg195
  z51 := Tryz.sizeOf195
  v51 := Tryz.zeroValue195
  t146 := Tryz.underlying277
  a146 := Tryz.isAgg277
  z146 := Tryz.sizeOf277
  v146 := Tryz.zeroValue277
  g1 := by kernel_rfl }
open Go.RowKit Go.Lib in
/-- strings.Index: "Index returns the index of the first instance of substr in s, or -1 if substr is not present in s.": AT A substr OF ONE BYTE c: IT RETURNS 'Lib.indexByte s c'; the world is as it was. (LAID: no walk: one application.) -/
theorem Tryz.strings_Index_one (s : ByteArray) (c : UInt8) (w : World) :
    Calls Tryz.prog 223 #[.string s, .string ⟨#[c]⟩] w fun e w' => e = .returned (.int .i64 (Lib.indexByte s.data.toList c)) ∧ w' = w := Any.strings_Index_one Tryz.lays143 s c w
open Go.RowKit Go.Lib in
/-- strings.Index: "Index returns the index of the first instance of substr in s, or -1 if substr is not present in s.": IT RETURNS 'Lib.index s substr'; the world is as it was. (LAID: no walk: one application.) -/
theorem Tryz.strings_Index (s sub : ByteArray) (m : Int) (w : World) (hs : s.size < 4294967281) (hm : w.cell? ⟨0, 0, none⟩ = some (.int .i64 m)) :
    Calls Tryz.prog 223 #[.string s, .string sub] w fun e w' => e = .returned (.int .i64 (Lib.index s.data.toList sub.data.toList)) ∧ w' = w := Any.strings_Index Tryz.lays143 s sub m w hs hm
def Tryz.lays144_ren : Go.Shelf.Ren := ⟨fun | 144 => 204 | 143 => 223 | 219 => 243 | 217 => 259 | 225 => 260 | 224 => 261 | 267 => 262 | 266 => 267 | 314 => 268 | n => n, fun | 9 => 9 | 4 => 4 | 3 => 3 | 5 => 5 | 46 => 141 | 146 => 277 | 51 => 195 | n => n, fun | 1 => 0 | n => n⟩
theorem Tryz.lays144 : Go.Proofs.Lays.n144 Tryz.prog Tryz.lays144_ren := {
  mixed := by kernel_rfl
  f143 := Tryz.func223.trans (congrArg some (by kernel_rfl))
  f144 := Tryz.func204.trans (congrArg some (by kernel_rfl))
  f217 := Tryz.func259.trans (congrArg some (by kernel_rfl))
  f219 := Tryz.func243.trans (congrArg some (by kernel_rfl))
  f224 := Tryz.func261.trans (congrArg some (by kernel_rfl))
  f225 := Tryz.func260.trans (congrArg some (by kernel_rfl))
  f266 := Tryz.func267.trans (congrArg some (by kernel_rfl))
  f267 := Tryz.func262.trans (congrArg some (by kernel_rfl))
  f314 := Tryz.func268.trans (congrArg some (by kernel_rfl))
  t3 := Tryz.underlying3
  a3 := Tryz.isAgg3
  z3 := Tryz.sizeOf3
  v3 := Tryz.zeroValue3
  t4 := Tryz.underlying4
  a4 := Tryz.isAgg4
  z4 := Tryz.sizeOf4
  v4 := Tryz.zeroValue4
  t5 := Tryz.underlying5
  a5 := Tryz.isAgg5
  z5 := Tryz.sizeOf5
  v5 := Tryz.zeroValue5
  t9 := Tryz.underlying9
  a9 := Tryz.isAgg9
  z9 := Tryz.sizeOf9
  v9 := Tryz.zeroValue9
  t46 := Tryz.underlying141
  a46 := Tryz.isAgg141
  z46 := Tryz.sizeOf141
  v46 := Tryz.zeroValue141
  t51 := Tryz.underlying195
  a51 := Tryz.isAgg195
  z51 := Tryz.sizeOf195
  v51 := Tryz.zeroValue195
  t146 := Tryz.underlying277
  a146 := Tryz.isAgg277
  z146 := Tryz.sizeOf277
  v146 := Tryz.zeroValue277
  g1 := by kernel_rfl }
open Go.RowKit Go.Lib in
/-- strings.Contains: "Contains reports whether substr is within s.": AT A substr OF ONE BYTE c: IT RETURNS 'decide (0 ≤ Lib.indexByte s c)'; the world is as it was. (LAID: no walk: one application.) -/
theorem Tryz.strings_Contains_one (s : ByteArray) (c : UInt8) (w : World) :
    Calls Tryz.prog 204 #[.string s, .string ⟨#[c]⟩] w fun e w' => e = .returned (.bool (decide (0 ≤ Lib.indexByte s.data.toList c))) ∧ w' = w := Any.strings_Contains_one Tryz.lays144 s c w
open Go.RowKit Go.Lib in
/-- strings.Contains: "Contains reports whether substr is within s.": IT RETURNS 'Lib.contains s substr'; the world is as it was. (LAID: no walk: one application.) -/
theorem Tryz.strings_Contains (s sub : ByteArray) (m : Int) (w : World) (hs : s.size < 4294967281) (hm : w.cell? ⟨0, 0, none⟩ = some (.int .i64 m)) :
    Calls Tryz.prog 204 #[.string s, .string sub] w fun e w' => e = .returned (.bool (Lib.contains s.data.toList sub.data.toList)) ∧ w' = w := Any.strings_Contains Tryz.lays144 s sub m w hs hm
def Tryz.lays138_ren : Go.Shelf.Ren := ⟨fun | 138 => 228 | 195 => 248 | 218 => 250 | 143 => 223 | 219 => 243 | 217 => 259 | 225 => 260 | 224 => 261 | 267 => 262 | 266 => 267 | 314 => 268 | n => n, fun | 9 => 9 | 3 => 3 | 4 => 4 | 5 => 5 | 0 => 0 | 46 => 141 | 146 => 277 | 51 => 195 | n => n, fun | 1 => 0 | n => n⟩
theorem Tryz.lays138 : Go.Proofs.Lays.n138 Tryz.prog Tryz.lays138_ren := {
  mixed := by kernel_rfl
  f138 := Tryz.func228.trans (congrArg some (by kernel_rfl))
  f143 := Tryz.func223.trans (congrArg some (by kernel_rfl))
  f195 := Tryz.func248.trans (congrArg some (by kernel_rfl))
  f217 := Tryz.func259.trans (congrArg some (by kernel_rfl))
  f218 := Tryz.func250.trans (congrArg some (by kernel_rfl))
  f219 := Tryz.func243.trans (congrArg some (by kernel_rfl))
  f224 := Tryz.func261.trans (congrArg some (by kernel_rfl))
  f225 := Tryz.func260.trans (congrArg some (by kernel_rfl))
  f266 := Tryz.func267.trans (congrArg some (by kernel_rfl))
  f267 := Tryz.func262.trans (congrArg some (by kernel_rfl))
  f314 := Tryz.func268.trans (congrArg some (by kernel_rfl))
  t0 := Tryz.underlying0
  a0 := Tryz.isAgg0
  z0 := Tryz.sizeOf0
  v0 := Tryz.zeroValue0
  t3 := Tryz.underlying3
  a3 := Tryz.isAgg3
  z3 := Tryz.sizeOf3
  v3 := Tryz.zeroValue3
  t4 := Tryz.underlying4
  a4 := Tryz.isAgg4
  z4 := Tryz.sizeOf4
  v4 := Tryz.zeroValue4
  t5 := Tryz.underlying5
  a5 := Tryz.isAgg5
  z5 := Tryz.sizeOf5
  v5 := Tryz.zeroValue5
  t9 := Tryz.underlying9
  a9 := Tryz.isAgg9
  z9 := Tryz.sizeOf9
  v9 := Tryz.zeroValue9
  t46 := Tryz.underlying141
  a46 := Tryz.isAgg141
  z46 := Tryz.sizeOf141
  v46 := Tryz.zeroValue141
  t51 := Tryz.underlying195
  a51 := Tryz.isAgg195
  z51 := Tryz.sizeOf195
  v51 := Tryz.zeroValue195
  t146 := Tryz.underlying277
  a146 := Tryz.isAgg277
  z146 := Tryz.sizeOf277
  v146 := Tryz.zeroValue277
  g1 := by kernel_rfl }
open Go.RowKit Go.Lib in
/-- strings.Count AT A substr OF ONE BYTE ('hp'): "Count counts the number of non-overlapping instances of substr in s.": IT RETURNS 'Lib.countByte s (that byte)'; the world is as it was. ✋ NO CONTRACT HERE YET at an empty substr (utf8.RuneCountInString) or at a longer one (a loop over strings.Index). (LAID: no walk: one application.) -/
theorem Tryz.strings_Count_one (s : ByteArray) (c : UInt8) (w : World) :
    Calls Tryz.prog 228 #[.string s, .string ⟨#[c]⟩] w fun e w' => e = .returned (.int .i64 (Lib.countByte s.data.toList c)) ∧ w' = w := Any.strings_Count_one Tryz.lays138 s c w
open Go.RowKit Go.Lib in
/-- strings.Count AT A substr OF TWO BYTES OR MORE: "Count counts the number of non-overlapping instances of substr in s.": IT RETURNS 'Lib.count s substr'; the world is as it was. (LAID: no walk: one application.) -/
theorem Tryz.strings_Count (s sub : ByteArray) (m : Int) (w : World) (hs : s.size < 4294967281) (hm : w.cell? ⟨0, 0, none⟩ = some (.int .i64 m)) (h2 : 2 ≤ sub.size) :
    Calls Tryz.prog 228 #[.string s, .string sub] w fun e w' => e = .returned (.int .i64 (Lib.countB s sub)) ∧ w' = w := Any.strings_Count Tryz.lays138 s sub m w hs hm h2
def Tryz.laysM219_ren : Go.Shelf.Ren := ⟨fun | 219 => 243 | 217 => 259 | 225 => 260 | 224 => 261 | 267 => 262 | 266 => 267 | 314 => 268 | n => n, fun | 9 => 9 | 3 => 3 | 4 => 4 | 5 => 5 | 46 => 141 | 146 => 277 | 51 => 195 | n => n, fun | 1 => 0 | n => n⟩
theorem Tryz.laysM219 : Go.Proofs.LaysM.n219 Tryz.prog Tryz.laysM219_ren := {
  mixed := by kernel_rfl
  f217 := Tryz.func259.trans (congrArg some (by kernel_rfl))
  f219 := Tryz.func243.trans (congrArg some (by kernel_rfl))
  f224 := Tryz.func261.trans (congrArg some (by kernel_rfl))
  f225 := Tryz.func260.trans (congrArg some (by kernel_rfl))
  f266 := Tryz.func267.trans (congrArg some (by kernel_rfl))
  f267 := Tryz.func262.trans (congrArg some (by kernel_rfl))
  f314 := Tryz.func268.trans (congrArg some (by kernel_rfl))
  t3 := Tryz.underlying3
  a3 := Tryz.isAgg3
  z3 := Tryz.sizeOf3
  v3 := Tryz.zeroValue3
  t4 := Tryz.underlying4
  a4 := Tryz.isAgg4
  z4 := Tryz.sizeOf4
  v4 := Tryz.zeroValue4
  t5 := Tryz.underlying5
  a5 := Tryz.isAgg5
  z5 := Tryz.sizeOf5
  v5 := Tryz.zeroValue5
  t9 := Tryz.underlying9
  a9 := Tryz.isAgg9
  z9 := Tryz.sizeOf9
  v9 := Tryz.zeroValue9
  t46 := Tryz.underlying141
  a46 := Tryz.isAgg141
  z46 := Tryz.sizeOf141
  v46 := Tryz.zeroValue141
  t51 := Tryz.underlying195
  a51 := Tryz.isAgg195
  z51 := Tryz.sizeOf195
  v51 := Tryz.zeroValue195
  t146 := Tryz.underlying277
  a146 := Tryz.isAgg277
  z146 := Tryz.sizeOf277
  v146 := Tryz.zeroValue277
  g1 := by kernel_rfl
  i3 := by kernel_rfl
  i4 := by kernel_rfl
  i5 := by kernel_rfl
  i9 := by kernel_rfl
  i46 := by kernel_rfl
  i51 := by kernel_rfl
  i146 := by kernel_rfl
  m1 := by kernel_rfl
  s1_3 := fun w h => Go.Proofs.cell_of_shapedOpen_int (zero := #[.int .i64 0]) (t := 3) h (of_decide_eq_true (by kernel_rfl)) (by kernel_rfl) rfl (by kernel_rfl) (by kernel_rfl) Tryz.underlying3 }
open Go.RowKit Go.Lib in
theorem Tryz.stringslite_Index_shaped (s sub : ByteArray) (w : World) (h : w.ShapedOpen Tryz.prog) (hs : s.size < 4294967281) :
    Calls Tryz.prog 243 #[.string s, .string sub] w fun e w' => e = .returned (.int .i64 (Lib.index s.data.toList sub.data.toList)) ∧ w' = w := Any.stringslite_Index_shaped Tryz.laysM219 s sub w h hs
def Tryz.laysM143_ren : Go.Shelf.Ren := ⟨fun | 143 => 223 | 219 => 243 | 217 => 259 | 225 => 260 | 224 => 261 | 267 => 262 | 266 => 267 | 314 => 268 | n => n, fun | 9 => 9 | 3 => 3 | 4 => 4 | 5 => 5 | 46 => 141 | 146 => 277 | 51 => 195 | n => n, fun | 1 => 0 | n => n⟩
theorem Tryz.laysM143 : Go.Proofs.LaysM.n143 Tryz.prog Tryz.laysM143_ren := {
  mixed := by kernel_rfl
  f143 := Tryz.func223.trans (congrArg some (by kernel_rfl))
  f217 := Tryz.func259.trans (congrArg some (by kernel_rfl))
  f219 := Tryz.func243.trans (congrArg some (by kernel_rfl))
  f224 := Tryz.func261.trans (congrArg some (by kernel_rfl))
  f225 := Tryz.func260.trans (congrArg some (by kernel_rfl))
  f266 := Tryz.func267.trans (congrArg some (by kernel_rfl))
  f267 := Tryz.func262.trans (congrArg some (by kernel_rfl))
  f314 := Tryz.func268.trans (congrArg some (by kernel_rfl))
  t3 := Tryz.underlying3
  a3 := Tryz.isAgg3
  z3 := Tryz.sizeOf3
  v3 := Tryz.zeroValue3
  t4 := Tryz.underlying4
  a4 := Tryz.isAgg4
  z4 := Tryz.sizeOf4
  v4 := Tryz.zeroValue4
  t5 := Tryz.underlying5
  a5 := Tryz.isAgg5
  z5 := Tryz.sizeOf5
  v5 := Tryz.zeroValue5
  t9 := Tryz.underlying9
  a9 := Tryz.isAgg9
  z9 := Tryz.sizeOf9
  v9 := Tryz.zeroValue9
  t46 := Tryz.underlying141
  a46 := Tryz.isAgg141
  z46 := Tryz.sizeOf141
  v46 := Tryz.zeroValue141
  t51 := Tryz.underlying195
  a51 := Tryz.isAgg195
  z51 := Tryz.sizeOf195
  v51 := Tryz.zeroValue195
  t146 := Tryz.underlying277
  a146 := Tryz.isAgg277
  z146 := Tryz.sizeOf277
  v146 := Tryz.zeroValue277
  g1 := by kernel_rfl
  i3 := by kernel_rfl
  i4 := by kernel_rfl
  i5 := by kernel_rfl
  i9 := by kernel_rfl
  i46 := by kernel_rfl
  i51 := by kernel_rfl
  i146 := by kernel_rfl
  m1 := by kernel_rfl
  s1_3 := fun w h => Go.Proofs.cell_of_shapedOpen_int (zero := #[.int .i64 0]) (t := 3) h (of_decide_eq_true (by kernel_rfl)) (by kernel_rfl) rfl (by kernel_rfl) (by kernel_rfl) Tryz.underlying3 }
open Go.RowKit Go.Lib in
theorem Tryz.strings_Index_shaped (s sub : ByteArray) (w : World) (h : w.ShapedOpen Tryz.prog) (hs : s.size < 4294967281) :
    Calls Tryz.prog 223 #[.string s, .string sub] w fun e w' => e = .returned (.int .i64 (Lib.index s.data.toList sub.data.toList)) ∧ w' = w := Any.strings_Index_shaped Tryz.laysM143 s sub w h hs
def Tryz.laysM144_ren : Go.Shelf.Ren := ⟨fun | 144 => 204 | 143 => 223 | 219 => 243 | 217 => 259 | 225 => 260 | 224 => 261 | 267 => 262 | 266 => 267 | 314 => 268 | n => n, fun | 9 => 9 | 4 => 4 | 3 => 3 | 5 => 5 | 46 => 141 | 146 => 277 | 51 => 195 | n => n, fun | 1 => 0 | n => n⟩
theorem Tryz.laysM144 : Go.Proofs.LaysM.n144 Tryz.prog Tryz.laysM144_ren := {
  mixed := by kernel_rfl
  f143 := Tryz.func223.trans (congrArg some (by kernel_rfl))
  f144 := Tryz.func204.trans (congrArg some (by kernel_rfl))
  f217 := Tryz.func259.trans (congrArg some (by kernel_rfl))
  f219 := Tryz.func243.trans (congrArg some (by kernel_rfl))
  f224 := Tryz.func261.trans (congrArg some (by kernel_rfl))
  f225 := Tryz.func260.trans (congrArg some (by kernel_rfl))
  f266 := Tryz.func267.trans (congrArg some (by kernel_rfl))
  f267 := Tryz.func262.trans (congrArg some (by kernel_rfl))
  f314 := Tryz.func268.trans (congrArg some (by kernel_rfl))
  t3 := Tryz.underlying3
  a3 := Tryz.isAgg3
  z3 := Tryz.sizeOf3
  v3 := Tryz.zeroValue3
  t4 := Tryz.underlying4
  a4 := Tryz.isAgg4
  z4 := Tryz.sizeOf4
  v4 := Tryz.zeroValue4
  t5 := Tryz.underlying5
  a5 := Tryz.isAgg5
  z5 := Tryz.sizeOf5
  v5 := Tryz.zeroValue5
  t9 := Tryz.underlying9
  a9 := Tryz.isAgg9
  z9 := Tryz.sizeOf9
  v9 := Tryz.zeroValue9
  t46 := Tryz.underlying141
  a46 := Tryz.isAgg141
  z46 := Tryz.sizeOf141
  v46 := Tryz.zeroValue141
  t51 := Tryz.underlying195
  a51 := Tryz.isAgg195
  z51 := Tryz.sizeOf195
  v51 := Tryz.zeroValue195
  t146 := Tryz.underlying277
  a146 := Tryz.isAgg277
  z146 := Tryz.sizeOf277
  v146 := Tryz.zeroValue277
  g1 := by kernel_rfl
  i3 := by kernel_rfl
  i4 := by kernel_rfl
  i5 := by kernel_rfl
  i9 := by kernel_rfl
  i46 := by kernel_rfl
  i51 := by kernel_rfl
  i146 := by kernel_rfl
  m1 := by kernel_rfl
  s1_3 := fun w h => Go.Proofs.cell_of_shapedOpen_int (zero := #[.int .i64 0]) (t := 3) h (of_decide_eq_true (by kernel_rfl)) (by kernel_rfl) rfl (by kernel_rfl) (by kernel_rfl) Tryz.underlying3 }
open Go.RowKit Go.Lib in
theorem Tryz.strings_Contains_shaped (s sub : ByteArray) (w : World) (h : w.ShapedOpen Tryz.prog) (hs : s.size < 4294967281) :
    Calls Tryz.prog 204 #[.string s, .string sub] w fun e w' => e = .returned (.bool (Lib.contains s.data.toList sub.data.toList)) ∧ w' = w := Any.strings_Contains_shaped Tryz.laysM144 s sub w h hs
def Tryz.laysM138_ren : Go.Shelf.Ren := ⟨fun | 138 => 228 | 195 => 248 | 218 => 250 | 143 => 223 | 219 => 243 | 217 => 259 | 225 => 260 | 224 => 261 | 267 => 262 | 266 => 267 | 314 => 268 | n => n, fun | 9 => 9 | 3 => 3 | 4 => 4 | 5 => 5 | 0 => 0 | 46 => 141 | 146 => 277 | 51 => 195 | n => n, fun | 1 => 0 | n => n⟩
theorem Tryz.laysM138 : Go.Proofs.LaysM.n138 Tryz.prog Tryz.laysM138_ren := {
  mixed := by kernel_rfl
  f138 := Tryz.func228.trans (congrArg some (by kernel_rfl))
  f143 := Tryz.func223.trans (congrArg some (by kernel_rfl))
  f195 := Tryz.func248.trans (congrArg some (by kernel_rfl))
  f217 := Tryz.func259.trans (congrArg some (by kernel_rfl))
  f218 := Tryz.func250.trans (congrArg some (by kernel_rfl))
  f219 := Tryz.func243.trans (congrArg some (by kernel_rfl))
  f224 := Tryz.func261.trans (congrArg some (by kernel_rfl))
  f225 := Tryz.func260.trans (congrArg some (by kernel_rfl))
  f266 := Tryz.func267.trans (congrArg some (by kernel_rfl))
  f267 := Tryz.func262.trans (congrArg some (by kernel_rfl))
  f314 := Tryz.func268.trans (congrArg some (by kernel_rfl))
  t0 := Tryz.underlying0
  a0 := Tryz.isAgg0
  z0 := Tryz.sizeOf0
  v0 := Tryz.zeroValue0
  t3 := Tryz.underlying3
  a3 := Tryz.isAgg3
  z3 := Tryz.sizeOf3
  v3 := Tryz.zeroValue3
  t4 := Tryz.underlying4
  a4 := Tryz.isAgg4
  z4 := Tryz.sizeOf4
  v4 := Tryz.zeroValue4
  t5 := Tryz.underlying5
  a5 := Tryz.isAgg5
  z5 := Tryz.sizeOf5
  v5 := Tryz.zeroValue5
  t9 := Tryz.underlying9
  a9 := Tryz.isAgg9
  z9 := Tryz.sizeOf9
  v9 := Tryz.zeroValue9
  t46 := Tryz.underlying141
  a46 := Tryz.isAgg141
  z46 := Tryz.sizeOf141
  v46 := Tryz.zeroValue141
  t51 := Tryz.underlying195
  a51 := Tryz.isAgg195
  z51 := Tryz.sizeOf195
  v51 := Tryz.zeroValue195
  t146 := Tryz.underlying277
  a146 := Tryz.isAgg277
  z146 := Tryz.sizeOf277
  v146 := Tryz.zeroValue277
  g1 := by kernel_rfl
  i0 := by kernel_rfl
  i3 := by kernel_rfl
  i4 := by kernel_rfl
  i5 := by kernel_rfl
  i9 := by kernel_rfl
  i46 := by kernel_rfl
  i51 := by kernel_rfl
  i146 := by kernel_rfl
  m1 := by kernel_rfl
  s1_3 := fun w h => Go.Proofs.cell_of_shapedOpen_int (zero := #[.int .i64 0]) (t := 3) h (of_decide_eq_true (by kernel_rfl)) (by kernel_rfl) rfl (by kernel_rfl) (by kernel_rfl) Tryz.underlying3 }
open Go.RowKit Go.Lib in
theorem Tryz.strings_Count_shaped (s sub : ByteArray) (w : World) (h : w.ShapedOpen Tryz.prog) (hs : s.size < 4294967281) (h2 : 2 ≤ sub.size) :
    Calls Tryz.prog 228 #[.string s, .string sub] w fun e w' => e = .returned (.int .i64 (Lib.countB s sub)) ∧ w' = w := Any.strings_Count_shaped Tryz.laysM138 s sub w h hs h2
open Go.RowKit Go.Lib in
/-- strings.Count at whatever sep that is not empty: the two roads under one statement. (LAID: no walk: one application.) -/
theorem Tryz.strings_Count_any (s sep : ByteArray) (m : Int) (w : World) (hs : s.size < 4294967281) (hm : w.cell? ⟨0, 0, none⟩ = some (.int .i64 m)) (h1 : 1 ≤ sep.size) :
    Calls Tryz.prog 228 #[.string s, .string sep] w fun e w' => e = .returned (.int .i64 (Lib.countB s sep)) ∧ w' = w := Any.strings_Count_any Tryz.lays138 s sep m w hs hm h1
def Tryz.lays221_ren : Go.Shelf.Ren := ⟨fun | 221 => 211 | 268 => 227 | 138 => 228 | 143 => 223 | 195 => 248 | 197 => 249 | 218 => 250 | 219 => 243 | 260 => 263 | 217 => 259 | 225 => 260 | 224 => 261 | 267 => 262 | 266 => 267 | 314 => 268 | n => n, fun | 9 => 9 | 3 => 3 | 31 => 24 | 4 => 4 | 0 => 0 | 105 => 266 | 21 => 21 | 5 => 5 | 46 => 141 | 119 => 279 | 139 => 282 | 138 => 281 | 146 => 277 | 51 => 195 | n => n, fun | 1 => 0 | 3 => 2 | 4 => 3 | n => n⟩
theorem Tryz.lays221 : Go.Proofs.Lays.n221 Tryz.prog Tryz.lays221_ren := {
  mixed := by kernel_rfl
  f138 := Tryz.func228.trans (congrArg some (by kernel_rfl))
  f143 := Tryz.func223.trans (congrArg some (by kernel_rfl))
  f195 := Tryz.func248.trans (congrArg some (by kernel_rfl))
  f197 := Tryz.func249.trans (congrArg some (by kernel_rfl))
  f217 := Tryz.func259.trans (congrArg some (by kernel_rfl))
  f218 := Tryz.func250.trans (congrArg some (by kernel_rfl))
  f219 := Tryz.func243.trans (congrArg some (by kernel_rfl))
  f221 := Tryz.func211.trans (congrArg some (by kernel_rfl))
  f224 := Tryz.func261.trans (congrArg some (by kernel_rfl))
  f225 := Tryz.func260.trans (congrArg some (by kernel_rfl))
  f260 := Tryz.func263.trans (congrArg some (by kernel_rfl))
  f266 := Tryz.func267.trans (congrArg some (by kernel_rfl))
  f267 := Tryz.func262.trans (congrArg some (by kernel_rfl))
  f268 := Tryz.func227.trans (congrArg some (by kernel_rfl))
  f314 := Tryz.func268.trans (congrArg some (by kernel_rfl))
  t0 := Tryz.underlying0
  a0 := Tryz.isAgg0
  z0 := Tryz.sizeOf0
  v0 := Tryz.zeroValue0
  t3 := Tryz.underlying3
  a3 := Tryz.isAgg3
  z3 := Tryz.sizeOf3
  v3 := Tryz.zeroValue3
  t4 := Tryz.underlying4
  a4 := Tryz.isAgg4
  z4 := Tryz.sizeOf4
  v4 := Tryz.zeroValue4
  t5 := Tryz.underlying5
  a5 := Tryz.isAgg5
  z5 := Tryz.sizeOf5
  v5 := Tryz.zeroValue5
  t9 := Tryz.underlying9
  a9 := Tryz.isAgg9
  z9 := Tryz.sizeOf9
  v9 := Tryz.zeroValue9
  t21 := Tryz.underlying21
  a21 := Tryz.isAgg21
  z21 := Tryz.sizeOf21
  v21 := Tryz.zeroValue21
  t31 := Tryz.underlying24
  a31 := Tryz.isAgg24
  z31 := Tryz.sizeOf24
  v31 := Tryz.zeroValue24
  t46 := Tryz.underlying141
  a46 := Tryz.isAgg141
  z46 := Tryz.sizeOf141
  v46 := Tryz.zeroValue141
  t51 := Tryz.underlying195
  a51 := Tryz.isAgg195
  z51 := Tryz.sizeOf195
  v51 := Tryz.zeroValue195
  t105 := Tryz.underlying266
  a105 := Tryz.isAgg266
  z105 := Tryz.sizeOf266
  v105 := Tryz.zeroValue266
  t119 := Tryz.underlying279
  a119 := Tryz.isAgg279
  z119 := Tryz.sizeOf279
  t138 := Tryz.underlying281
  a138 := Tryz.isAgg281
  z138 := Tryz.sizeOf281
  v138 := Tryz.zeroValue281
  t139 := Tryz.underlying282
  a139 := Tryz.isAgg282
  z139 := Tryz.sizeOf282
  v139 := Tryz.zeroValue282
  t146 := Tryz.underlying277
  a146 := Tryz.isAgg277
  z146 := Tryz.sizeOf277
  v146 := Tryz.zeroValue277
  g1 := by kernel_rfl
  g3 := by kernel_rfl
  g4 := by kernel_rfl }
open Go.RowKit Go.Lib in
theorem Tryz.strings_genSplit (s sep : ByteArray) (sv : Nat) (n : Int) (N : Nat) (m : Int) (w : World) (hs : s.size < 4294967281) (hm : w.cell? ⟨0, 0, none⟩ = some (.int .i64 m)) (h1 : 1 ≤ sep.size) (hsv : sv ≤ sep.size) (hn0 : n ≠ 0) (hn63 : n ≤ 9223372036854775807) (hN : (N : Int) = min (if n < 0 then (Lib.countB s sep : Int) + 1 else n) ((s.size : Int) + 1)) :
    Calls Tryz.prog 211 #[.string s, .string sep, .int .i64 sv, .int .i64 n] w fun e w' =>
      e = .returned (.slice (some ⟨w.heap.size, 0, none⟩) (Lib.splitB sep sv (N - 1) s).length N) ∧ w' = w.alloc (.cells (Lib.cellsOf (Lib.splitB sep sv (N - 1) s) N) 9) := Any.strings_genSplit Tryz.lays221 (by kernel_rfl) s sep sv n N m w hs hm h1 hsv hn0 hn63 hN
def Tryz.lays146_ren : Go.Shelf.Ren := ⟨fun | 146 => 166 | 221 => 211 | 268 => 227 | 138 => 228 | 143 => 223 | 195 => 248 | 197 => 249 | 218 => 250 | 219 => 243 | 260 => 263 | 217 => 259 | 225 => 260 | 224 => 261 | 267 => 262 | 266 => 267 | 314 => 268 | n => n, fun | 9 => 9 | 31 => 24 | 3 => 3 | 4 => 4 | 0 => 0 | 105 => 266 | 21 => 21 | 5 => 5 | 46 => 141 | 119 => 279 | 139 => 282 | 138 => 281 | 146 => 277 | 51 => 195 | n => n, fun | 1 => 0 | 3 => 2 | 4 => 3 | n => n⟩
theorem Tryz.lays146 : Go.Proofs.Lays.n146 Tryz.prog Tryz.lays146_ren := {
  mixed := by kernel_rfl
  f138 := Tryz.func228.trans (congrArg some (by kernel_rfl))
  f143 := Tryz.func223.trans (congrArg some (by kernel_rfl))
  f146 := Tryz.func166.trans (congrArg some (by kernel_rfl))
  f195 := Tryz.func248.trans (congrArg some (by kernel_rfl))
  f197 := Tryz.func249.trans (congrArg some (by kernel_rfl))
  f217 := Tryz.func259.trans (congrArg some (by kernel_rfl))
  f218 := Tryz.func250.trans (congrArg some (by kernel_rfl))
  f219 := Tryz.func243.trans (congrArg some (by kernel_rfl))
  f221 := Tryz.func211.trans (congrArg some (by kernel_rfl))
  f224 := Tryz.func261.trans (congrArg some (by kernel_rfl))
  f225 := Tryz.func260.trans (congrArg some (by kernel_rfl))
  f260 := Tryz.func263.trans (congrArg some (by kernel_rfl))
  f266 := Tryz.func267.trans (congrArg some (by kernel_rfl))
  f267 := Tryz.func262.trans (congrArg some (by kernel_rfl))
  f268 := Tryz.func227.trans (congrArg some (by kernel_rfl))
  f314 := Tryz.func268.trans (congrArg some (by kernel_rfl))
  t0 := Tryz.underlying0
  a0 := Tryz.isAgg0
  z0 := Tryz.sizeOf0
  v0 := Tryz.zeroValue0
  t3 := Tryz.underlying3
  a3 := Tryz.isAgg3
  z3 := Tryz.sizeOf3
  v3 := Tryz.zeroValue3
  t4 := Tryz.underlying4
  a4 := Tryz.isAgg4
  z4 := Tryz.sizeOf4
  v4 := Tryz.zeroValue4
  t5 := Tryz.underlying5
  a5 := Tryz.isAgg5
  z5 := Tryz.sizeOf5
  v5 := Tryz.zeroValue5
  t9 := Tryz.underlying9
  a9 := Tryz.isAgg9
  z9 := Tryz.sizeOf9
  v9 := Tryz.zeroValue9
  t21 := Tryz.underlying21
  a21 := Tryz.isAgg21
  z21 := Tryz.sizeOf21
  v21 := Tryz.zeroValue21
  t31 := Tryz.underlying24
  a31 := Tryz.isAgg24
  z31 := Tryz.sizeOf24
  v31 := Tryz.zeroValue24
  t46 := Tryz.underlying141
  a46 := Tryz.isAgg141
  z46 := Tryz.sizeOf141
  v46 := Tryz.zeroValue141
  t51 := Tryz.underlying195
  a51 := Tryz.isAgg195
  z51 := Tryz.sizeOf195
  v51 := Tryz.zeroValue195
  t105 := Tryz.underlying266
  a105 := Tryz.isAgg266
  z105 := Tryz.sizeOf266
  v105 := Tryz.zeroValue266
  t119 := Tryz.underlying279
  a119 := Tryz.isAgg279
  z119 := Tryz.sizeOf279
  t138 := Tryz.underlying281
  a138 := Tryz.isAgg281
  z138 := Tryz.sizeOf281
  v138 := Tryz.zeroValue281
  t139 := Tryz.underlying282
  a139 := Tryz.isAgg282
  z139 := Tryz.sizeOf282
  v139 := Tryz.zeroValue282
  t146 := Tryz.underlying277
  a146 := Tryz.isAgg277
  z146 := Tryz.sizeOf277
  v146 := Tryz.zeroValue277
  g1 := by kernel_rfl
  g3 := by kernel_rfl
  g4 := by kernel_rfl }
open Go.RowKit Go.Lib in
/-- strings.Split. (LAID: no walk: one application.) -/
theorem Tryz.strings_Split (s sep : ByteArray) (m : Int) (w : World) (hs : s.size < 4294967281) (hm : w.cell? ⟨0, 0, none⟩ = some (.int .i64 m)) (h1 : 1 ≤ sep.size) :
    Calls Tryz.prog 166 #[.string s, .string sep] w fun e w' =>
      e = .returned (.slice (some ⟨w.heap.size, 0, none⟩) (Lib.countB s sep + 1) (Lib.countB s sep + 1)) ∧ w' = w.alloc (.cells ((Lib.splitB sep 0 (Lib.countB s sep) s).map Value.string).toArray 9) := Any.strings_Split Tryz.lays146 (by kernel_rfl) s sep m w hs hm h1
def Tryz.laysM146_ren : Go.Shelf.Ren := ⟨fun | 146 => 166 | 221 => 211 | 268 => 227 | 138 => 228 | 143 => 223 | 195 => 248 | 197 => 249 | 218 => 250 | 219 => 243 | 260 => 263 | 217 => 259 | 225 => 260 | 224 => 261 | 267 => 262 | 266 => 267 | 314 => 268 | n => n, fun | 9 => 9 | 31 => 24 | 3 => 3 | 4 => 4 | 0 => 0 | 105 => 266 | 21 => 21 | 5 => 5 | 46 => 141 | 119 => 279 | 139 => 282 | 138 => 281 | 146 => 277 | 51 => 195 | n => n, fun | 1 => 0 | 3 => 2 | 4 => 3 | n => n⟩
theorem Tryz.laysM146 : Go.Proofs.LaysM.n146 Tryz.prog Tryz.laysM146_ren := {
  mixed := by kernel_rfl
  f138 := Tryz.func228.trans (congrArg some (by kernel_rfl))
  f143 := Tryz.func223.trans (congrArg some (by kernel_rfl))
  f146 := Tryz.func166.trans (congrArg some (by kernel_rfl))
  f195 := Tryz.func248.trans (congrArg some (by kernel_rfl))
  f197 := Tryz.func249.trans (congrArg some (by kernel_rfl))
  f217 := Tryz.func259.trans (congrArg some (by kernel_rfl))
  f218 := Tryz.func250.trans (congrArg some (by kernel_rfl))
  f219 := Tryz.func243.trans (congrArg some (by kernel_rfl))
  f221 := Tryz.func211.trans (congrArg some (by kernel_rfl))
  f224 := Tryz.func261.trans (congrArg some (by kernel_rfl))
  f225 := Tryz.func260.trans (congrArg some (by kernel_rfl))
  f260 := Tryz.func263.trans (congrArg some (by kernel_rfl))
  f266 := Tryz.func267.trans (congrArg some (by kernel_rfl))
  f267 := Tryz.func262.trans (congrArg some (by kernel_rfl))
  f268 := Tryz.func227.trans (congrArg some (by kernel_rfl))
  f314 := Tryz.func268.trans (congrArg some (by kernel_rfl))
  t0 := Tryz.underlying0
  a0 := Tryz.isAgg0
  z0 := Tryz.sizeOf0
  v0 := Tryz.zeroValue0
  t3 := Tryz.underlying3
  a3 := Tryz.isAgg3
  z3 := Tryz.sizeOf3
  v3 := Tryz.zeroValue3
  t4 := Tryz.underlying4
  a4 := Tryz.isAgg4
  z4 := Tryz.sizeOf4
  v4 := Tryz.zeroValue4
  t5 := Tryz.underlying5
  a5 := Tryz.isAgg5
  z5 := Tryz.sizeOf5
  v5 := Tryz.zeroValue5
  t9 := Tryz.underlying9
  a9 := Tryz.isAgg9
  z9 := Tryz.sizeOf9
  v9 := Tryz.zeroValue9
  t21 := Tryz.underlying21
  a21 := Tryz.isAgg21
  z21 := Tryz.sizeOf21
  v21 := Tryz.zeroValue21
  t31 := Tryz.underlying24
  a31 := Tryz.isAgg24
  z31 := Tryz.sizeOf24
  v31 := Tryz.zeroValue24
  t46 := Tryz.underlying141
  a46 := Tryz.isAgg141
  z46 := Tryz.sizeOf141
  v46 := Tryz.zeroValue141
  t51 := Tryz.underlying195
  a51 := Tryz.isAgg195
  z51 := Tryz.sizeOf195
  v51 := Tryz.zeroValue195
  t105 := Tryz.underlying266
  a105 := Tryz.isAgg266
  z105 := Tryz.sizeOf266
  v105 := Tryz.zeroValue266
  t119 := Tryz.underlying279
  a119 := Tryz.isAgg279
  z119 := Tryz.sizeOf279
  t138 := Tryz.underlying281
  a138 := Tryz.isAgg281
  z138 := Tryz.sizeOf281
  v138 := Tryz.zeroValue281
  t139 := Tryz.underlying282
  a139 := Tryz.isAgg282
  z139 := Tryz.sizeOf282
  v139 := Tryz.zeroValue282
  t146 := Tryz.underlying277
  a146 := Tryz.isAgg277
  z146 := Tryz.sizeOf277
  v146 := Tryz.zeroValue277
  g1 := by kernel_rfl
  g3 := by kernel_rfl
  g4 := by kernel_rfl
  i0 := by kernel_rfl
  i3 := by kernel_rfl
  i4 := by kernel_rfl
  i5 := by kernel_rfl
  i9 := by kernel_rfl
  i21 := by kernel_rfl
  i31 := by kernel_rfl
  i46 := by kernel_rfl
  i51 := by kernel_rfl
  i105 := by kernel_rfl
  i138 := by kernel_rfl
  i139 := by kernel_rfl
  i146 := by kernel_rfl
  m1 := by kernel_rfl
  s1_3 := fun w h => Go.Proofs.cell_of_shapedOpen_int (zero := #[.int .i64 0]) (t := 3) h (of_decide_eq_true (by kernel_rfl)) (by kernel_rfl) rfl (by kernel_rfl) (by kernel_rfl) Tryz.underlying3
  m3 := by kernel_rfl
  m4 := by kernel_rfl }
open Go.RowKit Go.Lib in
/-- strings.Split, sep not empty. (LAID: no walk: one application.) -/
theorem Tryz.strings_Split_shaped (s sep : ByteArray) (w : World) (h : w.ShapedOpen Tryz.prog) (hs : s.size < 4294967281) (h1 : 1 ≤ sep.size) :
    Calls Tryz.prog 166 #[.string s, .string sep] w fun e w' =>
      e = .returned (.slice (some ⟨w.heap.size, 0, none⟩) (Lib.countB s sep + 1) (Lib.countB s sep + 1)) ∧ w' = w.alloc (.cells ((Lib.splitB sep 0 (Lib.countB s sep) s).map Value.string).toArray 9) := Any.strings_Split_shaped Tryz.laysM146 s sep w h hs h1
def Tryz.lays197_ren : Go.Shelf.Ren := ⟨fun | 197 => 249 | 260 => 263 | n => n, fun | 9 => 9 | 21 => 21 | 3 => 3 | 4 => 4 | 5 => 5 | 105 => 266 | 119 => 279 | 0 => 0 | 46 => 141 | 139 => 282 | 138 => 281 | n => n, fun | 3 => 2 | 4 => 3 | n => n⟩
theorem Tryz.lays197 : Go.Proofs.Lays.n197 Tryz.prog Tryz.lays197_ren := {
  mixed := by kernel_rfl
  f197 := Tryz.func249.trans (congrArg some (by kernel_rfl))
  f260 := Tryz.func263.trans (congrArg some (by kernel_rfl))
  t0 := Tryz.underlying0
  a0 := Tryz.isAgg0
  z0 := Tryz.sizeOf0
  v0 := Tryz.zeroValue0
  t3 := Tryz.underlying3
  a3 := Tryz.isAgg3
  z3 := Tryz.sizeOf3
  v3 := Tryz.zeroValue3
  t4 := Tryz.underlying4
  a4 := Tryz.isAgg4
  z4 := Tryz.sizeOf4
  v4 := Tryz.zeroValue4
  t5 := Tryz.underlying5
  a5 := Tryz.isAgg5
  z5 := Tryz.sizeOf5
  v5 := Tryz.zeroValue5
  t9 := Tryz.underlying9
  a9 := Tryz.isAgg9
  z9 := Tryz.sizeOf9
  v9 := Tryz.zeroValue9
  t21 := Tryz.underlying21
  a21 := Tryz.isAgg21
  z21 := Tryz.sizeOf21
  v21 := Tryz.zeroValue21
  t46 := Tryz.underlying141
  a46 := Tryz.isAgg141
  z46 := Tryz.sizeOf141
  v46 := Tryz.zeroValue141
  t105 := Tryz.underlying266
  a105 := Tryz.isAgg266
  z105 := Tryz.sizeOf266
  v105 := Tryz.zeroValue266
  t119 := Tryz.underlying279
  a119 := Tryz.isAgg279
  z119 := Tryz.sizeOf279
  t138 := Tryz.underlying281
  a138 := Tryz.isAgg281
  z138 := Tryz.sizeOf281
  v138 := Tryz.zeroValue281
  t139 := Tryz.underlying282
  a139 := Tryz.isAgg282
  z139 := Tryz.sizeOf282
  v139 := Tryz.zeroValue282
  g3 := by kernel_rfl
  g4 := by kernel_rfl }
open Go.RowKit Go.Lib in
/-- unicode/utf8.DecodeRuneInString: "DecodeRuneInString is like DecodeRune but its input is a string.": ("DecodeRune unpacks the first UTF-8 encoding in p and returns the rune and its width in bytes."): WHERE s BEGINS WITH AN ASCII BYTE x: (x, 1). (LAID: no walk: one application.) -/
theorem Tryz.utf8_DecodeRuneInString_ascii (s : ByteArray) (x : UInt8) (w : World) (h0 : s.data.toList[0]? = some x) (hx : x.toNat < 128) :
    Calls Tryz.prog 249 #[.string s] w fun e w' => e = .returned (.tuple #[.int .i32 x.toNat, .int .i64 1]) ∧ w' = w := Any.utf8_DecodeRuneInString_ascii Tryz.lays197 s x w h0 hx
def Tryz.lays195_ren : Go.Shelf.Ren := ⟨fun | 195 => 248 | n => n, fun | 9 => 9 | 3 => 3 | 0 => 0 | 4 => 4 | n => n, fun | n => n⟩
theorem Tryz.lays195 : Go.Proofs.Lays.n195 Tryz.prog Tryz.lays195_ren := {
  mixed := by kernel_rfl
  f195 := Tryz.func248.trans (congrArg some (by kernel_rfl))
  t0 := Tryz.underlying0
  a0 := Tryz.isAgg0
  z0 := Tryz.sizeOf0
  v0 := Tryz.zeroValue0
  t3 := Tryz.underlying3
  a3 := Tryz.isAgg3
  z3 := Tryz.sizeOf3
  v3 := Tryz.zeroValue3
  t4 := Tryz.underlying4
  a4 := Tryz.isAgg4
  z4 := Tryz.sizeOf4
  v4 := Tryz.zeroValue4
  t9 := Tryz.underlying9
  a9 := Tryz.isAgg9
  z9 := Tryz.sizeOf9
  v9 := Tryz.zeroValue9 }
open Go.RowKit Go.Lib in
theorem Tryz.utf8_RuneCountInString_ascii (s : ByteArray) (w : World) (hs : s.size < 4294967281) (hascii : ∀ (j : Nat) b, s.data.toList[j]? = some b → b.toNat < 128) :
    Calls Tryz.prog 248 #[.string s] w fun e w' => e = .returned (.int .i64 s.size) ∧ w' = w.iter s s.size := Any.utf8_RuneCountInString_ascii Tryz.lays195 s w hs hascii
def Tryz.lays268_ren : Go.Shelf.Ren := ⟨fun | 268 => 227 | 195 => 248 | 197 => 249 | 260 => 263 | n => n, fun | 9 => 9 | 3 => 3 | 31 => 24 | 4 => 4 | 105 => 266 | 21 => 21 | 0 => 0 | 5 => 5 | 119 => 279 | 46 => 141 | 139 => 282 | 138 => 281 | n => n, fun | 3 => 2 | 4 => 3 | n => n⟩
theorem Tryz.lays268 : Go.Proofs.Lays.n268 Tryz.prog Tryz.lays268_ren := {
  mixed := by kernel_rfl
  f195 := Tryz.func248.trans (congrArg some (by kernel_rfl))
  f197 := Tryz.func249.trans (congrArg some (by kernel_rfl))
  f260 := Tryz.func263.trans (congrArg some (by kernel_rfl))
  f268 := Tryz.func227.trans (congrArg some (by kernel_rfl))
  t0 := Tryz.underlying0
  a0 := Tryz.isAgg0
  z0 := Tryz.sizeOf0
  v0 := Tryz.zeroValue0
  t3 := Tryz.underlying3
  a3 := Tryz.isAgg3
  z3 := Tryz.sizeOf3
  v3 := Tryz.zeroValue3
  t4 := Tryz.underlying4
  a4 := Tryz.isAgg4
  z4 := Tryz.sizeOf4
  v4 := Tryz.zeroValue4
  t5 := Tryz.underlying5
  a5 := Tryz.isAgg5
  z5 := Tryz.sizeOf5
  v5 := Tryz.zeroValue5
  t9 := Tryz.underlying9
  a9 := Tryz.isAgg9
  z9 := Tryz.sizeOf9
  v9 := Tryz.zeroValue9
  t21 := Tryz.underlying21
  a21 := Tryz.isAgg21
  z21 := Tryz.sizeOf21
  v21 := Tryz.zeroValue21
  t31 := Tryz.underlying24
  a31 := Tryz.isAgg24
  z31 := Tryz.sizeOf24
  v31 := Tryz.zeroValue24
  t46 := Tryz.underlying141
  a46 := Tryz.isAgg141
  z46 := Tryz.sizeOf141
  v46 := Tryz.zeroValue141
  t105 := Tryz.underlying266
  a105 := Tryz.isAgg266
  z105 := Tryz.sizeOf266
  v105 := Tryz.zeroValue266
  t119 := Tryz.underlying279
  a119 := Tryz.isAgg279
  z119 := Tryz.sizeOf279
  t138 := Tryz.underlying281
  a138 := Tryz.isAgg281
  z138 := Tryz.sizeOf281
  v138 := Tryz.zeroValue281
  t139 := Tryz.underlying282
  a139 := Tryz.isAgg282
  z139 := Tryz.sizeOf282
  v139 := Tryz.zeroValue282
  g3 := by kernel_rfl
  g4 := by kernel_rfl }
open Go.RowKit Go.Lib in
theorem Tryz.strings_explode_all (s : ByteArray) (n : Int) (w : World) (hn : n < 0) (hs : s.size < 4294967281) (hascii : ∀ (j : Nat) b, s.data.toList[j]? = some b → b.toNat < 128) :
    Calls Tryz.prog 227 #[.string s, .int .i64 n] w fun e w' =>
      e = .returned (.slice (some ⟨(w.iter s s.size).heap.size, 0, none⟩) s.size s.size) ∧ w' = (w.iter s s.size).alloc (.cells ((Lib.charsB s).map Value.string).toArray 9) := Any.strings_explode_all Tryz.lays268 (by kernel_rfl) s n w hn hs hascii
open Go.RowKit Go.Lib in
/-- strings.genSplit at sep == "", n < 0: 'return explode(s, n)'. (LAID: no walk: one application.) -/
theorem Tryz.strings_genSplit_chars (s sep : ByteArray) (sv n : Int) (w : World) (h0 : sep.size = 0) (hn : n < 0) (hs : s.size < 4294967281) (hascii : ∀ (j : Nat) b, s.data.toList[j]? = some b → b.toNat < 128) :
    Calls Tryz.prog 211 #[.string s, .string sep, .int .i64 sv, .int .i64 n] w fun e w' =>
      e = .returned (.slice (some ⟨(w.iter s s.size).heap.size, 0, none⟩) s.size s.size) ∧ w' = (w.iter s s.size).alloc (.cells ((Lib.charsB s).map Value.string).toArray 9) := Any.strings_genSplit_chars Tryz.lays221 (by kernel_rfl) s sep sv n w h0 hn hs hascii
open Go.RowKit Go.Lib in
/-- strings.Split(s, ""), s ASCII: a piece a byte. (LAID: no walk: one application.) -/
theorem Tryz.strings_Split_chars (s sep : ByteArray) (w : World) (h0 : sep.size = 0) (hs : s.size < 4294967281) (hascii : ∀ (j : Nat) b, s.data.toList[j]? = some b → b.toNat < 128) :
    Calls Tryz.prog 166 #[.string s, .string sep] w fun e w' =>
      e = .returned (.slice (some ⟨(w.iter s s.size).heap.size, 0, none⟩) s.size s.size) ∧ w' = (w.iter s s.size).alloc (.cells ((Lib.charsB s).map Value.string).toArray 9) := Any.strings_Split_chars Tryz.lays146 (by kernel_rfl) s sep w h0 hs hascii
def Tryz.lays260_ren : Go.Shelf.Ren := ⟨fun | 260 => 263 | n => n, fun | 9 => 9 | 21 => 21 | 3 => 3 | 4 => 4 | 5 => 5 | 119 => 279 | 0 => 0 | 46 => 141 | 139 => 282 | 138 => 281 | n => n, fun | 3 => 2 | 4 => 3 | n => n⟩
theorem Tryz.lays260 : Go.Proofs.Lays.n260 Tryz.prog Tryz.lays260_ren := {
  mixed := by kernel_rfl
  f260 := Tryz.func263.trans (congrArg some (by kernel_rfl))
  t0 := Tryz.underlying0
  a0 := Tryz.isAgg0
  z0 := Tryz.sizeOf0
  v0 := Tryz.zeroValue0
  t3 := Tryz.underlying3
  a3 := Tryz.isAgg3
  z3 := Tryz.sizeOf3
  v3 := Tryz.zeroValue3
  t4 := Tryz.underlying4
  a4 := Tryz.isAgg4
  z4 := Tryz.sizeOf4
  v4 := Tryz.zeroValue4
  t5 := Tryz.underlying5
  a5 := Tryz.isAgg5
  z5 := Tryz.sizeOf5
  v5 := Tryz.zeroValue5
  t9 := Tryz.underlying9
  a9 := Tryz.isAgg9
  z9 := Tryz.sizeOf9
  v9 := Tryz.zeroValue9
  t21 := Tryz.underlying21
  a21 := Tryz.isAgg21
  z21 := Tryz.sizeOf21
  v21 := Tryz.zeroValue21
  t46 := Tryz.underlying141
  a46 := Tryz.isAgg141
  z46 := Tryz.sizeOf141
  v46 := Tryz.zeroValue141
  t119 := Tryz.underlying279
  a119 := Tryz.isAgg279
  z119 := Tryz.sizeOf279
  t138 := Tryz.underlying281
  a138 := Tryz.isAgg281
  z138 := Tryz.sizeOf281
  v138 := Tryz.zeroValue281
  t139 := Tryz.underlying282
  a139 := Tryz.isAgg282
  z139 := Tryz.sizeOf282
  v139 := Tryz.zeroValue282
  g3 := by kernel_rfl
  g4 := by kernel_rfl }
open Go.RowKit Go.Lib in
theorem Tryz.utf8_decodeRuneInStringSlow (s : ByteArray) (w : World) (hT : Lib.Utf8Tabs 2 3 w) :
    Calls Tryz.prog 263 #[.string s] w fun e w' => e = .returned (.tuple #[.int .i32 (Lib.decodeGo s).1, .int .i64 (Lib.decodeGo s).2]) ∧ Below w.heap.size w w' := Any.utf8_decodeRuneInStringSlow Tryz.lays260 s w hT
end Go.Proofs

/- Contracts of the program's names and paths (lexer), which lean on the shelf's contracts of the library's strings. -/
namespace Go.Proofs.YthhmioodienlmaaGreatDoor
open Go
set_option maxRecDepth 20000
set_option pp.deepTerms false
set_option pp.deepTerms.threshold 6
variable {P : Program} {H : List HO}

/-! ### from a contract of the model -/
theorem fun_of_calls {f : FuncId} {ps : List AV} {V : AV} (he : EntersF P f)
    (h : ∀ (K : Kmem) (w : World) (vs : Array Value), Inv [] K w [] → RelAs [] (tipsOf []) K ps vs.toList → Calls P f vs w (fun e w' => ∃ v, e = .returned v ∧ Ends [] K w [] (fun x _ => x = V) v w')) : Fun P f ps V :=
  ⟨he, fun G K w vs hI hr => by
    obtain rfl : G = [] := List.eq_nil_of_length_eq_zero hI.len
    exact h K w vs hI hr⟩
theorem ends_same {K : Kmem} {w : World} {v : Value} {V : AV} (hI : Inv [] K w []) (hr : RelA [] (tipsOf []) K V v) : Ends [] K w [] (fun x _ => x = V) v w := Ends.same hI hr rfl

theorem rel_str {K : Kmem} {s : Str} {v : Value} (h : RelA [] (tipsOf []) K (.d (.str s)) v) : v = .string ⟨s.toArray⟩ ∧ s.length ≤ lim := by simpa only [RelA, RelD] using h
theorem rel_1 {K : Kmem} {a : AV} {vs : Array Value} (h : RelAs [] (tipsOf []) K [a] vs.toList) : ∃ v, vs = #[v] ∧ RelA [] (tipsOf []) K a v := by
  simp only [RelAs] at h
  obtain ⟨v, ws, e, r, rfl⟩ := h
  exact ⟨v, Array.ext' (by simpa using e), r⟩
theorem rel_2 {K : Kmem} {a b : AV} {vs : Array Value} (h : RelAs [] (tipsOf []) K [a, b] vs.toList) : ∃ v u, vs = #[v, u] ∧ RelA [] (tipsOf []) K a v ∧ RelA [] (tipsOf []) K b u := by
  simp only [RelAs] at h
  obtain ⟨v, ws, e, r, u, ws', rfl, r2, rfl⟩ := h
  exact ⟨v, u, Array.ext' (by simpa using e), r, r2⟩

theorem str_Compare (a b : Str) : Fun Tryz.prog 159 [.d (.str a), .d (.str b)] (.d (.int .i64 (Lib.compareBytes a b))) := by
  refine fun_of_calls ⟨Tryz.f159, Tryz.func159, by decide, rfl⟩ fun K w vs hI hr => ?_
  obtain ⟨v, u, rfl, r1, r2⟩ := rel_2 hr
  obtain ⟨rfl, h1⟩ := rel_str r1
  obtain ⟨rfl, h2⟩ := rel_str r2
  refine (Tryz.strings_Compare _ _ w).mono ?_
  rintro e w' ⟨rfl, rfl⟩
  exact ⟨_, rfl, ends_same hI (by simp [RelA, RelD])⟩

theorem str_Contains (a b : Str) (h : a.length < 4294967281) : Fun Tryz.prog 204 [.d (.str a), .d (.str b)] (.d (.bool (Lib.contains a b))) := by
  refine fun_of_calls ⟨Tryz.f204, Tryz.func204, by decide, rfl⟩ fun K w vs hI hr => ?_
  obtain ⟨v, u, rfl, r1, r2⟩ := rel_2 hr
  obtain ⟨rfl, h1⟩ := rel_str r1
  obtain ⟨rfl, h2⟩ := rel_str r2
  obtain ⟨m, hm⟩ := hI.glob
  refine (Tryz.strings_Contains _ _ m w (by simpa [ByteArray.size] using h) (hI.agree _ _ _ hm)).mono ?_
  rintro e w' ⟨rfl, rfl⟩
  exact ⟨_, rfl, ends_same hI (by simp [RelA, RelD])⟩

/-! ### comparing -/
theorem cmp_zero : ∀ a b : Str, Lib.compareBytes a b = 0 ↔ a = b
  | [], [] => by simp [Lib.compareBytes]
  | [], _ :: _ => by simp [Lib.compareBytes]
  | _ :: _, [] => by simp [Lib.compareBytes]
  | a :: l, b :: l' => by
    have ih := cmp_zero l l'
    simp only [Lib.compareBytes, List.cons.injEq]
    by_cases h1 : a < b
    · simp [h1]; rintro rfl; exact absurd h1 (UInt8.lt_irrefl _)
    · by_cases h2 : b < a
      · simp [h1, h2]; rintro rfl; exact absurd h2 (UInt8.lt_irrefl _)
      · have : a = b := UInt8.le_antisymm (UInt8.not_lt.1 h2) (UInt8.not_lt.1 h1)
        simp [h1, h2, this, ih]
theorem cmp_pos : ∀ a b : Str, 0 < Lib.compareBytes a b ↔ (strLt a b = false ∧ a ≠ b)
  | [], [] => by simp [Lib.compareBytes]
  | [], _ :: _ => by simp [Lib.compareBytes, strLt, Op.bytesLess]
  | _ :: _, [] => by simp [Lib.compareBytes, strLt, Op.bytesLess]
  | a :: l, b :: l' => by
    have ih := cmp_pos l l'
    unfold strLt at ih ⊢
    simp only [Lib.compareBytes, Op.bytesLess, List.cons.injEq, ne_eq]
    by_cases h1 : a < b
    · simp [h1]
    · by_cases h2 : b < a
      · have hab : a ≠ b := by rintro rfl; exact absurd h2 (UInt8.lt_irrefl _)
        simp [h1, h2, hab]
      · have : a = b := UInt8.le_antisymm (UInt8.not_lt.1 h2) (UInt8.not_lt.1 h1)
        simp [h1, h2, this, ih]

/-! ### keywords -/
def spaced : List Str → Str
  | [] => []
  | w :: ws => w ++ 32 :: spaced ws

theorem pre_word : ∀ (s w rest : Str), (∀ c ∈ s, c ≠ 32) → (∀ c ∈ w, c ≠ 32) → ((s ++ [32]).isPrefixOf (w ++ 32 :: rest) = decide (s = w))
  | [], [], rest, _, _ => by simp
  | [], c :: w, rest, _, hw => by
    have h0 : ((32 : UInt8) == c) = false := by
      have := hw c (by simp)
      simp; exact fun e => this e.symm
    simp [List.isPrefixOf, h0]
  | c :: s, [], rest, hs, _ => by
    have h0 : (c == (32 : UInt8)) = false := by simpa using hs c (by simp)
    simp [List.isPrefixOf, h0]
  | c :: s, d :: w, rest, hs, hw => by
    have ih := pre_word s w rest (fun x hx => hs x (by simp [hx])) (fun x hx => hw x (by simp [hx]))
    simp only [List.cons_append, List.isPrefixOf_cons_cons, ih, List.cons.injEq]
    by_cases hc : c = d <;> simp [hc]

theorem index_nonneg (b : UInt8) (l sub : Str) : decide (0 ≤ Lib.index (b :: l) sub) = (sub.isPrefixOf (b :: l) || decide (0 ≤ Lib.index l sub)) := by
  rw [Lib.index]
  cases h : sub.isPrefixOf (b :: l)
  · simp only [Bool.false_eq_true, if_false, Bool.false_or]
    have := Lib.index_ge l sub
    by_cases h1 : Lib.index l sub = -1
    · simp [h1]
    · have h2 : (Lib.index l sub == -1) = false := by simpa using h1
      rw [h2]
      simp only [Bool.false_eq_true, if_false]
      have h3 : 0 ≤ Lib.index l sub := by omega
      have h4 : 0 ≤ Lib.index l sub + 1 := by omega
      simp [h3, h4]
  · simp

theorem skip_word (s : Str) : ∀ (w rest : Str), (∀ c ∈ w, c ≠ 32) → decide (0 ≤ Lib.index (w ++ rest) (32 :: s ++ [32])) = decide (0 ≤ Lib.index rest (32 :: s ++ [32]))
  | [], rest, _ => by simp
  | c :: w, rest, hw => by
    have h0 := hw c (by simp)
    rw [List.cons_append, index_nonneg, skip_word s w rest (fun x hx => hw x (by simp [hx]))]
    have : ((32 :: s ++ [32]).isPrefixOf (c :: (w ++ rest))) = false := by
      simp [List.isPrefixOf]; intro e; exact absurd e.symm h0
    rw [this, Bool.false_or]

theorem in_words (s : Str) (hs : ∀ c ∈ s, c ≠ 32) : ∀ ws : List Str, (∀ w ∈ ws, ∀ c ∈ w, c ≠ 32) → decide (0 ≤ Lib.index (32 :: spaced ws) (32 :: s ++ [32])) = ws.contains s
  | [], _ => by
    rw [spaced, index_nonneg]
    simp [List.isPrefixOf, Lib.index]
  | w :: ws, h => by
    have ih := in_words s hs ws fun x hx => h x (by simp [hx])
    have hw := h w (by simp)
    rw [index_nonneg]
    have h1 : ((32 :: s ++ [32]).isPrefixOf (32 :: spaced (w :: ws))) = decide (s = w) := by
      rw [spaced, List.cons_append, List.isPrefixOf_cons_cons, pre_word s w _ hs hw]; simp
    rw [h1, spaced, skip_word s w _ hw, ih, List.contains_cons]
    congr 1
    by_cases h : s = w <;> simp [h]

def kwText : Str := [32, 97, 110, 100, 32, 97, 110, 121, 32, 97, 115, 32, 98, 111, 111, 108, 32, 100, 101, 112, 114, 101, 99, 97, 116, 101, 100, 32, 101, 108, 115, 101, 32, 101, 120, 112, 111, 114, 116, 32, 102, 97, 108, 115, 101, 32, 102, 110, 32, 102, 111, 108, 100, 32, 102, 114, 111, 109, 32, 105, 102, 32, 105, 109, 112, 111, 114, 116, 32, 105, 110, 32, 105, 110, 116, 32, 108, 101, 110, 103, 116, 104, 32, 108, 101, 116, 32, 108, 105, 115, 116, 32, 109, 97, 116, 99, 104, 32, 109, 111, 100, 117, 108, 101, 32, 110, 111, 110, 101, 32, 110, 111, 116, 32, 111, 114, 32, 116, 101, 120, 116, 32, 116, 104, 101, 110, 32, 116, 114, 117, 101, 32, 116, 121, 112, 101, 32, 117, 115, 101, 32]

theorem word_ne {c : UInt8} (h : bWord c = true) : c ≠ 32 := by
  rintro rfl
  exact absurd h (by decide)

theorem kw_contains (s : Str) (h : s.all bWord = true) : Lib.contains kwText (32 :: s ++ [32]) = keywords.contains s := by
  have : kwText = 32 :: spaced keywords := by decide
  rw [this]
  exact in_words s (fun c hc => word_ne (List.all_eq_true.1 h c hc)) keywords (by decide)

theorem lex_keyword (s : Str) (h : s.length ≤ 1048576) (hw : s.all bWord = true) : Fun Tryz.prog 156 [.d (.str s)] (.d (.bool (keywords.contains s))) := by
  have hl : lim = 4294967296 := rfl
  refine ACalls.of_awp false Tryz.func156 (by decide) rfl ?_
  simp only [show Tryz.f156.ntmps = 7 from rfl, List.length_cons, List.length_nil, Nat.reduceAdd, Nat.reduceSub, List.replicate, List.cons_append, List.nil_append, agg, List.map_cons, List.map_nil]
  simp only [go_sem, sBin_add (x := [32]) (y := s) (by simp; omega)]
  simp only [go_sem, sBin_add (x := 32 :: s) (y := [32]) (by simp; omega)]
  refine (str_Contains kwText ([32] ++ s ++ [32]) (by decide)).call (by rfl) rfl ?_
  have hk : Lib.contains kwText ([32] ++ s ++ [32]) = keywords.contains s := kw_contains s hw
  generalize Lib.contains kwText ([32] ++ s ++ [32]) = b at hk ⊢
  subst hk
  simp only [go_sem]
  exact ret_fun rfl (by simp [go_sem]) rfl

theorem lex_IsName (s : Str) (h : s.length ≤ 1048576) : Fun Tryz.prog 96 [.d (.str s)] (.d (.bool (isName s))) := by
  refine ACalls.of_awp false Tryz.func96 (by decide) rfl ?_
  simp only [show Tryz.f96.ntmps = 24 from rfl, List.length_cons, List.length_nil, Nat.reduceAdd, Nat.reduceSub, List.replicate, List.cons_append, List.nil_append, agg, List.map_cons, List.map_nil]
  unfold isName
  by_cases h1 : (1 : Int) ≤ s.length
  · have hne : ¬ s = [] := by rintro rfl; simp at h1
    by_cases h2 : (s.length : Int) ≤ 32
    · simp only [go_sem, h1, h2, hne]
      refine res_indexS (Int.le_refl _) (c := s.headD 0) (headD_at (by omega)) ?_
      simp only [go_sem]
      refine (lex_small _).call rfl rfl ?_
      cases bSmall (s.headD 0)
      · simp only [go_sem]; exact ret_fun rfl (by simp [go_sem]) rfl
      · simp only [go_sem]
        refine (lex_all s (by omega) _ bWord (by intro o ho; cases ho) lex_word).call ?_
        cases hw : s.all bWord
        · simp only [go_sem]; exact ret_fun rfl (by simp [go_sem]) rfl
        · simp only [go_sem]
          refine (lex_keyword s h hw).call rfl rfl ?_
          simp only [go_sem]
          exact ret_fun rfl (by simp [go_sem]) rfl
    · simp only [go_sem, h1, h2, hne]; exact ret_fun rfl (by simp [go_sem]) rfl
  · have he : s = [] := by cases s with | nil => rfl | cons => simp at h1; omega
    subst he
    simp only [go_sem, h1]; exact ret_fun rfl (by simp [go_sem]) rfl

end Go.Proofs.YthhmioodienlmaaGreatDoor

/- Contracts of the program's paths (lexer.Major). -/
namespace Go.Proofs.YthhmioodienlmaaGreatDoor
open Go
set_option maxRecDepth 20000
set_option pp.deepTerms false
set_option pp.deepTerms.threshold 6
variable {P : Program} {H : List HO}

/-! ### the parts of a path -/
def spl : Str → List Str
  | [] => [[]]
  | c :: s => if c = 47 then [] :: spl s else match spl s with
    | p :: ps => (c :: p) :: ps
    | [] => [[c]]
theorem spl_ne : ∀ s, ∃ p ps, spl s = p :: ps
  | [] => ⟨_, _, rfl⟩
  | c :: s => by
    obtain ⟨p, ps, h⟩ := spl_ne s
    simp only [spl, h]
    split <;> exact ⟨_, _, rfl⟩
theorem segs_spl : ∀ (s : Str) (out : List Str) (x : Str), s.foldl segF (out ++ [x]) = out ++ (match spl s with | p :: ps => (x ++ p) :: ps | [] => [x])
  | [], out, x => by simp [spl]
  | c :: s, out, x => by
    obtain ⟨p, ps, h⟩ := spl_ne s
    rw [List.foldl_cons]
    by_cases hc : c = 47
    · subst hc
      have : segF (out ++ [x]) 47 = (out ++ [x]) ++ [[]] := by simp [segF]
      rw [this, segs_spl s (out ++ [x]) [], h]
      simp [spl, h]
    · have : segF (out ++ [x]) c = out ++ [x ++ [c]] := by simp [segF, hc]
      rw [this, segs_spl s out (x ++ [c]), h]
      simp [spl, h, hc]
theorem segs_eq (s : Str) : segs s = spl s := by
  obtain ⟨p, ps, h⟩ := spl_ne s
  have := segs_spl s [] []
  simp only [List.nil_append, h] at this
  rw [h]; exact this

theorem idx_miss : ∀ s : Str, Lib.index s [47] = -1 → spl s = [s] ∧ 47 ∉ s
  | [], _ => by simp [spl]
  | c :: s, h => by
    rw [Lib.index] at h
    by_cases hc : c = 47
    · subst hc; simp [List.isPrefixOf] at h
    · have hp : ([47].isPrefixOf (c :: s)) = false := by simp [List.isPrefixOf]; exact fun e => hc e.symm
      rw [hp] at h
      simp only [Bool.false_eq_true, if_false] at h
      by_cases h1 : Lib.index s [47] = -1
      · obtain ⟨i1, i2⟩ := idx_miss s h1
        simp [spl, hc, i1, i2]; exact fun e => hc e.symm
      · have h2 : (Lib.index s [47] == -1) = false := by simpa using h1
        rw [h2] at h
        have := Lib.index_ge s [47]
        simp at h; omega
theorem idx_hit : ∀ (s : Str) (i : Nat), Lib.index s [47] = i → spl s = s.take i :: spl (s.drop (i + 1)) ∧ i < s.length
  | [], i, h => by simp [Lib.index] at h
  | c :: s, i, h => by
    rw [Lib.index] at h
    by_cases hc : c = 47
    · subst hc
      simp [List.isPrefixOf] at h
      have : i = 0 := by omega
      subst this
      simp [spl]
    · have hp : ([47].isPrefixOf (c :: s)) = false := by simp [List.isPrefixOf]; exact fun e => hc e.symm
      rw [hp] at h
      simp only [Bool.false_eq_true, if_false] at h
      by_cases h1 : Lib.index s [47] = -1
      · rw [h1] at h; simp at h
      · have h2 : (Lib.index s [47] == -1) = false := by simpa using h1
        rw [h2] at h
        simp only [Bool.false_eq_true, if_false] at h
        have := Lib.index_ge s [47]
        obtain ⟨j, hj⟩ : ∃ j : Nat, Lib.index s [47] = j := ⟨(Lib.index s [47]).toNat, by omega⟩
        obtain ⟨i1, i2⟩ := idx_hit s j hj
        have : i = j + 1 := by omega
        subst this
        refine ⟨?_, by simp; omega⟩
        simp [spl, hc, i1]

theorem splitK_spl : ∀ (n : Nat) (s : Str), s.length ≤ n → Lib.splitK [47] 0 (Lib.count s [47]) s = spl s ∧ (spl s).length = Lib.count s [47] + 1 := by
  intro n
  induction n with
  | zero =>
    intro s h
    have : s = [] := List.eq_nil_of_length_eq_zero (by omega)
    subst this
    exact ⟨by rfl, by rfl⟩
  | succ n ih =>
    intro s h
    rcases Lib.index_spec s [47] with ⟨hm, _⟩ | ⟨i, hi, _⟩
    · have hc : Lib.count s [47] = 0 := Lib.count_miss hm
      rw [hc, (idx_miss s hm).1]
      exact ⟨rfl, rfl⟩
    · obtain ⟨h1, h2⟩ := idx_hit s i hi
      have hc : Lib.count s [47] = 1 + Lib.count (s.drop (i + 1)) [47] := Lib.count_hit (by simp) hi
      obtain ⟨j1, j2⟩ := ih (s.drop (i + 1)) (by simp; omega)
      rw [hc, h1, Nat.add_comm, Lib.splitK, hi]
      have : ((i : Int) == -1) = false := by simp
      rw [this]
      simp only [Bool.false_eq_true, if_false, Nat.add_zero, List.length_cons, List.length_nil, Nat.zero_add, j1, j2, List.length_cons]
      exact ⟨by simp [j1], trivial⟩

theorem str_Split (s : Str) (h : s.length ≤ 1048576) : Fun Tryz.prog 166 [.d (.str s), .d (.str [47])] (.d (.sl false ((segs s).map sE))) := by
  refine fun_of_calls ⟨Tryz.f166, Tryz.func166, by decide, rfl⟩ fun K w vs hI hr => ?_
  obtain ⟨v, u, rfl, r1, r2⟩ := rel_2 hr
  obtain ⟨rfl, h1⟩ := rel_str r1
  obtain ⟨rfl, h2⟩ := rel_str r2
  obtain ⟨m, hm⟩ := hI.glob
  refine (Tryz.strings_Split _ _ m w (by simp [ByteArray.size]; omega) (hI.agree _ _ _ hm) (by decide)).mono ?_
  rintro e w' ⟨rfl, hw⟩
  obtain ⟨g1, g2⟩ := splitK_spl s.length s (Nat.le_refl _)
  have hlen := segs_len s [[]]
  change (segs s).length ≤ _ at hlen
  have hcount : Lib.countB ⟨s.toArray⟩ ⟨#[47]⟩ = Lib.count s [47] := by rfl
  have hdata : (Lib.splitB ⟨#[47]⟩ 0 (Lib.count s [47]) ⟨s.toArray⟩).map (·.data.toList) = segs s := by
    rw [Lib.splitB_data, segs_eq]; exact g1
  have hl : (segs s).length = Lib.count s [47] + 1 := by rw [segs_eq]; exact g2
  simp only [hcount] at hw ⊢
  have hcells : (Lib.splitB ⟨#[47]⟩ 0 (Lib.count s [47]) ⟨s.toArray⟩).map Value.string = (segs s).map (fun x => Value.string ⟨x.toArray⟩) := by
    rw [← hdata, List.map_map]
    apply List.map_congr_left
    intro x _
    simp
  have hmem : ∀ x ∈ segs s, x.length ≤ 1048576 := fun x hx => by have := segs_mem 0 s [[]] (by simp) x hx; omega
  obtain ⟨k1, k2⟩ := hI.fixNew (w' := w') (by rw [hw]; rfl) (by rw [hw]; exact ⟨rfl, rfl, rfl⟩) ((segs s).length)
  refine ⟨_, rfl, _, [], _, [], rfl, ?_, k1, k2⟩
  have hlm : lim = 4294967296 := rfl
  simp only [RelA]
  have hrd := RelD.of_row (G := []) (T := tipsOf []) (K := K) (es := (segs s).map sE) (sz := 1) (vs := ((segs s).map (fun x => Value.string ⟨x.toArray⟩)).toArray) (b := w.heap.size) (c := false) (cap := (segs s).length) (by simp [sE]) ?_
    (K' := K.row w.heap.size 0 (segs s).length ((segs s).map (fun x => Value.string ⟨x.toArray⟩)).toArray) (Kle.row fun o _ _ => by
      cases hk : K w.heap.size o with
      | none => rfl
      | some v => have := hI.k_lt hk; omega) (fun o ho => Kmem.row_at (Nat.zero_le _) (by simpa using ho)) (by simp) (by simp) (by simp at hlen ⊢; omega)
  · rw [hcells]
    simp only [List.length_map] at hrd
    rw [← hl]; exact hrd
  · have : ∀ l : List Str, (∀ x ∈ l, x.length ≤ 1048576) → RelAs [] (tipsOf []) K ((l.map sE).flatten.map .d) (l.map fun x => Value.string ⟨x.toArray⟩) := by
      intro l
      induction l with
      | nil => intro _; exact RelAs.nil
      | cons x l ih =>
        intro hx
        simp only [List.map_cons, List.flatten_cons, sE, List.cons_append, List.nil_append]
        refine RelAs.cons ?_ (ih fun y hy => hx y (by simp [hy]))
        have := hx x (by simp)
        show RelA _ _ _ (.d (.str x)) _
        simp only [RelA, RelD]; exact ⟨trivial, by omega⟩
    have h3 := this (segs s) hmem
    rw [List.toList_toArray, List.take_of_length_le (by simp)]
    exact h3

end Go.Proofs.YthhmioodienlmaaGreatDoor

/- Contracts of the program's paths (lexer.version, Major, IsPath), and of names that increase. -/
namespace Go.Proofs.YthhmioodienlmaaGreatDoor
open Go
set_option maxRecDepth 20000
set_option pp.deepTerms false
set_option pp.deepTerms.threshold 6
variable {P : Program} {H : List HO}

theorem oSlice_take {n b el : Nat} {ag isS isM : Bool} {fs : List (Nat × Nat × Bool)} {al : Option Nat} {ky : TypeId} {ki : Option IntKind} {z : List D} {te : Option TInf} {s : Str} {k : IntKind} {i : Nat} (hi : i ≤ s.length) :
    oSlice (some ⟨n, b, ag, fs, el, al, isS, isM, ky, ki, true, z⟩) te (.d (.str s)) none (some (.d (.int k (i : Int)))) none H = some (.d (.str (s.take i)), H) := by
  simp [oSlice, oBounds, sb, hi]
theorem oSlice_drop {n b el : Nat} {ag isS isM : Bool} {fs : List (Nat × Nat × Bool)} {al : Option Nat} {ky : TypeId} {ki : Option IntKind} {z : List D} {te : Option TInf} {s : Str} {k : IntKind} {i : Nat} (hi : i ≤ s.length) :
    oSlice (some ⟨n, b, ag, fs, el, al, isS, isM, ky, ki, true, z⟩) te (.d (.str s)) (some (.d (.int k (i : Int)))) none none H = some (.d (.str (s.drop i)), H) := by
  simp [oSlice, oBounds, sb, hi]
  rw [List.take_of_length_le (by simp)]
theorem aevo_none {ts : List AV} : aevo ts none = none := by rfl
theorem aevo_some {ts : List AV} {x : Operand} : aevo ts (some x) = some (aev ts x) := by rfl
attribute [go_sem] aevo_none aevo_some

def cutV (s : Str) : Str × Bool := match s with | c :: t => if c = 118 then (t, true) else (s, false) | [] => ([], false)

theorem str_HasPrefix (s : Str) : Fun Tryz.prog 251 [.d (.str s), .d (.str [118])] (.d (.bool (cutV s).2)) := by
  refine ACalls.of_awp false Tryz.func251 (by decide) rfl ?_
  simp only [show Tryz.f251.ntmps = 18 from rfl, List.length_cons, List.length_nil, Nat.reduceAdd, Nat.reduceSub, List.replicate, List.cons_append, List.nil_append, agg, List.map_cons, List.map_nil]
  cases s with
  | nil =>
    have e0 : (((1 : Nat) : Int) ≤ ((0 : Nat) : Int)) = False := by simp
    simp only [go_sem, e0]
    exact ret_fun rfl (by simp [go_sem, cutV]) rfl
  | cons c t =>
    have e1 : (((1 : Nat) : Int) ≤ ((t.length + 1 : Nat) : Int)) = True := by simp; omega
    simp only [go_sem, e1]
    rw [oSlice_take (i := 1) (by simp)]
    by_cases hc : c = 118
    · subst hc
      simp only [go_sem, List.take_succ_cons, List.take_zero]
      exact ret_fun rfl (by simp [go_sem, cutV]) rfl
    · have : ([c] = ([118] : Str)) = False := by simp [hc]
      simp only [go_sem, List.take_succ_cons, List.take_zero, this]
      exact ret_fun rfl (by simp [go_sem, cutV, hc]) rfl

theorem lite_CutPrefix (s : Str) : Fun Tryz.prog 229 [.d (.str s), .d (.str [118])] (.tup [.d (.str (cutV s).1), .d (.bool (cutV s).2)]) := by
  refine ACalls.of_awp false Tryz.func229 (by decide) rfl ?_
  simp only [show Tryz.f229.ntmps = 15 from rfl, List.length_cons, List.length_nil, Nat.reduceAdd, Nat.reduceSub, List.replicate, List.cons_append, List.nil_append, agg, List.map_cons, List.map_nil]
  simp only [go_sem]
  refine (str_HasPrefix s).call rfl rfl ?_
  cases s with
  | nil => simp only [go_sem, cutV]; exact ret_fun rfl (by simp [go_sem]) rfl
  | cons c t =>
    by_cases hc : c = 118
    · subst hc
      simp only [go_sem, cutV, if_true]
      rw [oSlice_drop (i := 1) (by simp)]
      simp only [go_sem]
      exact ret_fun rfl (by simp [go_sem]) rfl
    · simp only [go_sem, cutV, hc]; exact ret_fun rfl (by simp [go_sem]) rfl

theorem str_CutPrefix (s : Str) : Fun Tryz.prog 212 [.d (.str s), .d (.str [118])] (.tup [.d (.str (cutV s).1), .d (.bool (cutV s).2)]) := by
  refine ACalls.of_awp false Tryz.func212 (by decide) rfl ?_
  simp only [show Tryz.f212.ntmps = 11 from rfl, List.length_cons, List.length_nil, Nat.reduceAdd, Nat.reduceSub, List.replicate, List.cons_append, List.nil_append, agg, List.map_cons, List.map_nil]
  simp only [go_sem]
  refine (lite_CutPrefix s).call rfl rfl ?_
  simp only [go_sem]
  exact ret_fun rfl (by simp [go_sem]) rfl

/-! ### versions -/
theorem digs_all : ∀ (n : Nat) (s : Str), (digs n s).isSome = s.all bDigit
  | n, [] => rfl
  | n, c :: s => by
    simp only [digs, List.all_cons]
    cases h : bDigit c
    · simp
    · simp [digs_all _ s]

theorem majN_nil : majN [] = none := by rfl
theorem majN_ne {c : UInt8} {t : Str} (h : c ≠ 118) : majN (c :: t) = none := by
  have : ¬ (c.toNat : Int) = 118 := fun e => h (u8_of (d := 118) e)
  simp [majN, majBad, this]
theorem majN_v : majN [118] = none := by rfl
theorem majN_long {d : UInt8} {u : Str} (h : (3 : Int) < ((u.length + 1 : Nat) : Int)) : majN (118 :: d :: u) = none := by
  have h4 : (4 : Int) < ((u.length + 1 + 1 : Nat) : Int) := by omega
  simp only [majN, majBad, List.length_cons, h4, decide_true, Bool.or_true, Bool.true_or, if_true]
theorem majN_zero {d : UInt8} {u : Str} (h : (1 : Int) < ((u.length + 1 : Nat) : Int)) (hd : (d.toNat : Int) = 48) : majN (118 :: d :: u) = none := by
  have h4 : (2 : Int) < ((u.length + 1 + 1 : Nat) : Int) := by omega
  simp only [majN, majBad, List.length_cons, h4, List.tail_cons, List.headD_cons, hd, decide_true, Bool.and_self, Bool.or_true, if_true]
theorem majN_ok {d : UInt8} {u : Str} (h : ¬ (3 : Int) < ((u.length + 1 : Nat) : Int)) (hd : (1 : Int) < ((u.length + 1 : Nat) : Int) → ¬ (d.toNat : Int) = 48) : majN (118 :: d :: u) = digs 0 (d :: u) := by
  have h4 : ¬ (4 : Int) < ((u.length + 1 + 1 : Nat) : Int) := by omega
  have h2 : ¬ ((u.length + 1 + 1 : Nat) : Int) < 2 := by omega
  have hz : ¬ (((118 : UInt8).toNat : Int) ≠ 118) := by decide
  unfold majN
  rw [if_neg]
  · rfl
  · simp only [majBad, List.length_cons, List.tail_cons, List.headD_cons, Bool.or_eq_true, Bool.and_eq_true, decide_eq_true_eq]
    rintro (((h | h) | h) | ⟨h, h'⟩)
    · exact h2 h
    · exact h4 h
    · exact hz (of_decide_eq_true h)
    · exact hd (by omega) (of_decide_eq_true h)

theorem lex_version (s : Str) (h : s.length ≤ 1048576) : Fun Tryz.prog 167 [.d (.str s)] (.tup [.d (.int .i64 ((majN s).getD 0 : Nat)), .d (.bool (majN s).isSome)]) := by
  obtain ⟨V, hV⟩ : ∃ V, V = majN s := ⟨_, rfl⟩
  rw [← hV]
  refine ACalls.of_awp false Tryz.func167 (by decide) rfl ?_
  simp only [show Tryz.f167.ntmps = 53 from rfl, List.length_cons, List.length_nil, Nat.reduceAdd, Nat.reduceSub, List.replicate, List.cons_append, List.nil_append, agg, List.map_cons, List.map_nil]
  simp only [go_sem]
  refine (str_CutPrefix s).call rfl rfl ?_
  cases s with
  | nil =>
    rw [majN_nil] at hV; subst hV
    simp only [go_sem, cutV]
    exact ret_fun rfl (by simp [go_sem]) rfl
  | cons c t =>
    by_cases hc : c = 118
    · subst hc
      simp only [go_sem, cutV, if_true]
      cases t with
      | nil =>
        rw [majN_v] at hV; subst hV
        simp only [go_sem]
        exact ret_fun rfl (by simp [go_sem]) rfl
      | cons d u =>
        have hne : (d :: u = ([] : Str)) = False := by simp
        by_cases h3 : (3 : Int) < ((u.length + 1 : Nat) : Int)
        · rw [majN_long h3] at hV; subst hV
          simp only [go_sem, hne, h3]
          exact ret_fun rfl (by simp [go_sem]) rfl
        · by_cases hbad : (1 : Int) < ((u.length + 1 : Nat) : Int) ∧ (d.toNat : Int) = 48
          · rw [majN_zero hbad.1 hbad.2] at hV; subst hV
            simp only [go_sem, hne, h3, hbad.1]
            refine res_indexS (Int.le_refl _) (c := d) rfl ?_
            simp only [go_sem, hbad.2]
            exact ret_fun rfl (by simp [go_sem]) rfl
          · have hd : (1 : Int) < ((u.length + 1 : Nat) : Int) → ¬ (d.toNat : Int) = 48 := fun h1 h2 => hbad ⟨h1, h2⟩
            rw [majN_ok h3 hd] at hV
            have hls : (d :: u : Str).length ≤ 3 := by simp; omega
            by_cases h1 : (1 : Int) < ((u.length + 1 : Nat) : Int)
            · have h48 := hd h1
              simp only [go_sem, hne, h3, h1]
              refine res_indexS (Int.le_refl _) (c := d) rfl ?_
              simp only [go_sem, h48]
              generalize hT : (d :: u : Str) = T at hV hls ⊢
              refine (lex_all T (by omega) _ bDigit (by intro o ho; cases ho) lex_digit).call ?_
              cases hall : T.all bDigit
              · have hn : V = none := by have := digs_all 0 T; rw [hall, ← hV] at this; simpa using this
                subst hn
                simp only [go_sem]
                exact ret_fun rfl (by simp [go_sem]) rfl
              · simp only [go_sem]
                refine awp_loop (ι := Nat × Nat) (fun x => [.d (.str T), .any, .any, .any, .any, .d (.int .i64 x.2), .any, .any, .any, .any, .any, .any, .any, .any, .any, .any, .any, .any, .any, .any, .any, .any, .any, .any, .any, .any, .any, .any, .any, .any, .any, .any, .any, .any, .any, .any, .any, .any, .any, .d (.int .i64 T.length), .d (.int .i64 x.1), .any, .any, .any, .any, .any, .any, .any, .any, .any, .any, .any, .any]) (fun _ => []) (fun x => T.length - x.1)
                  (fun x => x.1 ≤ T.length ∧ (x.1 = 0 ∧ x.2 = 0 ∨ x.1 = 1 ∧ x.2 ≤ 9 ∨ x.1 = 2 ∧ x.2 ≤ 99 ∨ x.1 = 3 ∧ x.2 ≤ 999) ∧ V = digs x.2 (T.drop x.1)) (0, 0) ⟨by omega, by simp, by simpa using hV⟩ (Weak.les (by repeat (first | exact lesA_nil | refine lesA_cons (AV.le_any _) ?_ | refine lesA_cons (AV.le_refl _) ?_ | refine lesA_cons (AV.le_pure rfl) ?_))) ?_
                rintro ⟨i, n⟩ ⟨hi, hn, ha⟩
                simp only at hi hn ha
                simp only [go_sem]
                refine cnd_lt (fun hlt => ?_) (fun hge => ?_)
                · have hd := List.drop_eq_getElem_cons hlt
                  have hc : bDigit T[i] = true := List.all_eq_true.1 hall _ (List.getElem_mem hlt)
                  have hc2 : 48 ≤ T[i].toNat ∧ T[i].toNat ≤ 57 := by simp [bDigit] at hc; omega
                  rw [hd, digs, hc, if_pos rfl] at ha
                  simp only [go_sem]
                  refine res_indexS (by omega) (c := T[i]) (by simp [hlt]) ?_
                  simp only [go_sem]
                  have e1 : IntKind.u8.wrap ((T[i].toNat : Int) - 48) = ((T[i].toNat - 48 : Nat) : Int) := by
                    have : IntKind.u8.wrap ((T[i].toNat : Int) - 48) = ((T[i].toNat : Int) - 48) % 256 := rfl
                    rw [this]; omega
                  have e2 : IntKind.i64.wrap (IntKind.i64.wrap (10 * (n : Int)) + IntKind.i64.wrap ((T[i].toNat - 48 : Nat) : Int)) = ((10 * n + (T[i].toNat - 48) : Nat) : Int) := by
                    rw [wrap_i64 (n := 10 * (n : Int)) (by omega) (by omega), wrap_i64 (n := ((T[i].toNat - 48 : Nat) : Int)) (by omega) (by omega), wrap_i64 (by omega) (by omega)]; omega
                  simp only [go_sem, e1, e2, wrap_succ (i := i) (by omega)]
                  refine ⟨(i + 1, 10 * n + (T[i].toNat - 48)), ?_, ⟨hlt, ?_, ha⟩, Weak.les (by repeat (first | exact lesA_nil | refine lesA_cons (AV.le_any _) ?_ | refine lesA_cons (AV.le_refl _) ?_ | refine lesA_cons (AV.le_pure rfl) ?_))⟩
                  · show T.length - (i + 1) < T.length - i; omega
                  · show _ ∨ _; omega
                · simp only [go_sem]
                  have : T.drop i = [] := List.drop_eq_nil_of_le hge
                  rw [this, digs] at ha
                  subst ha
                  exact ret_fun rfl (by simp [go_sem]) rfl
            · simp only [go_sem, hne, h3, h1]
              generalize hT : (d :: u : Str) = T at hV hls ⊢
              refine (lex_all T (by omega) _ bDigit (by intro o ho; cases ho) lex_digit).call ?_
              cases hall : T.all bDigit
              · have hn : V = none := by have := digs_all 0 T; rw [hall, ← hV] at this; simpa using this
                subst hn
                simp only [go_sem]
                exact ret_fun rfl (by simp [go_sem]) rfl
              · simp only [go_sem]
                refine awp_loop (ι := Nat × Nat) (fun x => [.d (.str T), .any, .any, .any, .any, .d (.int .i64 x.2), .any, .any, .any, .any, .any, .any, .any, .any, .any, .any, .any, .any, .any, .any, .any, .any, .any, .any, .any, .any, .any, .any, .any, .any, .any, .any, .any, .any, .any, .any, .any, .any, .any, .d (.int .i64 T.length), .d (.int .i64 x.1), .any, .any, .any, .any, .any, .any, .any, .any, .any, .any, .any, .any]) (fun _ => []) (fun x => T.length - x.1)
                  (fun x => x.1 ≤ T.length ∧ (x.1 = 0 ∧ x.2 = 0 ∨ x.1 = 1 ∧ x.2 ≤ 9 ∨ x.1 = 2 ∧ x.2 ≤ 99 ∨ x.1 = 3 ∧ x.2 ≤ 999) ∧ V = digs x.2 (T.drop x.1)) (0, 0) ⟨by omega, by simp, by simpa using hV⟩ (Weak.les (by repeat (first | exact lesA_nil | refine lesA_cons (AV.le_any _) ?_ | refine lesA_cons (AV.le_refl _) ?_ | refine lesA_cons (AV.le_pure rfl) ?_))) ?_
                rintro ⟨i, n⟩ ⟨hi, hn, ha⟩
                simp only at hi hn ha
                simp only [go_sem]
                refine cnd_lt (fun hlt => ?_) (fun hge => ?_)
                · have hd := List.drop_eq_getElem_cons hlt
                  have hc : bDigit T[i] = true := List.all_eq_true.1 hall _ (List.getElem_mem hlt)
                  have hc2 : 48 ≤ T[i].toNat ∧ T[i].toNat ≤ 57 := by simp [bDigit] at hc; omega
                  rw [hd, digs, hc, if_pos rfl] at ha
                  simp only [go_sem]
                  refine res_indexS (by omega) (c := T[i]) (by simp [hlt]) ?_
                  simp only [go_sem]
                  have e1 : IntKind.u8.wrap ((T[i].toNat : Int) - 48) = ((T[i].toNat - 48 : Nat) : Int) := by
                    have : IntKind.u8.wrap ((T[i].toNat : Int) - 48) = ((T[i].toNat : Int) - 48) % 256 := rfl
                    rw [this]; omega
                  have e2 : IntKind.i64.wrap (IntKind.i64.wrap (10 * (n : Int)) + IntKind.i64.wrap ((T[i].toNat - 48 : Nat) : Int)) = ((10 * n + (T[i].toNat - 48) : Nat) : Int) := by
                    rw [wrap_i64 (n := 10 * (n : Int)) (by omega) (by omega), wrap_i64 (n := ((T[i].toNat - 48 : Nat) : Int)) (by omega) (by omega), wrap_i64 (by omega) (by omega)]; omega
                  simp only [go_sem, e1, e2, wrap_succ (i := i) (by omega)]
                  refine ⟨(i + 1, 10 * n + (T[i].toNat - 48)), ?_, ⟨hlt, ?_, ha⟩, Weak.les (by repeat (first | exact lesA_nil | refine lesA_cons (AV.le_any _) ?_ | refine lesA_cons (AV.le_refl _) ?_ | refine lesA_cons (AV.le_pure rfl) ?_))⟩
                  · show T.length - (i + 1) < T.length - i; omega
                  · show _ ∨ _; omega
                · simp only [go_sem]
                  have : T.drop i = [] := List.drop_eq_nil_of_le hge
                  rw [this, digs] at ha
                  subst ha
                  exact ret_fun rfl (by simp [go_sem]) rfl
    · rw [majN_ne hc] at hV; subst hV
      simp only [go_sem, cutV, hc]
      exact ret_fun rfl (by simp [go_sem]) rfl

/-! ### paths -/
theorem segOk_eq (s : Str) : (isName s && s.all bLow) = segOk s := by
  unfold segOk; rw [Bool.and_comm]; rfl

theorem lex_Major (s : Str) (h : s.length ≤ 1048576) : Fun Tryz.prog 118 [.d (.str s)] (.tup [.d (.int .i64 (if isPath s then ((majN ((segs s).getD ((segs s).length - 1) [])).getD 0 : Nat) else 0)), .d (.int .i64 (if isPath s then 0 else 4))]) := by
  have hl1 := segs_ne s [[]] (Nat.le_refl _)
  have hl2 := segs_len s [[]]
  have hml : ∀ x ∈ segs s, x.length ≤ 1048576 := fun x hx => by have := segs_mem 0 s [[]] (by simp) x hx; omega
  change 1 ≤ (segs s).length at hl1
  change (segs s).length ≤ _ at hl2
  simp only [List.length_cons, List.length_nil] at hl2
  obtain ⟨V, hV⟩ : ∃ V, V = isPath s := ⟨_, rfl⟩
  rw [← hV]
  unfold isPath at hV
  refine ACalls.of_awp false Tryz.func118 (by decide) rfl ?_
  simp only [show Tryz.f118.ntmps = 49 from rfl, List.length_cons, List.length_nil, Nat.reduceAdd, Nat.reduceSub, List.replicate, List.cons_append, List.nil_append, agg, List.map_cons, List.map_nil]
  simp only [go_sem]
  refine (str_Split s h).call (by simp only [go_sem]) rfl ?_
  have e0 : IntKind.i64.wrap (((segs s).length : Int) - 1) = (((segs s).length - 1 : Nat) : Int) := by rw [wrap_i64 (by omega) (by omega)]; omega
  have hlast : (segs s).length - 1 < (segs s).length := by omega
  simp only [go_sem, e0]
  refine res_index rfl rfl (by omega) (map_at sE hlast) (sE_len _) ?_
  have hgd : (segs s).getD ((segs s).length - 1) [] = (segs s)[(segs s).length - 1] := by simp [hlast]
  rw [hgd] at hV ⊢
  simp only [go_sem, sE]
  refine (lex_version _ (hml _ (List.getElem_mem hlast))).call rfl rfl ?_
  generalize majN (segs s)[(segs s).length - 1] = M at hV ⊢
  cases M with
  | none =>
    have hf : V = false := by rw [hV]; simp
    subst hf
    simp only [go_sem, Option.isSome_none]
    exact ret_fun rfl (by simp [go_sem]) rfl
  | some n =>
    simp only [Option.isSome_some, Bool.and_true] at hV
    by_cases h1 : (64 : Int) < (s.length : Int)
    · have h1' : ¬ (s.length : Int) ≤ 64 := by omega
      simp only [h1', decide_false, Bool.false_and] at hV
      subst hV
      simp only [go_sem, Option.isSome_some, h1]
      exact ret_fun rfl (by simp [go_sem]) rfl
    · have h1' : (s.length : Int) ≤ 64 := by omega
      simp only [h1', decide_true, Bool.true_and] at hV
      by_cases h2 : ((segs s).length : Int) < 2
      · have h2' : ¬ (2 : Int) ≤ (segs s).length := by omega
        simp only [h2', decide_false, Bool.and_false] at hV
        subst hV
        simp only [go_sem, Option.isSome_some, h1, h2]
        exact ret_fun rfl (by simp [go_sem]) rfl
      · have h2' : (2 : Int) ≤ (segs s).length := by omega
        simp only [h2', decide_true, Bool.and_true] at hV
        simp only [go_sem, Option.isSome_some, h1, h2, Option.getD_some]
        refine awp_loop (ι := Nat) (fun i => [.any, .any, .any, .any, .any, .d (.int .i64 n), .any, .any, .any, .any, .any, .any, .any, .any, .any, .any, .any, .any, .any, .any, .any, .any, .any, .any, .any, .any, .any, .any, .any, .any, .any, .any, .any, .d (.sl false ((segs s).map sE)), .d (.int .i64 (segs s).length), .d (.int .i64 i), .any, .any, .any, .any, .any, .any, .any, .any, .any, .any, .any, .any, .any]) (fun _ => []) (fun i => (segs s).length - i) (fun i => i ≤ (segs s).length ∧ V = ((segs s).drop i).all segOk) 0 ⟨by omega, by simpa using hV⟩ (Weak.les (by repeat (first | exact lesA_nil | refine lesA_cons (AV.le_any _) ?_ | refine lesA_cons (AV.le_refl _) ?_ | refine lesA_cons (AV.le_pure rfl) ?_))) ?_
        rintro i ⟨hi, ha⟩
        simp only [go_sem]
        refine cnd_lt (fun hlt => ?_) (fun hge => ?_)
        · have hd := List.drop_eq_getElem_cons hlt
          rw [hd, List.all_cons, ← segOk_eq] at ha
          have hm := hml _ (List.getElem_mem hlt)
          simp only [go_sem]
          refine res_index rfl rfl (by omega) (map_at sE hlt) (sE_len _) ?_
          simp only [go_sem, sE]
          refine (lex_IsName _ hm).call rfl rfl ?_
          cases hn : isName (segs s)[i]
          · rw [hn] at ha
            simp only [Bool.false_and] at ha
            subst ha
            simp only [go_sem]
            exact ret_fun rfl (by simp [go_sem]) rfl
          · rw [hn, Bool.true_and] at ha
            simp only [go_sem]
            refine (lex_all _ (by omega) _ bLow (by intro o ho; cases ho) lex_low).call ?_
            cases hlo : (segs s)[i].all bLow
            · rw [hlo] at ha
              simp only [Bool.false_and] at ha
              subst ha
              simp only [go_sem]
              exact ret_fun rfl (by simp [go_sem]) rfl
            · rw [hlo, Bool.true_and] at ha
              simp only [go_sem, wrap_succ (i := i) (by omega)]
              exact next_les (i + 1) (by omega) ⟨hlt, ha⟩ rfl (by repeat (first | exact lesA_nil | refine lesA_cons (AV.le_any _) ?_ | refine lesA_cons (AV.le_refl _) ?_ | refine lesA_cons (AV.le_pure rfl) ?_))
        · have : (segs s).drop i = [] := List.drop_eq_nil_of_le hge
          rw [this] at ha
          simp only [List.all_nil] at ha
          subst ha
          simp only [go_sem]
          exact ret_fun rfl (by simp [go_sem]) rfl

theorem lex_IsPath (s : Str) (h : s.length ≤ 1048576) : Fun Tryz.prog 70 [.d (.str s)] (.d (.bool (isPath s))) := by
  refine ACalls.of_awp false Tryz.func70 (by decide) rfl ?_
  simp only [show Tryz.f70.ntmps = 12 from rfl, List.length_cons, List.length_nil, Nat.reduceAdd, Nat.reduceSub, List.replicate, List.cons_append, List.nil_append, agg, List.map_cons, List.map_nil]
  simp only [go_sem]
  refine (lex_Major s h).call rfl rfl ?_
  cases isPath s
  · simp only [go_sem, Bool.false_eq_true, if_false]; exact ret_fun rfl (by simp [go_sem]) rfl
  · simp only [go_sem, if_true]; exact ret_fun rfl (by simp [go_sem]) rfl

theorem syn_module (s : Str) (h : s.length ≤ 1048576) : Fun Tryz.prog 103 [.d (.str s)] (.d (.bool (module s))) := by
  refine ACalls.of_awp false Tryz.func103 (by decide) rfl ?_
  simp only [show Tryz.f103.ntmps = 13 from rfl, List.length_cons, List.length_nil, Nat.reduceAdd, Nat.reduceSub, List.replicate, List.cons_append, List.nil_append, agg, List.map_cons, List.map_nil]
  unfold module
  by_cases h0 : s = []
  · simp only [go_sem, h0]; exact ret_fun rfl (by simp [go_sem]) rfl
  · simp only [go_sem, h0]
    refine (lex_IsName s h).call rfl rfl ?_
    cases isName s
    · simp only [go_sem]
      refine (lex_IsPath s h).call rfl rfl ?_
      simp only [go_sem]
      exact ret_fun rfl (by simp [go_sem]) rfl
    · simp only [go_sem]; exact ret_fun rfl (by simp [go_sem]) rfl

/-! ### names that increase -/
def callvX (P : Program) (f : AV) (args : List AV) (H : List HO) (Kt : AV → List HO → Prop) : Prop :=
  match f with
  | .fn (.func g) first capt => callX P g (first ++ args ++ capt) H Kt
  | _ => False
theorem aOpX_callv {m : Bool} {t : Tmp} {xs : Array Operand} {tys : Array TypeId} {ts : List AV} {Kt : AV → List HO → Prop} (h : callvX P (aev ts (.tmp t)) (aevs ts xs) H Kt) : aOpX P m (.call ⟨.value (.tmp t), xs, tys⟩) ts H Kt := by
  unfold callvX at h
  split at h
  · rename_i g first capt hf
    obtain ⟨v, H', h1, h2⟩ := h
    refine ⟨v, H', ?_, h2⟩
    rw [aOp_callv, hf, callv_fn]; exact h1
  · exact h.elim
theorem callvX_fn {g : FuncId} {a c args : List AV} {Kt : AV → List HO → Prop} : callvX P (.fn (.func g) a c) args H Kt = callX P g (a ++ args ++ c) H Kt := by rfl
attribute [go_sem] callvX_fn
theorem nb_cmp (a b : Str) : nb a b = (if Lib.compareBytes a b = 0 then 5 else if 0 < Lib.compareBytes a b then 1 else 0) := by
  unfold nb
  by_cases h : a = b
  · rw [if_pos h, if_pos ((cmp_zero a b).2 h)]
  · rw [if_neg h, if_neg (fun e => h ((cmp_zero a b).1 e))]
    by_cases h2 : 0 < Lib.compareBytes a b
    · rw [if_pos h2]
      have := (cmp_pos a b).1 h2
      simp [this.1, h]
    · rw [if_neg h2]
      have : strLt a b = true := by
        cases hs : strLt a b
        · exact absurd ((cmp_pos a b).2 ⟨hs, h⟩) h2
        · rfl
      simp [this]

theorem nbs_drop (l : List Str) (i : Nat) (h : i + 1 < l.length) : nbs (l.drop i) = if nb l[i] l[i+1] = 0 then nbs (l.drop (i + 1)) else nb l[i] l[i+1] := by
  rw [List.drop_eq_getElem_cons (by omega : i < l.length), List.drop_eq_getElem_cons h, nbs]

theorem syn_increase (l : List Fd) (H : List HO) (hok : Hok H) (hl : l.length ≤ 2147483648) : FunH Tryz.prog 106 [.d (.sl false (l.map Fd.enc)), .fn (.func 107) [] []] H (.d (.int .i64 (nbs (l.map Fd.name)))) := by
  obtain ⟨V, hV⟩ : ∃ V, V = nbs (l.map Fd.name) := ⟨_, rfl⟩
  rw [← hV]
  refine ACalls.of_awp false Tryz.func106 (by decide) rfl ?_
  simp only [show Tryz.f106.ntmps = 33 from rfl, List.length_cons, List.length_nil, Nat.reduceAdd, Nat.reduceSub, List.replicate, List.cons_append, List.nil_append, agg, List.map_cons, List.map_nil]
  simp only [go_sem]
  refine awp_loop (ι := Nat) (fun i => [.d (.sl false (l.map Fd.enc)), .fn (.func 107) [] [], .any, .any, .any, .d (.int .i64 ((i + 1 : Nat) : Int)), .any, .any, .any, .any, .any, .any, .any, .any, .any, .any, .any, .any, .any, .any, .any, .any, .any, .any, .any, .any, .any, .any, .any, .any, .any, .any, .any]) (fun _ => H) (fun i => l.length - i) (fun i => V = nbs ((l.map Fd.name).drop i)) 0 (by simpa using hV) (Weak.les (by repeat (first | exact lesA_nil | refine lesA_cons (AV.le_any _) ?_ | refine lesA_cons (AV.le_refl _) ?_ | refine lesA_cons (AV.le_pure rfl) ?_))) ?_
  intro i ha
  simp only [go_sem]
  refine cnd_lt (fun hlt => ?_) (fun hge => ?_)
  · have h1 : i < (l.map Fd.name).length := by simp; omega
    rw [nbs_drop _ i (by simpa using hlt)] at ha
    simp only [List.getElem_map] at ha
    have e1 : IntKind.i64.wrap (((i + 1 : Nat) : Int) - 1) = (i : Int) := by rw [wrap_i64 (by omega) (by omega)]; omega
    have hi : i < l.length := by omega
    simp only [go_sem]
    refine awp_draw0 [false, false, false, false, false, false, false, false, false, false, false, false, false, false, false] mixed (by kernel_rfl) ?_
    simp only [go_sem, e1]
    refine res_index rfl rfl (by omega) (map_at Fd.enc hi) (Fd.enc_len _) ?_
    simp only [go_sem, List.take_of_length_le (Nat.le_of_eq (Fd.enc_len _))]
    refine aOpX_callv ?_
    simp only [go_sem]
    refine (syn_typeNode2 l[i]).callX (by simp only [go_sem, agg, Fd.enc_norm]) rfl ?_
    simp only [go_sem]
    have hi1 : i + 1 < l.length := by omega
    refine res_index rfl rfl (by omega) (map_at Fd.enc hi1) (Fd.enc_len _) ?_
    simp only [go_sem, List.take_of_length_le (Nat.le_of_eq (Fd.enc_len _))]
    refine aOpX_callv ?_
    simp only [go_sem]
    refine (syn_typeNode2 l[i+1]).callX (by simp only [go_sem, agg, Fd.enc_norm]) rfl ?_
    simp only [go_sem]
    refine (str_Compare l[i].name l[i+1].name).callX (by simp only [go_sem]) rfl ?_
    rw [nb_cmp] at ha
    generalize Lib.compareBytes l[i].name l[i+1].name = r at ha ⊢
    by_cases hr0 : r = 0
    · rw [if_pos hr0, if_neg (by decide)] at ha
      simp only [go_sem, hr0]
      refine ret_back0 rfl ?_ rfl hok
      simp [go_sem, ha]
    · rw [if_neg hr0] at ha
      by_cases hr1 : 0 < r
      · rw [if_pos hr1, if_neg (by decide)] at ha
        simp only [go_sem, hr0, hr1]
        refine ret_back0 rfl ?_ rfl hok
        simp [go_sem, ha]
      · rw [if_neg hr1, if_pos rfl] at ha
        simp only [go_sem, hr0, hr1, wrap_succ (i := i + 1) (by omega)]
        exact ⟨i + 1, by show _ - (i + 1) < _ - i; omega, ha, Weak.les (by repeat (first | exact lesA_nil | refine lesA_cons (AV.le_any _) ?_ | refine lesA_cons (AV.le_refl _) ?_ | refine lesA_cons (AV.le_pure rfl) ?_))⟩
  · simp only [go_sem]
    have : nbs ((l.map Fd.name).drop i) = 0 := by
      have h2 : ((l.map Fd.name).drop i).length ≤ 1 := by simp; omega
      match (l.map Fd.name).drop i, h2 with
      | [], _ => rfl
      | [_], _ => rfl
    rw [this] at ha
    refine ret_back0 rfl ?_ rfl hok
    simp [go_sem, ha]

theorem names_ok : NamesOk where
  name := lex_IsName
  mod := syn_module
  inc := fun l H hok hl => syn_increase l H hok hl

end Go.Proofs.YthhmioodienlmaaGreatDoor
