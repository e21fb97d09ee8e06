/- The tables of op (chapter 4) as plain Lean: what the program's switches tell. No program in sight. -/
import Derived.Shelf.Strconv.Itoa3
namespace Vouch
structure OpRow where
  code : Int
  name : ByteArray
  imm : Int
  inn : Int
  out : Int
  gas : Int
  ends : Bool
def zeroR : OpRow := ⟨0, ⟨#[]⟩, 0, 0, 0, 0, false⟩
def sumsR (c : Int) : OpRow :=
  if c = 0 then ⟨0, ⟨#[83, 84, 79, 80]⟩, 0, 0, 0, 0, true⟩ else
  if c = 1 then ⟨c, ⟨#[65, 68, 68]⟩, 0, 2, 1, 3, false⟩ else
  if c = 3 then ⟨c, ⟨#[83, 85, 66]⟩, 0, 2, 1, 3, false⟩ else
  if c = 2 then ⟨c, ⟨#[77, 85, 76]⟩, 0, 2, 1, 5, false⟩ else
  if c = 4 then ⟨c, ⟨#[68, 73, 86]⟩, 0, 2, 1, 5, false⟩ else
  if c = 5 then ⟨c, ⟨#[83, 68, 73, 86]⟩, 0, 2, 1, 5, false⟩ else
  if c = 6 then ⟨c, ⟨#[77, 79, 68]⟩, 0, 2, 1, 5, false⟩ else
  if c = 7 then ⟨c, ⟨#[83, 77, 79, 68]⟩, 0, 2, 1, 5, false⟩ else
  if c = 8 then ⟨c, ⟨#[65, 68, 68, 77, 79, 68]⟩, 0, 3, 1, 8, false⟩ else
  if c = 9 then ⟨c, ⟨#[77, 85, 76, 77, 79, 68]⟩, 0, 3, 1, 8, false⟩ else
  if c = 10 then ⟨c, ⟨#[69, 88, 80]⟩, 0, 2, 1, 10, false⟩ else
  if c = 11 then ⟨c, ⟨#[83, 73, 71, 78, 69, 88, 84, 69, 78, 68]⟩, 0, 2, 1, 5, false⟩ else
  zeroR
def ofBlockR (c : Int) : OpRow :=
  if c = 65 then ⟨c, ⟨#[67, 79, 73, 78, 66, 65, 83, 69]⟩, 0, 0, 1, 2, false⟩ else
  if c = 66 then ⟨c, ⟨#[84, 73, 77, 69, 83, 84, 65, 77, 80]⟩, 0, 0, 1, 2, false⟩ else
  if c = 67 then ⟨c, ⟨#[78, 85, 77, 66, 69, 82]⟩, 0, 0, 1, 2, false⟩ else
  if c = 68 then ⟨c, ⟨#[80, 82, 69, 86, 82, 65, 78, 68, 65, 79]⟩, 0, 0, 1, 2, false⟩ else
  if c = 69 then ⟨c, ⟨#[71, 65, 83, 76, 73, 77, 73, 84]⟩, 0, 0, 1, 2, false⟩ else
  if c = 70 then ⟨c, ⟨#[67, 72, 65, 73, 78, 73, 68]⟩, 0, 0, 1, 2, false⟩ else
  if c = 72 then ⟨c, ⟨#[66, 65, 83, 69, 70, 69, 69]⟩, 0, 0, 1, 2, false⟩ else
  if c = 74 then ⟨c, ⟨#[66, 76, 79, 66, 66, 65, 83, 69, 70, 69, 69]⟩, 0, 0, 1, 2, false⟩ else
  zeroR
def askedR (c : Int) : OpRow :=
  if c = 48 then ⟨c, ⟨#[65, 68, 68, 82, 69, 83, 83]⟩, 0, 0, 1, 2, false⟩ else
  if c = 49 then ⟨c, ⟨#[66, 65, 76, 65, 78, 67, 69]⟩, 0, 1, 1, 100, false⟩ else
  if c = 50 then ⟨c, ⟨#[79, 82, 73, 71, 73, 78]⟩, 0, 0, 1, 2, false⟩ else
  if c = 51 then ⟨c, ⟨#[67, 65, 76, 76, 69, 82]⟩, 0, 0, 1, 2, false⟩ else
  if c = 52 then ⟨c, ⟨#[67, 65, 76, 76, 86, 65, 76, 85, 69]⟩, 0, 0, 1, 2, false⟩ else
  if c = 53 then ⟨c, ⟨#[67, 65, 76, 76, 68, 65, 84, 65, 76, 79, 65, 68]⟩, 0, 1, 1, 3, false⟩ else
  if c = 54 then ⟨c, ⟨#[67, 65, 76, 76, 68, 65, 84, 65, 83, 73, 90, 69]⟩, 0, 0, 1, 2, false⟩ else
  if c = 55 then ⟨c, ⟨#[67, 65, 76, 76, 68, 65, 84, 65, 67, 79, 80, 89]⟩, 0, 3, 0, 3, false⟩ else
  if c = 58 then ⟨c, ⟨#[71, 65, 83, 80, 82, 73, 67, 69]⟩, 0, 0, 1, 2, false⟩ else
  if c = 61 then ⟨c, ⟨#[82, 69, 84, 85, 82, 78, 68, 65, 84, 65, 83, 73, 90, 69]⟩, 0, 0, 1, 2, false⟩ else
  if c = 62 then ⟨c, ⟨#[82, 69, 84, 85, 82, 78, 68, 65, 84, 65, 67, 79, 80, 89]⟩, 0, 3, 0, 3, false⟩ else
  if c = 64 then ⟨c, ⟨#[66, 76, 79, 67, 75, 72, 65, 83, 72]⟩, 0, 1, 1, 20, false⟩ else
  if c = 73 then ⟨c, ⟨#[66, 76, 79, 66, 72, 65, 83, 72]⟩, 0, 1, 1, 3, false⟩ else
  if c = 71 then ⟨c, ⟨#[83, 69, 76, 70, 66, 65, 76, 65, 78, 67, 69]⟩, 0, 0, 1, 5, false⟩ else
  ofBlockR c
def heldR (c : Int) : OpRow :=
  if c = 80 then ⟨c, ⟨#[80, 79, 80]⟩, 0, 1, 0, 2, false⟩ else
  if c = 81 then ⟨c, ⟨#[77, 76, 79, 65, 68]⟩, 0, 1, 1, 3, false⟩ else
  if c = 82 then ⟨c, ⟨#[77, 83, 84, 79, 82, 69]⟩, 0, 2, 0, 3, false⟩ else
  if c = 83 then ⟨c, ⟨#[77, 83, 84, 79, 82, 69, 56]⟩, 0, 2, 0, 3, false⟩ else
  if c = 84 then ⟨c, ⟨#[83, 76, 79, 65, 68]⟩, 0, 1, 1, 100, false⟩ else
  if c = 85 then ⟨c, ⟨#[83, 83, 84, 79, 82, 69]⟩, 0, 2, 0, 100, false⟩ else
  if c = 89 then ⟨c, ⟨#[77, 83, 73, 90, 69]⟩, 0, 0, 1, 2, false⟩ else
  if c = 91 then ⟨c, ⟨#[78, 79, 80]⟩, 0, 0, 0, 1, false⟩ else
  if c = 92 then ⟨c, ⟨#[84, 76, 79, 65, 68]⟩, 0, 1, 1, 100, false⟩ else
  if c = 93 then ⟨c, ⟨#[84, 83, 84, 79, 82, 69]⟩, 0, 2, 0, 100, false⟩ else
  if c = 94 then ⟨c, ⟨#[77, 67, 79, 80, 89]⟩, 0, 3, 0, 3, false⟩ else
  if c = 95 then ⟨c, ⟨#[80, 85, 83, 72, 48]⟩, 0, 0, 1, 2, false⟩ else
  zeroR
def outwardR (c : Int) : OpRow :=
  if c = 236 then ⟨c, ⟨#[69, 79, 70, 67, 82, 69, 65, 84, 69]⟩, 1, 4, 1, 32000, false⟩ else
  if c = 238 then ⟨c, ⟨#[82, 69, 84, 85, 82, 78, 67, 79, 68, 69]⟩, 1, 2, 0, 0, true⟩ else
  if c = 243 then ⟨c, ⟨#[82, 69, 84, 85, 82, 78]⟩, 0, 2, 0, 0, true⟩ else
  if c = 247 then ⟨c, ⟨#[82, 69, 84, 85, 82, 78, 68, 65, 84, 65, 76, 79, 65, 68]⟩, 0, 1, 1, 3, false⟩ else
  if c = 248 then ⟨c, ⟨#[69, 88, 84, 67, 65, 76, 76]⟩, 0, 4, 1, 100, false⟩ else
  if c = 249 then ⟨c, ⟨#[69, 88, 84, 68, 69, 76, 69, 71, 65, 84, 69, 67, 65, 76, 76]⟩, 0, 3, 1, 100, false⟩ else
  if c = 251 then ⟨c, ⟨#[69, 88, 84, 83, 84, 65, 84, 73, 67, 67, 65, 76, 76]⟩, 0, 3, 1, 100, false⟩ else
  if c = 253 then ⟨c, ⟨#[82, 69, 86, 69, 82, 84]⟩, 0, 2, 0, 0, true⟩ else
  if c = 254 then ⟨c, ⟨#[73, 78, 86, 65, 76, 73, 68]⟩, 0, 0, 0, 0, true⟩ else
  zeroR
def turnedR (c : Int) : OpRow :=
  if c = 208 then ⟨c, ⟨#[68, 65, 84, 65, 76, 79, 65, 68]⟩, 0, 1, 1, 4, false⟩ else
  if c = 209 then ⟨c, ⟨#[68, 65, 84, 65, 76, 79, 65, 68, 78]⟩, 2, 0, 1, 3, false⟩ else
  if c = 210 then ⟨c, ⟨#[68, 65, 84, 65, 83, 73, 90, 69]⟩, 0, 0, 1, 2, false⟩ else
  if c = 211 then ⟨c, ⟨#[68, 65, 84, 65, 67, 79, 80, 89]⟩, 0, 3, 0, 3, false⟩ else
  if c = 224 then ⟨c, ⟨#[82, 74, 85, 77, 80]⟩, 2, 0, 0, 2, true⟩ else
  if c = 225 then ⟨c, ⟨#[82, 74, 85, 77, 80, 73]⟩, 2, 1, 0, 4, false⟩ else
  if c = 226 then ⟨c, ⟨#[82, 74, 85, 77, 80, 86]⟩, (-1), 1, 0, 4, false⟩ else
  if c = 227 then ⟨c, ⟨#[67, 65, 76, 76, 70]⟩, 2, 0, 0, 5, false⟩ else
  if c = 228 then ⟨c, ⟨#[82, 69, 84, 70]⟩, 0, 0, 0, 3, true⟩ else
  if c = 229 then ⟨c, ⟨#[74, 85, 77, 80, 70]⟩, 2, 0, 0, 5, true⟩ else
  if c = 230 then ⟨c, ⟨#[68, 85, 80, 78]⟩, 1, 1, 2, 3, false⟩ else
  if c = 231 then ⟨c, ⟨#[83, 87, 65, 80, 78]⟩, 1, 2, 2, 3, false⟩ else
  if c = 232 then ⟨c, ⟨#[69, 88, 67, 72, 65, 78, 71, 69]⟩, 1, 3, 3, 3, false⟩ else
  outwardR c
def comparedR (c : Int) : OpRow :=
  if c = 30 then ⟨c, ⟨#[67, 76, 90]⟩, 0, 1, 1, 5, false⟩ else
  if c = 32 then ⟨c, ⟨#[75, 69, 67, 67, 65, 75, 50, 53, 54]⟩, 0, 2, 1, 30, false⟩ else
  if c > 29 then zeroR else
  if c = 16 then ⟨c, ⟨#[76, 84]⟩, 0, 2, 1, 3, false⟩ else
  if c = 17 then ⟨c, ⟨#[71, 84]⟩, 0, 2, 1, 3, false⟩ else
  if c = 18 then ⟨c, ⟨#[83, 76, 84]⟩, 0, 2, 1, 3, false⟩ else
  if c = 19 then ⟨c, ⟨#[83, 71, 84]⟩, 0, 2, 1, 3, false⟩ else
  if c = 20 then ⟨c, ⟨#[69, 81]⟩, 0, 2, 1, 3, false⟩ else
  if c = 21 then ⟨c, ⟨#[73, 83, 90, 69, 82, 79]⟩, 0, 1, 1, 3, false⟩ else
  if c = 22 then ⟨c, ⟨#[65, 78, 68]⟩, 0, 2, 1, 3, false⟩ else
  if c = 23 then ⟨c, ⟨#[79, 82]⟩, 0, 2, 1, 3, false⟩ else
  if c = 24 then ⟨c, ⟨#[88, 79, 82]⟩, 0, 2, 1, 3, false⟩ else
  if c = 25 then ⟨c, ⟨#[78, 79, 84]⟩, 0, 1, 1, 3, false⟩ else
  if c = 26 then ⟨c, ⟨#[66, 89, 84, 69]⟩, 0, 2, 1, 3, false⟩ else
  if c = 27 then ⟨c, ⟨#[83, 72, 76]⟩, 0, 2, 1, 3, false⟩ else
  if c = 28 then ⟨c, ⟨#[83, 72, 82]⟩, 0, 2, 1, 3, false⟩ else
  if c = 29 then ⟨c, ⟨#[83, 65, 82]⟩, 0, 2, 1, 3, false⟩ else
  zeroR
/-- A number from 0 to 99 in digits. -/
def dec (n : Int) : ByteArray := ⟨(Go.Lib.decDigits n.toNat).toArray⟩
def opR (c : Int) : OpRow :=
  if 96 ≤ c ∧ c ≤ 127 then ⟨c, ⟨#[80, 85, 83, 72]⟩ ++ dec (c - 96 + 1), c - 96 + 1, 0, 1, 3, false⟩ else
  if 128 ≤ c ∧ c ≤ 143 then ⟨c, ⟨#[68, 85, 80]⟩ ++ dec (c - 128 + 1), 0, c - 128 + 1, c - 128 + 1 + 1, 3, false⟩ else
  if 144 ≤ c ∧ c ≤ 159 then ⟨c, ⟨#[83, 87, 65, 80]⟩ ++ dec (c - 144 + 1), 0, c - 144 + 1 + 1, c - 144 + 1 + 1, 3, false⟩ else
  if 160 ≤ c ∧ c ≤ 164 then ⟨c, ⟨#[76, 79, 71]⟩ ++ dec (c - 160), 0, c - 160 + 2, 0, 375 * (c - 160 + 1), false⟩ else
  if c < 16 then sumsR c else
  if c < 48 then comparedR c else
  if c < 80 then askedR c else
  if c < 208 then heldR c else turnedR c
/-- Is there such an instruction? -/
def isOp (c : Int) : Bool := !(opR c).name.toList.isEmpty
end Vouch
