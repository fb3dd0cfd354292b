/-
  The plain mathematics of the checksums: CRC-32C as a fold over bytes on 32-bit words, FNV-1a on 64-bit words. No program in sight.
-/
import GoSem.Claim
namespace Go.Proofs.Ytgaafchdmfgkkaa.Crc

/-- one bit of the division -/
def bit (r : BitVec 32) : BitVec 32 := if r &&& 1 = 1 then (r >>> 1) ^^^ 2197175160#32 else r >>> 1
def bits8 : Nat → BitVec 32 → BitVec 32
  | 0, r => r
  | n + 1, r => bit (bits8 n r)
/-- one byte -/
def byte (r : BitVec 32) (c : Int) : BitVec 32 := bits8 8 (r ^^^ BitVec.ofInt 32 c)
def run (r : BitVec 32) (l : List Int) : BitVec 32 := l.foldl byte r
def ext (c : BitVec 32) (l : List Int) : BitVec 32 := ~~~ (run (~~~ c) l)
/-- FNV -/
def hstep (h : BitVec 64) (c : Int) : BitVec 64 := (h ^^^ BitVec.ofInt 64 c) * 1099511628211#64
def hash (l : List Int) : BitVec 64 := l.foldl hstep 14695981039346656037#64

end Go.Proofs.Ytgaafchdmfgkkaa.Crc
