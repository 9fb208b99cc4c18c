/- What the script's functions compute, as plain functions. No condition. -/
import Derived.Lib.UnsafeStr
import Derived.Lib.Itoa
namespace Go.Proofs.YtdnglhcconnocaaDoor

/-- A step. -/
structure Stp where
  kind : Int
  source : Int
  shard : Int
  b : List Int
deriving DecidableEq, Inhabited

def isBytes (l : List Int) : Prop := ∀ x ∈ l, 0 ≤ x ∧ x < 256
def checkF (s : Stp) : Int :=
  if s.kind < 0 ∨ 4 < s.kind then 1
  else if s.kind ≠ 0 ∧ (s.source ≠ 0 ∨ 0 < s.b.length) then 1
  else if s.kind ≠ 2 ∧ s.shard ≠ 0 then 1
  else if s.source < 0 ∨ 15 < s.source ∨ s.shard < 0 ∨ 63 < s.shard then 1
  else if 65536 < s.b.length then 2
  else 0
def digitF (n : Int) : Int := if n < 10 then 48 + n else 87 + n
def u8 (n : Int) : UInt8 := UInt8.ofNat n.toNat
def hexL (b : List Int) : List UInt8 := b.flatMap fun c => [u8 (digitF (c / 16)), u8 (digitF (c % 16))]
def hexF (b : List Int) : List UInt8 := if b = [] then [45] else hexL b
theorem u8_cell {n : Int} (h0 : 0 ≤ n) (h1 : n < 256) : Value.int .u8 ((u8 n).toNat : Int) = .int .u8 n := by
  have : ((u8 n).toNat : Int) = n := by
    unfold u8
    rw [UInt8.toNat_ofNat']
    omega
  rw [this]
theorem digitF_bd {n : Int} (h0 : 0 ≤ n) (h1 : n < 16) : 0 ≤ digitF n ∧ digitF n < 256 := by unfold digitF; split <;> omega
theorem byteCells_snoc (l : List UInt8) (n : Int) (h0 : 0 ≤ n) (h1 : n < 256) : Lib.byteCells l ++ [.int .u8 n] = Lib.byteCells (l ++ [u8 n]) := by
  simp [Lib.byteCells, u8_cell h0 h1]
theorem hexL_snoc (l : List Int) (c : Int) : hexL (l ++ [c]) = hexL l ++ [u8 (digitF (c / 16))] ++ [u8 (digitF (c % 16))] := by simp [hexL]
theorem hexL_len (l : List Int) : (hexL l).length = 2 * l.length := by
  induction l with
  | nil => rfl
  | cons a l ih => simp only [hexL, List.flatMap_cons, List.length_append, List.length_cons, List.length_nil] at ih ⊢; omega
end Go.Proofs.YtdnglhcconnocaaDoor
