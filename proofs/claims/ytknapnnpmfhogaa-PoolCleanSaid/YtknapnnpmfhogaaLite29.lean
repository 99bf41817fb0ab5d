/-
  Bytes, and ranges over two rows: what all groups share.
-/
import Derived.Test.YtknapnnpmfhogaaLite28
namespace Go.Lite
open Go
set_option linter.unusedSimpArgs false
def bothP : List V → Option (List (List V))
  | [.ref (.sl a) 0, .ref (.sl b) 0] => if a.length ≤ 16777216 ∧ a.all V.one = true ∧ b.all V.one = true then some (List.zipWith (fun x y => [x, y]) a b) else none
  | _ => none
def overB (s : Bs) (n : Nat) (t : Bs) : Bs := s.take n ++ t ++ s.drop (n + t.length)
def overP : List V → Option V
  | [.str s, .int .i64 n, .sl l] => if 0 ≤ n ∧ n.toNat + l.length ≤ s.length then (numsOf l).map fun ns => .str (overB s n.toNat (ns.map fun x => UInt8.ofNat x.toNat)) else none
  | _ => none
theorem numsOf_bytes (s : Bs) : numsOf (bytesV s) = some (s.map fun b => (b.toNat : Int)) := by
  induction s with
  | nil => rfl
  | cons b s ih =>
    have : bytesV (b :: s) = .int .u8 (b.toNat : Int) :: bytesV s := rfl
    rw [this]
    simp only [numsOf, ih, Option.map_some, List.map_cons]
theorem nums_back (s : Bs) : (s.map fun b => (b.toNat : Int)).map (fun n => UInt8.ofNat n.toNat) = s := by
  induction s with
  | nil => rfl
  | cons b s ih => simp only [List.map_cons, ih, Int.toNat_natCast]; congr 1; exact UInt8.ofNat_toNat
theorem bytesV_len (s : Bs) : (bytesV s).length = s.length := by simp [bytesV]
theorem wfl_bytes (s : Bs) : wfl 1 (bytesV s) = true := by
  unfold wfl bytesV
  simp [V.cells]
theorem bytesV_append (s t : Bs) : bytesV (s ++ t) = bytesV s ++ bytesV t := by simp [bytesV]
theorem numsOf_ints (l : List Int) : numsOf (l.map fun n => V.int .u8 n) = some l := by
  induction l with
  | nil => rfl
  | cons b s ih => simp only [numsOf, List.map_cons, ih, Option.map_some]
def unle : Bs → Nat
  | [] => 0
  | b :: s => b.toNat + 256 * unle s
def leN : Nat → Nat → Bs
  | 0, _ => []
  | k + 1, n => UInt8.ofNat (n % 256) :: leN k (n / 256)
theorem leN_len : ∀ k n, (leN k n).length = k
  | 0, _ => rfl
  | k + 1, n => by simp [leN, leN_len k]
theorem unle_lt : ∀ s, unle s < 256 ^ s.length
  | [] => by decide
  | b :: s => by
    have h1 := unle_lt s
    have h2 := b.toNat_lt
    simp only [unle, List.length_cons, Nat.pow_succ]
    omega
theorem unle_snoc (c : UInt8) : ∀ s, unle (s ++ [c]) = unle s + c.toNat * 256 ^ s.length
  | [] => by simp [unle]
  | b :: s => by
    simp only [List.cons_append, unle, unle_snoc c s, List.length_cons, Nat.pow_succ, Nat.mul_add]
    have : 256 * (c.toNat * 256 ^ s.length) = c.toNat * (256 ^ s.length * 256) := by
      rw [Nat.mul_comm 256, Nat.mul_assoc]
    omega
theorem unle_leN : ∀ k n, n < 256 ^ k → unle (leN k n) = n
  | 0, n, h => by
    have : n = 0 := by simpa using h
    subst this; rfl
  | k + 1, n, h => by
    have h1 : n / 256 < 256 ^ k := by
      rw [Nat.pow_succ] at h
      exact Nat.div_lt_of_lt_mul (by rw [Nat.mul_comm]; exact h)
    simp only [leN, unle, unle_leN k _ h1]
    have : (UInt8.ofNat (n % 256)).toNat = n % 256 := by simp
    omega
theorem leN_unle : ∀ s, leN s.length (unle s) = s
  | [] => rfl
  | b :: s => by
    have h2 := b.toNat_lt
    have e1 : (b.toNat + 256 * unle s) % 256 = b.toNat := by omega
    have e2 : (b.toNat + 256 * unle s) / 256 = unle s := by omega
    simp only [unle, List.length_cons, leN, e1, e2, leN_unle s]
    congr 1
    exact UInt8.ofNat_toNat
theorem leN_snoc : ∀ k n, leN (k + 1) n = leN k n ++ [UInt8.ofNat (n / 256 ^ k % 256)]
  | 0, n => by simp [leN]
  | k + 1, n => by
    show UInt8.ofNat (n % 256) :: leN (k + 1) (n / 256) = _
    rw [leN_snoc k]
    simp only [leN, List.cons_append]
    rw [Nat.div_div_eq_div_mul, Nat.pow_succ, Nat.mul_comm 256]
theorem pow_256 (i : Nat) : 2 ^ (8 * i) = 256 ^ i := by rw [Nat.pow_mul]
theorem or64 {x c i : Nat} (hx : x < 256 ^ i) (hc : c < 256) (hi : i < 8) :
    W .u64 (((BitVec.ofInt (IntKind.bits .u64) (x : Int) ||| BitVec.ofInt (IntKind.bits .u64) (W .u64 (W .u64 (c : Int) * 2 ^ (min (W .i64 (8 * (i : Int))).toNat (IntKind.bits .u64))))).toNat : Nat) : Int) = ((x + c * 256 ^ i : Nat) : Int) := by
  have e1 : W .i64 (8 * (i : Int)) = 8 * (i : Int) := W_i64 (by omega)
  have e2 : (8 * (i : Int)).toNat = 8 * i := by omega
  have e3 : min (8 * i) (IntKind.bits .u64) = 8 * i := by
    have : IntKind.bits .u64 = 64 := rfl
    omega
  have hp : 256 ^ i * 256 ≤ 256 ^ 8 := by
    rw [← Nat.pow_succ]; exact Nat.pow_le_pow_right (by decide) (by omega)
  have hc2 : c * 256 ^ i + 256 ^ i ≤ 256 ^ i * 256 := by
    have : (c + 1) * 256 ^ i ≤ 256 * 256 ^ i := Nat.mul_le_mul_right _ hc
    rw [Nat.succ_mul] at this
    rw [Nat.mul_comm (256 ^ i)]; exact this
  have h64 : (256 : Nat) ^ 8 = 18446744073709551616 := by decide
  rw [h64] at hp
  have e4 : W .u64 (c : Int) = (c : Int) := W_u64 (by omega)
  rw [e1, e2, e3, e4]
  have e5 : (c : Int) * 2 ^ (8 * i) = ((c * 256 ^ i : Nat) : Int) := by
    rw [← pow_256, Int.natCast_mul, Int.natCast_pow]; rfl
  rw [e5]
  have e6 : W .u64 ((c * 256 ^ i : Nat) : Int) = ((c * 256 ^ i : Nat) : Int) := W_u64 (by omega)
  rw [e6]
  have e7 : ∀ m : Nat, m < 18446744073709551616 → (BitVec.ofInt (IntKind.bits .u64) (m : Int)).toNat = m := by
    intro m hm
    rw [BitVec.toNat_ofInt]
    have : IntKind.bits .u64 = 64 := rfl
    rw [this]
    omega
  rw [BitVec.toNat_or, e7 x (by omega), e7 _ (by omega)]
  have e8 : x ||| c * 256 ^ i = x + c * 256 ^ i := by
    have := Nat.shiftLeft_add_eq_or_of_lt (i := 8 * i) (b := x) (by rw [pow_256]; exact hx) c
    rw [Nat.shiftLeft_eq, pow_256] at this
    rw [Nat.or_comm, ← this, Nat.add_comm]
  rw [e8]
  exact W_u64 (by omega)
theorem shr64 {n i : Nat} (hi : i ≤ 8) : (n : Int).fdiv (2 ^ (min (W .i64 (8 * (i : Int))).toNat (IntKind.bits .u64))) = ((n / 256 ^ i : Nat) : Int) := by
  have e1 : W .i64 (8 * (i : Int)) = 8 * (i : Int) := W_i64 (by omega)
  have e2 : (8 * (i : Int)).toNat = 8 * i := by omega
  have e3 : min (8 * i) (IntKind.bits .u64) = 8 * i := by
    have : IntKind.bits .u64 = 64 := rfl
    omega
  rw [e1, e2, e3]
  have e5 : (2 : Int) ^ (8 * i) = ((256 ^ i : Nat) : Int) := by rw [← pow_256, Int.natCast_pow]; rfl
  rw [e5, Int.fdiv_eq_ediv_of_nonneg _ (Int.natCast_nonneg _)]
  rfl
theorem W_u8_nat (n : Nat) : W .u8 (n : Int) = ((n % 256 : Nat) : Int) := by
  have e : IntKind.signed .u8 = false := rfl
  have e1 : IntKind.bits .u8 = 8 := rfl
  unfold W IntKind.wrap
  simp only [e, e1, Bool.false_and, Bool.false_eq_true, if_false]
  omega
theorem UInt8.ofNat_mod (n : Nat) : UInt8.ofNat (n % 256) = UInt8.ofNat n := by
  apply UInt8.toNat_inj.1
  simp
end Go.Lite