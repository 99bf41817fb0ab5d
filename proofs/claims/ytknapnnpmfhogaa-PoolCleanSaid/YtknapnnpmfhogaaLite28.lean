/-
  Texts as lists of bytes, their order; the standing rules with which a graph is read.
-/
import Derived.Test.YtknapnnpmfhogaaLite23
namespace Go.Lite
open Go
set_option linter.unusedSimpArgs false
section
variable {b b' : Bool} {v v' : V}
@[congr] theorem cond_wc {x y : R} (h : b = b') : cond b x y = cond b' x y := by rw [h]
@[congr] theorem gd_wc {k : R} (h : b = b') : gd b k = gd b' k := by rw [h]
@[congr] theorem idxK_wc {α : Type} {l l' : List α} {n n' : Nat} {k : α → R} (h : l = l') (h' : n = n') : idxK l n k = idxK l' n' k := by rw [h, h']
@[congr] theorem pcK_wc {cfg : Cfg} {f : FuncId} {as as' : List V} {k : V → R} (h : as = as') : pcK cfg f as k = pcK cfg f as' k := by rw [h]
@[congr] theorem mfK_wc {es es' : List (V × V)} {key key' : V} {kn : R} {ks : V → R} (h : es = es') (h' : key = key') : mfK es key kn ks = mfK es' key' kn ks := by rw [h, h']
@[congr] theorem opt_wc {α : Type} {o o' : Option α} {k : α → R} (h : o = o') : opt o k = opt o' k := by rw [h]
@[congr] theorem kB_wc {k : Bool → R} (h : v = v') : kB v k = kB v' k := by rw [h]
@[congr] theorem kI_wc {j : IntKind} {k : Int → R} (h : v = v') : kI j v k = kI j v' k := by rw [h]
@[congr] theorem kS_wc {k : List UInt8 → R} (h : v = v') : kS v k = kS v' k := by rw [h]
@[congr] theorem kL_wc {k : List V → R} (h : v = v') : kL v k = kL v' k := by rw [h]
@[congr] theorem kA_wc {k : List V → R} (h : v = v') : kA v k = kA v' k := by rw [h]
@[congr] theorem kT_wc {k : List V → R} (h : v = v') : kT v k = kT v' k := by rw [h]
@[congr] theorem kF_wc {e : TypeId} {k : List V → R} (h : v = v') : kF e v k = kF e v' k := by rw [h]
@[congr] theorem unc_wc {l l' : List V} {k : V → List V → R} (h : l = l') : unc l k = unc l' k := by rw [h]
@[congr] theorem unn_wc {l l' : List V} {k : R} (h : l = l') : unn l k = unn l' k := by rw [h]
end
theorem ibeq_t {a b : Int} (h : a = b) : (a == b) = true := by rw [h]; simp
theorem ibeq_f {a b : Int} (h : a ≠ b) : (a == b) = false := by simpa using h
theorem ibne_t {a b : Int} (h : a ≠ b) : (a != b) = true := by simpa using h
theorem ibne_f {a b : Int} (h : a = b) : (a != b) = false := by rw [h]; simp
theorem toNat_sub1 (k : Nat) : ((k : Int) - 1).toNat = k - 1 := by omega
theorem toNat_add1 (k : Nat) : ((k : Int) + 1).toNat = k + 1 := by omega
theorem idxK_m {α : Type} {l : List α} {f : α → V} {n : Nat} {x : α} {k : V → R} (h : l[n]? = some x) : idxK (l.map f) n k = k (f x) := idxK_map h
abbrev Bs := List UInt8
theorem take_capN {α : Type} (n : Nat) (s : List α) : s.take (if (n : Int) < (s.length : Int) then (n : Int) else (s.length : Int)).toNat = s.take n := by
  by_cases h : n < s.length
  · rw [if_pos (by omega)]; congr 1
  · rw [if_neg (by omega), toNat_cast, List.take_length, List.take_of_length_le (by omega)]
theorem take_cap16 {α : Type} (s : List α) : s.take (if (16 : Int) < (s.length : Int) then 16 else (s.length : Int)).toNat = s.take 16 := take_capN 16 s
theorem take_cap20 {α : Type} (s : List α) : s.take (if (20 : Int) < (s.length : Int) then 20 else (s.length : Int)).toNat = s.take 20 := take_capN 20 s
theorem take_cap40 {α : Type} (s : List α) : s.take (if (40 : Int) < (s.length : Int) then 40 else (s.length : Int)).toNat = s.take 40 := take_capN 40 s
theorem take_self {α : Type} (s : List α) : s.take s.length = s := List.take_length
theorem take_map {α : Type} (l : List α) (f : α → V) : (l.map f).take l.length = l.map f := by rw [← List.map_take, List.take_length]
theorem wfl_nil {c : Nat} : wfl c [] = true := rfl
abbrev lt (a b : Bs) : Bool := Op.bytesLess a b
theorem lt_irr (a : Bs) : lt a a = false := by
  induction a with
  | nil => rfl
  | cons x a ih => simp only [lt, Op.bytesLess] at ih ⊢; simp [ih]
theorem lt_trans {a b c : Bs} (h : lt a b = true) (h' : lt b c = true) : lt a c = true := by
  induction a generalizing b c with
  | nil =>
    cases c with
    | nil => cases b <;> simp [Op.bytesLess] at h'
    | cons y c => rfl
  | cons x a ih =>
    cases b with
    | nil => simp [Op.bytesLess] at h
    | cons y b =>
      cases c with
      | nil => simp [Op.bytesLess] at h'
      | cons z c =>
        simp only [lt, Op.bytesLess, Bool.or_eq_true, decide_eq_true_eq, Bool.and_eq_true, beq_iff_eq] at h h' ⊢
        rcases h with h | ⟨rfl, h⟩
        · rcases h' with h' | ⟨rfl, h'⟩
          · exact .inl (UInt8.lt_trans h h')
          · exact .inl h
        · rcases h' with h' | ⟨rfl, h'⟩
          · exact .inl h'
          · exact .inr ⟨rfl, ih h h'⟩
theorem lt_tri {a b : Bs} (h : lt a b = false) (hn : a ≠ b) : lt b a = true := by
  induction a generalizing b with
  | nil =>
    cases b with
    | nil => exact (hn rfl).elim
    | cons y b => simp [Op.bytesLess] at h
  | cons x a ih =>
    cases b with
    | nil => rfl
    | cons y b =>
      simp only [lt, Op.bytesLess, Bool.or_eq_false_iff, decide_eq_false_iff_not, Bool.and_eq_false_imp, beq_iff_eq, Bool.or_eq_true, decide_eq_true_eq, Bool.and_eq_true] at h ⊢
      by_cases e : x = y
      · subst e
        exact .inr ⟨rfl, ih (h.2 rfl) (fun e => hn (by rw [e]))⟩
      · left
        rcases UInt8.lt_or_lt_of_ne e with h1 | h1
        · exact (h.1 h1).elim
        · exact h1
theorem lt_ne {a b : Bs} (h : lt a b = true) : a ≠ b := by
  intro e; subst e; rw [lt_irr] at h; cases h
theorem lt_asymm {a b : Bs} (h : lt a b = true) : lt b a = false := by
  cases h' : lt b a with
  | false => rfl
  | true => have := lt_trans h h'; rw [lt_irr] at this; cases this
theorem le_not (a b : Bs) : (Op.bytesLess a b || a == b) = !(lt b a) := by
  by_cases e : a = b
  · subst e; simp [lt_irr]
  · have e2 : (a == b) = false := by simpa using e
    rw [e2, Bool.or_false]
    cases h : Op.bytesLess a b with
    | true => rw [lt_asymm h]; rfl
    | false => rw [lt_tri h e]; rfl
theorem and_bound (a : Int) (m : Nat) (hm : m < 18446744073709551616) : 0 ≤ (((BitVec.ofInt 64 a &&& BitVec.ofInt 64 (m : Int)).toNat : Nat) : Int) ∧ (((BitVec.ofInt 64 a &&& BitVec.ofInt 64 (m : Int)).toNat : Nat) : Int) ≤ (m : Int) := by
  constructor
  · omega
  · rw [BitVec.toNat_and]
    have h := Nat.and_le_right (n := (BitVec.ofInt 64 a).toNat) (m := (BitVec.ofInt 64 (m : Int)).toNat)
    have e : (BitVec.ofInt 64 (m : Int)).toNat = m := by
      simp [BitVec.toNat_ofInt]
      omega
    omega
def fi {α : Type} (p : α → Bool) : List α → Nat → Int
  | [], _ => -1
  | x :: r, k => if p x then (k : Int) else fi p r (k + 1)
theorem fi_any {α : Type} (p : α → Bool) : ∀ (l : List α) (k : Nat), decide (fi p l k ≥ 0) = l.any p
  | [], _ => rfl
  | x :: r, k => by
    simp only [fi, List.any_cons]
    by_cases h : p x = true
    · simp [h]
    · have h : p x = false := by simpa using h
      simpa [h] using fi_any p r (k + 1)
theorem fi_some {α : Type} {p : α → Bool} : ∀ {l : List α} {k : Nat}, fi p l k ≠ -1 → ∃ i, fi p l k = ((k + i : Nat) : Int) ∧ i < l.length ∧ (∃ x, l[i]? = some x ∧ p x = true) ∧ ∀ j, j < i → ∀ y, l[j]? = some y → p y = false
  | [], _, h => (h rfl).elim
  | x :: r, k, h => by
    simp only [fi] at h ⊢
    cases hp : p x with
    | true => exact ⟨0, by simp, by simp, ⟨x, rfl, hp⟩, fun j hj => by omega⟩
    | false =>
      simp only [hp, Bool.false_eq_true, if_false] at h ⊢
      obtain ⟨i, h1, h2, h3, h4⟩ := fi_some h
      refine ⟨i + 1, by rw [h1]; omega, by simp; omega, by simpa using h3, fun j hj y hy => ?_⟩
      cases j with
      | zero => simp at hy; subst hy; exact hp
      | succ j => exact h4 j (by omega) y (by simpa using hy)
theorem fi_none {α : Type} {p : α → Bool} : ∀ {l : List α} {k : Nat}, fi p l k = -1 → ∀ x ∈ l, p x = false
  | [], _, _, x, hx => by simp at hx
  | y :: r, k, h, x, hx => by
    simp only [fi] at h
    cases hp : p y with
    | true => simp only [hp, if_true] at h; omega
    | false =>
      simp only [hp, Bool.false_eq_true, if_false] at h
      rcases List.mem_cons.1 hx with rfl | hx
      · exact hp
      · exact fi_none h x hx
end Go.Lite