/-
  Which memory tells which pages; the functions that work on it.
-/
import Derived.Test.YtknapnnpmfhogaaP4
namespace Go.Proofs.Ytknapnnpmfhogaa
open Go Go.Lite
set_option linter.unusedSimpArgs false
set_option linter.unusedVariables false
set_option linter.unnecessarySimpa false
set_option maxRecDepth 10000
structure Pg where
  page : Int
  s : Bs
  pins : Int
  dirty : Bool
  first : Int
  last : Int
def placeV (x : Pg) : V := .agg [.str x.s, .int .i64 x.pins, .bool x.dirty, .int .i64 x.first, .int .i64 x.last]
theorem d63_pl (x : Pg) (k : Bs → Int → Bool → Int → Int → R) : d63 (placeV x) k = k x.s x.pins x.dirty x.first x.last := rfl
def ent (ix : Int → Nat) (p : Int) : V × V := (.int .i64 p, .hp 63 (ix p) 0)
def mpV (ks : List Int) (ix : Int → Nat) : List (V × V) := ks.map (ent ix)
def pgs (L : List Pg) : List Int := L.map Pg.page
theorem mf_in {ix : Int → Nat} {p : Int} : ∀ {ks : List Int}, p ∈ ks → mapFind (mpV ks ix) (.int .i64 p) = some (some (.hp 63 (ix p) 0))
  | [], h => nomatch h
  | q :: ks, h => by
    show ((eq1 (.int .i64 p) (.int .i64 q)).bind fun b => if b then some (some (V.hp 63 (ix q) 0)) else mapFind (mpV ks ix) (.int .i64 p)) = _
    have e : eq1 (.int .i64 p) (.int .i64 q) = some (p == q) := rfl
    rw [e, Option.bind_some]
    by_cases hpq : p = q
    · subst hpq; rw [if_pos (by simp)]
    · rw [if_neg (by simpa using hpq)]; exact mf_in (by simpa [hpq] using h)
theorem mf_out {ix : Int → Nat} {p : Int} : ∀ {ks : List Int}, p ∉ ks → mapFind (mpV ks ix) (.int .i64 p) = some none
  | [], h => rfl
  | q :: ks, h => by
    show ((eq1 (.int .i64 p) (.int .i64 q)).bind fun b => if b then some (some (V.hp 63 (ix q) 0)) else mapFind (mpV ks ix) (.int .i64 p)) = _
    have e : eq1 (.int .i64 p) (.int .i64 q) = some (p == q) := rfl
    have hpq : ¬ p = q := by rintro rfl; exact h (by simp)
    rw [e, Option.bind_some, if_neg (by simpa using hpq)]
    exact mf_out fun hk => h (by simp [hk])
theorem put_out {ix : Int → Nat} {p : Int} {v : V} : ∀ {ks : List Int}, p ∉ ks → mapPut (mpV ks ix) (.int .i64 p) v = some (mpV ks ix ++ [(.int .i64 p, v)])
  | [], h => rfl
  | q :: ks, h => by
    show ((eq1 (.int .i64 p) (.int .i64 q)).bind fun b => if b then some ((V.int .i64 q, v) :: mpV ks ix) else (mapPut (mpV ks ix) (.int .i64 p) v).map (ent ix q :: ·)) = _
    have e : eq1 (.int .i64 p) (.int .i64 q) = some (p == q) := rfl
    have hpq : ¬ p = q := by rintro rfl; exact h (by simp)
    rw [e, Option.bind_some, if_neg (by simpa using hpq), put_out fun hk => h (by simp [hk])]
    rfl
theorem del_in {ix : Int → Nat} {p : Int} : ∀ {ks : List Int}, mapDel (mpV ks ix) (.int .i64 p) = some (mpV (ks.erase p) ix)
  | [] => rfl
  | q :: ks => by
    show ((eq1 (.int .i64 p) (.int .i64 q)).bind fun b => if b then some (mpV ks ix) else (mapDel (mpV ks ix) (.int .i64 p)).map (ent ix q :: ·)) = _
    have e : eq1 (.int .i64 p) (.int .i64 q) = some (p == q) := rfl
    rw [e, Option.bind_some]
    by_cases hpq : p = q
    · subst hpq; rw [if_pos (by simp)]; simp
    · rw [if_neg (by simpa using hpq), del_in, List.erase_cons_tail (by simpa using fun h => hpq h.symm)]; rfl
structure Rep (ar : List V) (ks : List Int) (ix : Int → Nat) (L : List Pg) : Prop where
  perm : ks.Perm (pgs L)
  nd : (pgs L).Nodup
  at_ : ∀ x ∈ L, ar[ix x.page]? = some (placeV x)
  inj : ∀ x ∈ L, ∀ y ∈ L, ix x.page = ix y.page → x.page = y.page
def findP (L : List Pg) (p : Int) : Option Pg := L.find? fun x => x.page == p
def cutP (L : List Pg) (p : Int) : List Pg := L.filter fun x => x.page != p
theorem findP_some {L : List Pg} {p : Int} {x : Pg} (h : findP L p = some x) : x ∈ L ∧ x.page = p := ⟨List.mem_of_find?_eq_some h, by simpa using List.find?_some h⟩
theorem findP_none {L : List Pg} {p : Int} (h : findP L p = none) : p ∉ pgs L := by
  intro hp
  obtain ⟨x, hx, e⟩ := List.mem_map.1 hp
  have := List.find?_eq_none.1 h x hx
  exact this (by simp [e])
theorem findP_of {L : List Pg} (hn : (pgs L).Nodup) {x : Pg} (hx : x ∈ L) : findP L x.page = some x := by
  induction L with
  | nil => cases hx
  | cons y L ih =>
    unfold findP
    rw [List.find?_cons]
    by_cases h : y.page = x.page
    · rw [show (y.page == x.page) = true by simp [h]]
      rcases List.mem_cons.1 hx with rfl | hx
      · rfl
      · exact absurd (List.mem_map.2 ⟨x, hx, rfl⟩) (h ▸ (List.nodup_cons.1 hn).1)
    · rw [show (y.page == x.page) = false by simp [h]]
      rcases List.mem_cons.1 hx with rfl | hx
      · exact absurd rfl h
      · exact ih (List.nodup_cons.1 hn).2 hx
section
variable {ar : List V} {ks : List Int} {ix : Int → Nat} {L : List Pg}
theorem Rep.mf (h : Rep ar ks ix L) {x : Pg} (hx : x ∈ L) (kn : R) (k : V → R) : mfK (mpV ks ix) (.int .i64 x.page) kn k = k (.hp 63 (ix x.page) 0) := by
  unfold mfK
  rw [mf_in (h.perm.mem_iff.2 (List.mem_map.2 ⟨x, hx, rfl⟩))]
theorem Rep.mn (h : Rep ar ks ix L) {p : Int} (hp : findP L p = none) (kn : R) (k : V → R) : mfK (mpV ks ix) (.int .i64 p) kn k = kn := by
  unfold mfK
  rw [mf_out fun hk => findP_none hp (h.perm.mem_iff.1 hk)]
theorem Rep.ax (h : Rep ar ks ix L) {x : Pg} (hx : x ∈ L) (k : V → R) : idxK ar (ix x.page) k = k (placeV x) := idxK_of (h.at_ x hx)
theorem Rep.len (h : Rep ar ks ix L) : (mpV ks ix).length = L.length := by
  have := h.perm.length_eq
  simp [mpV, pgs] at *; exact this
theorem Rep.lt (h : Rep ar ks ix L) {x : Pg} (hx : x ∈ L) : ix x.page < ar.length := by
  have := h.at_ x hx
  exact (List.getElem?_eq_some_iff.1 this).1
theorem Rep.set (h : Rep ar ks ix L) {x x' : Pg} (hx : x ∈ L) (hp : x'.page = x.page) {L2 : List Pg} (h1 : (pgs L2).Perm (pgs L)) (h2 : ∀ y ∈ L2, y = x' ∨ (y ∈ L ∧ y.page ≠ x.page)) :
    Rep (ar.set (ix x.page) (placeV x')) ks ix L2 := by
  refine ⟨h.perm.trans h1.symm, h1.nodup_iff.2 h.nd, ?_, ?_⟩
  · intro y hy
    rcases h2 y hy with rfl | ⟨hy1, hy2⟩
    · rw [hp]; simp [h.lt hx]
    · rw [List.getElem?_set_ne (fun e => hy2 (h.inj _ hx _ hy1 e).symm)]
      exact h.at_ y hy1
  · have hm : ∀ y ∈ L2, ∃ z ∈ L, z.page = y.page := fun y hy => by
      have := h1.mem_iff.1 (List.mem_map.2 ⟨y, hy, rfl⟩)
      obtain ⟨z, hz, e⟩ := List.mem_map.1 this
      exact ⟨z, hz, e⟩
    intro y hy z hz e
    obtain ⟨y', hy', ey⟩ := hm y hy
    obtain ⟨z', hz', ez⟩ := hm z hz
    rw [← ey, ← ez] at e ⊢
    exact h.inj _ hy' _ hz' e
theorem Rep.reorder (h : Rep ar ks ix L) {L2 : List Pg} (h1 : L2.Perm L) : Rep ar ks ix L2 :=
  ⟨h.perm.trans (h1.map _).symm, (h1.map _).nodup_iff.2 h.nd, fun x hx => h.at_ x (h1.mem_iff.1 hx), fun x hx y hy => h.inj x (h1.mem_iff.1 hx) y (h1.mem_iff.1 hy)⟩
def updI (ix : Int → Nat) (p : Int) (n : Nat) : Int → Nat := fun q => if q = p then n else ix q
theorem Rep.add (h : Rep ar ks ix L) {x : Pg} (hx : x.page ∉ pgs L) : Rep (ar ++ [placeV x]) (ks ++ [x.page]) (updI ix x.page ar.length) (L ++ [x]) := by
  have hne : ∀ y ∈ L, y.page ≠ x.page := fun y hy e => hx (List.mem_map.2 ⟨y, hy, e⟩)
  have hu : ∀ y ∈ L, updI ix x.page ar.length y.page = ix y.page := fun y hy => by unfold updI; rw [if_neg (hne y hy)]
  have hux : updI ix x.page ar.length x.page = ar.length := by simp [updI]
  refine ⟨?_, ?_, ?_, ?_⟩
  · simp only [pgs, List.map_append, List.map_cons, List.map_nil]
    exact h.perm.append_right _
  · simp only [pgs, List.map_append, List.map_cons, List.map_nil]
    rw [List.nodup_append]
    refine ⟨h.nd, by simp, ?_⟩
    intro a ha b hb
    simp only [List.mem_singleton] at hb
    subst hb
    rintro rfl
    exact hx ha
  · intro y hy
    rcases List.mem_append.1 hy with hy | hy
    · rw [hu y hy, List.getElem?_append_left (h.lt hy)]; exact h.at_ y hy
    · simp only [List.mem_singleton] at hy
      subst hy
      rw [hux]; simp
  · intro y hy z hz e
    rcases List.mem_append.1 hy with hy1 | hy1 <;> rcases List.mem_append.1 hz with hz1 | hz1
    · rw [hu y hy1, hu z hz1] at e; exact h.inj _ hy1 _ hz1 e
    · simp only [List.mem_singleton] at hz1
      rw [hu y hy1, hz1, hux] at e
      exact absurd (h.lt hy1) (by omega)
    · simp only [List.mem_singleton] at hy1
      rw [hu z hz1, hy1, hux] at e
      exact absurd (h.lt hz1) (by omega)
    · simp only [List.mem_singleton] at hy1 hz1
      rw [hy1, hz1]
theorem mpV_add (h : Rep ar ks ix L) {x : Pg} (hx : x.page ∉ pgs L) (n : Nat) : mpV ks ix ++ [(.int .i64 x.page, .hp 63 n 0)] = mpV (ks ++ [x.page]) (updI ix x.page n) := by
  unfold mpV
  rw [List.map_append]
  congr 1
  · apply List.map_congr_left
    intro q hq
    have : q ≠ x.page := by rintro rfl; exact hx (h.perm.mem_iff.1 hq)
    simp [ent, updI, this]
  · simp [ent, updI]
theorem pgs_cut (L : List Pg) (p : Int) : pgs (cutP L p) = (pgs L).filter (· != p) := by
  simp [pgs, cutP, List.filter_map]
  rfl
theorem Rep.cut (h : Rep ar ks ix L) (p : Int) : Rep ar (ks.erase p) ix (cutP L p) := by
  refine ⟨?_, ?_, fun x hx => h.at_ x (List.mem_filter.1 hx).1, fun x hx y hy => h.inj x (List.mem_filter.1 hx).1 y (List.mem_filter.1 hy).1⟩
  · rw [pgs_cut, ← h.nd.erase_eq_filter]
    exact h.perm.erase p
  · rw [pgs_cut]; exact h.nd.filter _
theorem cut_perm {x : Pg} (hn : (pgs L).Nodup) (hx : x ∈ L) : (cutP L x.page ++ [x]).Perm L := by
  induction L with
  | nil => cases hx
  | cons y L ih =>
    have hy := List.nodup_cons.1 hn
    unfold cutP
    by_cases h : y.page = x.page
    · have hyx : y = x := by
        rcases List.mem_cons.1 hx with rfl | hx
        · rfl
        · exact absurd (List.mem_map.2 ⟨x, hx, rfl⟩) (h ▸ hy.1)
      subst hyx
      have : cutP L y.page = L := List.filter_eq_self.2 fun z hz => by
        simp only [bne_iff_ne, ne_eq]
        rintro e
        exact hy.1 (List.mem_map.2 ⟨z, hz, e⟩)
      unfold cutP at this
      rw [List.filter_cons_of_neg (by simp), this]
      exact List.perm_append_singleton y L
    · rw [List.filter_cons_of_pos (by simpa using h), List.cons_append]
      rcases List.mem_cons.1 hx with rfl | hx
      · exact absurd rfl h
      · exact (ih hy.2 hx).cons y
end
def idxF {α : Type} (q : α → Bool) : Nat → List α → Int
  | _, [] => -1
  | k, c :: r => if q c then (k : Int) else idxF q (k + 1) r
theorem idxF_spec {α : Type} (q : α → Bool) : ∀ (r : List α) (k : Nat), (idxF q k r = -1 ∧ ∀ c ∈ r, q c = false) ∨ ∃ pre c post, r = pre ++ c :: post ∧ (∀ x ∈ pre, q x = false) ∧ q c = true ∧ idxF q k r = ((k + pre.length : Nat) : Int)
  | [], k => .inl ⟨rfl, fun _ h => nomatch h⟩
  | c :: r, k => by
    unfold idxF
    by_cases h : q c = true
    · rw [if_pos h]; exact .inr ⟨[], c, r, rfl, by simp, h, by simp⟩
    · rw [if_neg h]
      rcases idxF_spec q r (k + 1) with ⟨h1, h2⟩ | ⟨pre, d, post, h1, h2, h3, h4⟩
      · exact .inl ⟨h1, by intro x hx; rcases List.mem_cons.1 hx with rfl | hx; simpa using h; exact h2 x hx⟩
      · refine .inr ⟨c :: pre, d, post, by rw [h1]; rfl, ?_, h3, by rw [h4]; simp; omega⟩
        intro x hx; rcases List.mem_cons.1 hx with rfl | hx; simpa using h; exact h2 x hx
theorem drop_cons {α : Type} {a r : List α} {k : Nat} {c : α} (h : a.drop k = c :: r) : k < a.length ∧ a[k]? = some c ∧ a.drop (k + 1) = r := by
  have hk : k < a.length := by
    apply Nat.lt_of_not_le
    intro hc
    rw [List.drop_eq_nil_of_le hc] at h; cases h
  refine ⟨hk, ?_, ?_⟩
  · have := congrArg (fun l => l[0]?) h
    simpa using this
  · rw [← List.drop_drop, h]; rfl
theorem wi (k : Nat) (h : k < 1000000) : W .i64 ((k : Int) + 1) = ((k + 1 : Nat) : Int) := by rw [W_i64 (by omega)]; omega
theorem idxc_loop (m0 m1 : List V) (a : List Int) (x : Int) (ha : a.length ≤ 100000) : ∀ (r : List Int) (k : Nat), a.drop k = r → k ≤ a.length →
    Go qk true 4 fa42 (.head 0 (T42c_0 (a.length : Int) (k : Int) m0 m1 (ints a) x)) (.doneM (.int .i64 (idxF (· == x) k r)) [.arena 63 m0, .arena 7 m1, .row 3 (ints a) 0, .box 3 (.int .i64 x) false])
  | [], k, h, hk => by
    have : a.length ≤ k := List.drop_eq_nil_iff.1 h
    refine s42c_0_run _ _ _ _ _ _ ?_ (.refl _)
    unfold s42c_0
    rw [decide_eq_false (by omega)]; rfl
  | c :: r, k, h, hk => by
    obtain ⟨h1, h2, h3⟩ := drop_cons h
    have hg : gd (decide (((k : Nat) : Int).toNat < (ints a).length)) = fun q => q := by funext q; exact gd_of (by simp [ints_len]; omega)
    by_cases hq : c = x
    · refine s42c_0_run _ _ _ _ _ _ ?_ (.refl _)
      unfold s42c_0 idxF
      rw [decide_eq_true (by omega), cond_true, gd_of (by simp), hg, toNat_cast, Nat.zero_add, idxK_ints h2, kI_mk, ibeq_t hq, if_pos (by simpa using hq)]; rfl
    · refine s42c_0_run _ _ _ _ _ _ ?_ (by unfold idxF; rw [if_neg (by simpa using hq)]; exact idxc_loop m0 m1 a x ha r (k + 1) h3 (by omega))
      unfold s42c_0
      rw [decide_eq_true (by omega), cond_true, gd_of (by simp), hg, toNat_cast, Nat.zero_add, idxK_ints h2, kI_mk, ibeq_f hq, wi k (by omega)]; rfl
theorem idxc_ok (m0 m1 : List V) (a : List Int) (x : Int) (ha : a.length ≤ 100000) :
    icC qcfg ⟨true, false⟩ 42 [.tail 2 0, .fn 44 [.ptr 3 0 0]] [.arena 63 m0, .arena 7 m1, .row 3 (ints a) 0, .box 3 (.int .i64 x) false] = some (mk42c (idxF (· == x) 0 a, m0, m1, ints a, x)) := by
  refine e42c_run _ _ _ _ ?_ ⟨_, _, idxc_loop m0 m1 a x ha a 0 rfl (by omega), by kernel_rfl⟩
  unfold e42c
  rw [ints_len]; rfl
theorem wfl_ints (a : List Int) : wfl 1 (ints a) = true := by
  simp [wfl, ints, V.cells]
theorem ints_take (a : List Int) (k : Nat) : (ints a).take k = ints (a.take k) := by simp [ints, List.map_take]
theorem ints_set (a : List Int) (k : Nat) (c : Int) : (ints a).set k (.int .i64 c) = ints (a.set k c) := by simp [ints, List.map_set]
theorem ints_app (a b : List Int) : ints (a ++ b) = ints a ++ ints b := by simp [ints]
theorem set_take {row : List Int} {i : Nat} {c : Int} (h : i < row.length) : (row.set i c).take (i + 1) = row.take i ++ [c] := by
  rw [List.take_add_one, List.take_set_of_le (by omega)]
  simp [h]
theorem wfl_zero (l : List V) (hl : wfl 1 l = true) (n i : Nat) : wfl 1 (l.take i ++ List.replicate n (V.int .i64 0) ++ l.drop i) = true := by
  unfold wfl at *
  rw [List.all_eq_true] at *
  intro x hx
  rcases List.mem_append.1 hx with hx | hx
  · rcases List.mem_append.1 hx with hx | hx
    · exact hl x (List.mem_of_mem_take hx)
    · rw [List.eq_of_mem_replicate hx]; rfl
  · exact hl x (List.mem_of_mem_drop hx)
theorem wfl_zero2 (l : List V) (hl : wfl 1 l = true) (n i j : Nat) : wfl 1 (l.take i ++ List.replicate n (V.int .i64 0) ++ l.drop j) = true := by
  unfold wfl at *
  rw [List.all_eq_true] at *
  intro x hx
  rcases List.mem_append.1 hx with hx | hx
  · rcases List.mem_append.1 hx with hx | hx
    · exact hl x (List.mem_of_mem_take hx)
    · rw [List.eq_of_mem_replicate hx]; rfl
  · exact hl x (List.mem_of_mem_drop hx)
def delRow (row : List Int) (i : Nat) : List V := (ints row).take i ++ List.replicate ((ints row).length - i) (V.int .i64 0) ++ (ints row).drop (i + ((ints row).length - i))
theorem delRow_take {row : List Int} {i : Nat} (h : i ≤ row.length) : (delRow row i).take i = ints (row.take i) := by
  unfold delRow
  rw [List.append_assoc, List.take_left' (by simp [ints_len]; omega), ints_take]
theorem delRow_len {row : List Int} {i : Nat} (h : i ≤ row.length) : (delRow row i).length = row.length := by
  simp [delRow, ints_len]; omega
theorem delb_loop (m0 m1 : List V) (x : Int) (n : Nat) (hn : n ≤ 100000) : ∀ (r row : List Int) (i j : Nat), row.drop j = r → row.length = n → j ≤ n → i ≤ j →
    ∃ row' : List Int, row'.length = n ∧ row'.take (i + (r.filter (· != x)).length) = row.take i ++ r.filter (· != x) ∧ i + (r.filter (· != x)).length ≤ n ∧
      Go qk true 4 fa39 (.head 0 (T39b_0 (i : Int) (j : Int) m0 m1 (ints row) x))
        (.doneM (.win 2 0 (i + (r.filter (· != x)).length)) [.arena 63 m0, .arena 7 m1, .row 3 (delRow row' (i + (r.filter (· != x)).length)) 0, .box 3 (.int .i64 x) false, .row 3 [] 0])
  | [], row, i, j, h, hr, hj, hi => by
    have hjl : row.length ≤ j := List.drop_eq_nil_iff.1 h
    refine ⟨row, hr, by simp, by simp; omega, ?_⟩
    refine s39b_0_run _ _ _ _ _ _ ?_ (.refl _)
    unfold s39b_0
    rw [decide_eq_false (by rw [ints_len]; omega), cond_false, gd_of (wfl_ints row), gd_of (by simp), toNat_cast, gd_of (by simp [ints_len]; omega), gd_of (by simp [ints_len]; omega)]
    simp only [Nat.zero_add]
    rw [gd_of (wfl_zero2 _ (wfl_ints row) _ _ _), gd_of (by simp), gd_of (by simp [ints_len]; omega)]
    rfl
  | c :: r, row, i, j, h, hr, hj, hi => by
    obtain ⟨h1, h2, h3⟩ := drop_cons h
    have hgi : ∀ k : Nat, k < n → gd (decide (((k : Nat) : Int).toNat < (ints row).length)) = fun q => q := fun k hk => by funext q; exact gd_of (by simp [ints_len]; omega)
    obtain ⟨d, hd⟩ : ∃ d, row[i]? = some d := ⟨_, List.getElem?_eq_getElem (by omega)⟩
    by_cases hq : c = x
    · obtain ⟨row', e1, e2, e3, e4⟩ := delb_loop m0 m1 x n hn r row i (j + 1) h3 hr (by omega) (by omega)
      have hf : (c :: r).filter (· != x) = r.filter (· != x) := List.filter_cons_of_neg (by simpa using hq)
      rw [hf]
      refine ⟨row', e1, e2, e3, ?_⟩
      refine s39b_0_run _ _ _ _ _ _ ?_ e4
      unfold s39b_0
      rw [decide_eq_true (by rw [ints_len]; omega), cond_true, gd_of (by simp), hgi j (by omega), toNat_cast, Nat.zero_add, idxK_ints h2, kI_mk, ibeq_t hq, wi j (by omega)]; rfl
    · have hs : (row.set i c).drop (j + 1) = r := by rw [List.drop_set_of_lt (by omega)]; exact h3
      obtain ⟨row', e1, e2, e3, e4⟩ := delb_loop m0 m1 x n hn r (row.set i c) (i + 1) (j + 1) hs (by simpa using hr) (by omega) (by omega)
      have hf : (c :: r).filter (· != x) = c :: r.filter (· != x) := List.filter_cons_of_pos (by simpa using hq)
      have hl : i + 1 + (r.filter (· != x)).length = i + (c :: r.filter (· != x)).length := by simp; omega
      rw [hl] at e2 e3 e4
      rw [hf]
      refine ⟨row', e1, by rw [e2, set_take (by omega), List.append_assoc]; rfl, e3, ?_⟩
      refine s39b_0_run _ _ _ _ _ _ ?_ e4
      unfold s39b_0
      rw [decide_eq_true (by rw [ints_len]; omega), cond_true, gd_of (by simp), hgi j (by omega), toNat_cast, Nat.zero_add, idxK_ints h2, kI_mk, ibeq_f hq, Bool.not_false, cond_true, gd_of (by simp), hgi i (by omega), toNat_cast, Nat.zero_add, idxK_ints hd, kI_mk, wi j (by omega), wi i (by omega), ints_set]
theorem filter_pre {pre post : List Int} {c x : Int} (h1 : ∀ y ∈ pre, (y == x) = false) (h2 : (c == x) = true) : (pre ++ c :: post).filter (· != x) = pre ++ post.filter (· != x) := by
  rw [List.filter_append, List.filter_cons_of_neg (by simpa using h2), List.filter_eq_self.2 fun y hy => by have := h1 y hy; simpa using this]
theorem dfb_ok (m0 m1 : List V) (a : List Int) (x : Int) (ha : a.length ≤ 100000) :
    ∃ (k : Nat) (row : List V), row.take k = ints (a.filter (· != x)) ∧ k ≤ row.length ∧ k ≤ a.length ∧
      icC qcfg ⟨true, true⟩ 39 [.tail 2 0, .fn 44 [.ptr 3 0 0]] [.arena 63 m0, .arena 7 m1, .row 3 (ints a) 0, .box 3 (.int .i64 x) false] = some (mk39b (k, m0, m1, row, x)) := by
  rcases idxF_spec (· == x) a 0 with ⟨h1, h2⟩ | ⟨pre, c, post, h1, h2, h3, h4⟩
  · refine ⟨a.length, ints a, ?_, by rw [ints_len]; omega, by omega, ?_⟩
    · rw [List.take_of_length_le (by rw [ints_len]; omega), List.filter_eq_self.2 fun y hy => by have := h2 y hy; simpa using this]
    · refine e39b_run _ _ _ _ (o := .doneM ?v1 ?m1) ?h1 (.done ?n1)
      case h1 =>
        unfold e39b
        rw [icM_of mk42c_inj (idxc_ok m0 m1 a x ha), h1]
        rfl
      case n1 =>
        have : (mk39b ((ints a).length - 0, m0, m1, ints a, x)) = mk39b (a.length, m0, m1, ints a, x) := by rw [ints_len]; rfl
        rw [← this]
        show _ = _
        kernel_rfl
  · have hl : pre.length < a.length := by rw [h1]; simp
    have hd : a.drop (pre.length + 1) = post := by rw [h1]; simp
    obtain ⟨row', e1, e2, e3, e4⟩ := delb_loop m0 m1 x a.length ha post a pre.length (pre.length + 1) hd rfl (by omega) (by omega)
    have hf : a.filter (· != x) = pre ++ post.filter (· != x) := by rw [h1]; exact filter_pre h2 h3
    have ht : a.take pre.length = pre := by rw [h1]; simp
    refine ⟨_, delRow row' (pre.length + (post.filter (· != x)).length), ?_, ?_, e3, e39b_run _ _ _ _ ?_ ⟨_, _, e4, by kernel_rfl⟩⟩
    · rw [delRow_take (by omega), e2, hf, ht]
    · rw [delRow_len (by omega)]; omega
    · unfold e39b
      rw [icM_of mk42c_inj (idxc_ok m0 m1 a x ha), h4]
      simp only [Nat.zero_add]
      rw [ibeq_f (by omega), cond_false, wi _ (by omega)]
abbrev plm (ar a1 : List V) (pl sure n : Int) (mp : List (V × V)) (ages : List Int) (ws : Ws) (z : Nat) : List O :=
  [.arena 63 ar, .arena 7 a1, .box 59 (.agg [.ptr 3 0 0, .int .i64 pl, .mp 4, .tail 5 0, .int .i64 sure]) false, .box 56 (.agg [.int .i64 n, .mp 6, .tail 7 0]) false, .map mp, .row 3 (ints ages) 0, .map [], .row 88 (wsV ws) z]
theorem young_ok (ar a1 : List V) (pl sure n : Int) (mp : List (V × V)) (a : List Int) (ws : Ws) (z : Nat) (x : Int) (ha : a.length ≤ 100000) :
    icC qcfg ⟨false, false⟩ 26 [.ptr 2 0 0, .int .i64 x] (plm ar a1 pl sure n mp a ws z) =
      some (mk26 (ar, a1, pl, sure, n, mp, [], ints (a.filter (· != x) ++ [x]), wsV ws, z)) := by
  obtain ⟨k, row, h1, h2, h3, h4⟩ := dfb_ok ar a1 a x ha
  refine e26_run _ _ _ _ _ _ _ _ _ _ _ (o := .doneM ?v2 ?m2) ?h2 (.done ?n2)
  case h2 =>
    unfold e26
    rw [icM_of mk39b_inj h4]
    dsimp only
    rw [gd_of (by simpa using h2), gd_of (by simp; omega)]
  case n2 =>
    have : ints (a.filter (· != x) ++ [x]) = (row.drop 0).take k ++ [.int .i64 x] := by rw [ints_app, List.drop_zero, h1]; rfl
    rw [this]
    show _ = _
    kernel_rfl
section
variable {p : Int} {ar a1 : List V} {pl sure n : Int} {ks : List Int} {ix : Int → Nat} {L : List Pg} {ws : Ws} {z : Nat}
theorem pins_ok (h : Rep ar ks ix L) (p : Int) :
    icC qcfg ⟨true, false⟩ 20 [.ptr 2 0 0, .int .i64 p] (plm ar a1 pl sure n (mpV ks ix) (pgs L) ws z) =
      some (mk20 (((findP L p).map Pg.pins).getD 0, ar, a1, pl, sure, n, mpV ks ix, ints (pgs L), [], wsV ws, z)) := by
  cases hf : findP L p with
  | none =>
    refine e20_run _ _ _ _ _ _ _ _ _ _ _ (o := .doneM ?v3 ?m3) ?h3 (.done ?n3)
    case h3 =>
      unfold e20
      rw [h.mn hf]
      all_goals rfl
    case n3 => kernel_rfl
  | some x =>
    obtain ⟨hx, rfl⟩ := findP_some hf
    refine e20_run _ _ _ _ _ _ _ _ _ _ _ (o := .doneM ?v4 ?m4) ?h4 (.done ?n4)
    case h4 =>
      unfold e20
      rw [h.mf hx, kP_mk, h.mf hx, kP_mk, h.ax hx, d63_pl]
      all_goals rfl
    case n4 => kernel_rfl
def heldE (L : List Pg) (p : Int) : Int := match findP L p with | none => 7 | some x => if x.pins = 0 then 9 else 0
def updP (L : List Pg) (p : Int) (f : Pg → Pg) : List Pg := L.map fun y => if y.page = p then f y else y
theorem pgs_upd {p : Int} {f : Pg → Pg} (hf : ∀ y, (f y).page = y.page) : pgs (updP L p f) = pgs L := by
  simp only [pgs, updP, List.map_map]
  apply List.map_congr_left
  intro y _
  simp only [Function.comp]
  split
  · exact hf y
  · rfl
theorem Rep.upd (h : Rep ar ks ix L) {x : Pg} (hx : x ∈ L) {f : Pg → Pg} (hf : ∀ y, (f y).page = y.page) : Rep (ar.set (ix x.page) (placeV (f x))) ks ix (updP L x.page f) := by
  refine h.set hx (hf x) (by rw [pgs_upd hf]) ?_
  intro y hy
  obtain ⟨w, hw, e⟩ := List.mem_map.1 hy
  by_cases hp : w.page = x.page
  · rw [if_pos hp] at e
    have h1 := findP_of h.nd hw
    have h2 := findP_of h.nd hx
    rw [hp, h2] at h1
    cases h1
    exact .inl e.symm
  · rw [if_neg hp] at e
    subst e
    exact .inr ⟨hw, hp⟩
theorem held_n (hf : findP L p = none) : heldE L p = 7 := by unfold heldE; rw [hf]
theorem held_s {x : Pg} (hf : findP L p = some x) (h : x.pins = 0) : heldE L p = 9 := by unfold heldE; rw [hf]; exact if_pos h
theorem held_y {x : Pg} (hf : findP L p = some x) (h : ¬ x.pins = 0) : heldE L p = 0 := by unfold heldE; rw [hf]; exact if_neg h
theorem unpin_ok (h : Rep ar ks ix L) (p : Int) :
    ∃ ar', Rep ar' ks ix (if heldE L p = 0 then updP L p fun y => { y with pins := W .i64 (y.pins - 1) } else L) ∧
    icC qcfg ⟨true, false⟩ 10 [.ptr 2 0 0, .int .i64 p] (plm ar a1 pl sure n (mpV ks ix) (pgs L) ws z) =
      some (mk10 (heldE L p, ar', a1, pl, sure, n, mpV ks ix, ints (pgs L), [], wsV ws, z)) := by
  cases hf : findP L p with
  | none =>
    rw [held_n hf]
    refine ⟨ar, by simpa using h, ?_⟩
    refine e10_run _ _ _ _ _ _ _ _ _ _ _ (o := .doneM ?v5 ?m5) ?h5 (.done ?n5)
    case h5 =>
      unfold e10
      rw [h.mn hf]
      all_goals rfl
    case n5 => kernel_rfl
  | some x =>
    obtain ⟨hx, rfl⟩ := findP_some hf
    by_cases hp : x.pins = 0
    · rw [held_s hf hp]
      refine ⟨ar, by simpa using h, ?_⟩
      refine e10_run _ _ _ _ _ _ _ _ _ _ _ (o := .doneM ?v6 ?m6) ?h6 (.done ?n6)
      case h6 =>
        unfold e10
        rw [h.mf hx, kP_mk, h.ax hx, d63_pl, ibeq_t hp, cond_true]
        all_goals rfl
      case n6 => kernel_rfl
    · rw [held_y hf hp]
      refine ⟨_, h.upd hx fun _ => rfl, ?_⟩
      refine e10_run _ _ _ _ _ _ _ _ _ _ _ (o := .doneM ?v7 ?m7) ?h7 (.done ?n7)
      case h7 =>
        unfold e10
        rw [h.mf hx, kP_mk, h.ax hx, d63_pl, ibeq_f hp, cond_false, h.ax hx, d63_pl, h.ax hx, d63_pl]
        all_goals rfl
      case n7 => kernel_rfl
def putE (L : List Pg) (p : Int) (s : Bs) (lsn : Int) : Int :=
  if heldE L p = 0 then (if 252 < s.length then 2 else if lsn < 1 then 1 else match findP L p with | some x => if lsn < x.last then 1 else 0 | none => 0) else heldE L p
def putX (s : Bs) (lsn : Int) (x : Pg) : Pg := ⟨x.page, padW s, x.pins, true, if x.dirty then x.first else lsn, lsn⟩
theorem set_ax {x : Pg} (h : Rep ar ks ix L) (hx : x ∈ L) (v : V) (k : V → R) : idxK (ar.set (ix x.page) v) (ix x.page) k = k v := idxK_of (by simp [h.lt hx])
theorem set_ax2 {x : Pg} (h : Rep ar ks ix L) (hx : x ∈ L) (v w : V) (k : V → R) : idxK ((ar.set (ix x.page) w).set (ix x.page) v) (ix x.page) k = k v := idxK_of (by simp [h.lt hx])
theorem d63_v (s : Bs) (a : Int) (b : Bool) (c d : Int) (k : Bs → Int → Bool → Int → Int → R) : d63 (.agg [.str s, .int .i64 a, .bool b, .int .i64 c, .int .i64 d]) k = k s a b c d := rfl
theorem put_go (h : Rep ar ks ix L) {x : Pg} (hx : x ∈ L) (hp : ¬ x.pins = 0) (s : Bs) (hs : s.length ≤ 252) (lsn : Int) (h1 : ¬ lsn < 1) (h2 : ¬ lsn < x.last) :
    ∃ m8, e11 x.page s lsn ar a1 pl sure n (mpV ks ix) (ints (pgs L)) [] (wsV ws) z = some (.doneM (.int .i64 0) (plm (ar.set (ix x.page) (placeV (putX s lsn x))) a1 pl sure n (mpV ks ix) (pgs L) ws z ++ [.row 5 m8 0])) := by
  have w : W .i64 (252 - (s.length : Int)) = ((252 - s.length : Nat) : Int) := by rw [W_i64 (by omega)]; omega
  have hz : (List.replicate (252 - s.length) (0 : Int)).map (fun n => UInt8.ofNat n.toNat) = zeros (252 - s.length) := by simp [zeros]
  refine ⟨List.replicate (252 - s.length) (.int .u8 0), ?_⟩
  unfold e11
  rw [h.mf hx, kP_mk, h.ax hx, d63_pl, ibeq_f hp, cond_false, decide_eq_false (show ¬ (s.length : Int) > 252 by omega), cond_false, decide_eq_false h1, cond_false, h.ax hx, d63_pl, decide_eq_false h2, cond_false, h.ax hx, d63_pl, w]
  cases hd : x.dirty
  · rw [Bool.not_false, cond_true, h.ax hx, d63_pl, gd_of (by simp), gd_of (by simp), toNat_cast, gd_of (by simp; omega), nums_rep, opt_mk, hz, gd_of (by simp [zeros]; omega), set_ax h hx, d63_v, set_ax2 h hx, d63_v]
    simp only [List.set_set]
    rw [set_ax h hx, d63_v]
    simp [hd, putX, placeV, padW]
  · rw [Bool.not_true, cond_false, gd_of (by simp), gd_of (by simp), toNat_cast, gd_of (by simp; omega), nums_rep, opt_mk, hz, gd_of (by simp [zeros]; omega), h.ax hx, d63_pl, set_ax h hx, d63_v, set_ax2 h hx, d63_v]
    simp [hd, putX, placeV, padW]
theorem put_ok' (h : Rep ar ks ix L) (p : Int) (s : Bs) (lsn : Int) :
    ∃ ar', Rep ar' ks ix (if putE L p s lsn = 0 then updP L p (putX s lsn) else L) ∧
    icC qcfg ⟨true, false⟩ 11 [.ptr 2 0 0, .int .i64 p, .str s, .int .i64 lsn] (plm ar a1 pl sure n (mpV ks ix) (pgs L) ws z) =
      some (mk11 (putE L p s lsn, ar', a1, pl, sure, n, mpV ks ix, ints (pgs L), [], wsV ws, z)) := by
  unfold putE
  cases hf : findP L p with
  | none =>
    rw [held_n hf]
    refine ⟨ar, by simpa using h, ?_⟩
    refine e11_run _ _ _ _ _ _ _ _ _ _ _ _ _ (o := .doneM ?v8 ?m8) ?h8 (.done ?n8)
    case h8 =>
      unfold e11
      rw [h.mn hf]
      all_goals rfl
    case n8 => kernel_rfl
  | some x =>
    obtain ⟨hx, rfl⟩ := findP_some hf
    by_cases hp : x.pins = 0
    · rw [held_s hf hp]
      refine ⟨ar, by simpa using h, ?_⟩
      refine e11_run _ _ _ _ _ _ _ _ _ _ _ _ _ (o := .doneM ?v9 ?m9) ?h9 (.done ?n9)
      case h9 =>
        unfold e11
        rw [h.mf hx, kP_mk, h.ax hx, d63_pl, ibeq_t hp, cond_true]
        all_goals rfl
      case n9 => kernel_rfl
    rw [held_y hf hp, if_pos rfl]
    dsimp only
    by_cases hs : 252 < s.length
    · rw [if_pos hs]
      refine ⟨ar, by simpa using h, ?_⟩
      refine e11_run _ _ _ _ _ _ _ _ _ _ _ _ _ (o := .doneM ?v10 ?m10) ?h10 (.done ?n10)
      case h10 =>
        unfold e11
        rw [h.mf hx, kP_mk, h.ax hx, d63_pl, ibeq_f hp, cond_false, decide_eq_true (show (s.length : Int) > 252 by omega), cond_true]
        all_goals rfl
      case n10 => kernel_rfl
    rw [if_neg hs]
    by_cases h1 : lsn < 1
    · rw [if_pos h1]
      refine ⟨ar, by simpa using h, ?_⟩
      refine e11_run _ _ _ _ _ _ _ _ _ _ _ _ _ (o := .doneM ?v11 ?m11) ?h11 (.done ?n11)
      case h11 =>
        unfold e11
        rw [h.mf hx, kP_mk, h.ax hx, d63_pl, ibeq_f hp, cond_false, decide_eq_false (show ¬ (s.length : Int) > 252 by omega), cond_false, decide_eq_true h1, cond_true]
        all_goals rfl
      case n11 => kernel_rfl
    rw [if_neg h1]
    by_cases h2 : lsn < x.last
    · rw [if_pos h2]
      refine ⟨ar, by simpa using h, ?_⟩
      refine e11_run _ _ _ _ _ _ _ _ _ _ _ _ _ (o := .doneM ?v12 ?m12) ?h12 (.done ?n12)
      case h12 =>
        unfold e11
        rw [h.mf hx, kP_mk, h.ax hx, d63_pl, ibeq_f hp, cond_false, decide_eq_false (show ¬ (s.length : Int) > 252 by omega), cond_false, decide_eq_false h1, cond_false, h.ax hx, d63_pl, decide_eq_true h2, cond_true]
        all_goals rfl
      case n12 => kernel_rfl
    · rw [if_neg h2, if_pos rfl]
      obtain ⟨m8, hm⟩ := put_go (a1 := a1) (pl := pl) (sure := sure) (n := n) (ws := ws) (z := z) h hx hp s (by omega) lsn h1 h2
      exact ⟨_, h.upd hx fun _ => rfl, e11_run _ _ _ _ _ _ _ _ _ _ _ _ _ hm (.done (by kernel_rfl))⟩
end
end Go.Proofs.Ytknapnnpmfhogaa