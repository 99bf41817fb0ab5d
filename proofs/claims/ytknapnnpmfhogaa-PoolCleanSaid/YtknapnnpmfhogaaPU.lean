/-
  What the laws share.
-/
import Derived.Test.YtknapnnpmfhogaaP10
namespace Go.Proofs.Ytknapnnpmfhogaa
open Go Go.Lite
set_option linter.unusedSimpArgs false
set_option linter.unusedVariables false
set_option linter.unnecessarySimpa false
set_option maxRecDepth 10000
theorem and7 (x : Int) : ∃ q : Nat, q < 8 ∧ W .i64 (((BitVec.ofInt (IntKind.bits .i64) x &&& BitVec.ofInt (IntKind.bits .i64) 7).toNat : Int)) = (q : Int) := by
  refine ⟨(BitVec.ofInt 64 x &&& BitVec.ofInt 64 7).toNat, ?_, ?_⟩
  · rw [BitVec.toNat_and]
    exact Nat.lt_of_le_of_lt Nat.and_le_right (by decide)
  · change W .i64 (((BitVec.ofInt 64 x &&& BitVec.ofInt 64 7).toNat : Int)) = _
    have : (BitVec.ofInt 64 x &&& BitVec.ofInt 64 7).toNat < 8 := by
      rw [BitVec.toNat_and]
      exact Nat.lt_of_le_of_lt Nat.and_le_right (by decide)
    exact W_i64 (by omega)
theorem law_run {f : FuncId} {fa : FA} {args : List V} {mem0 mem : List O} {o : Out} {v : V} (hp : qk.cfg.pprim f = none) (hf : fnA qk.cfg.P (qk.cfg.rxf f) f = some fa) (hm : arsM qk.cfg f = mem0) (hfl : v.flat1 = true) (ho : arsOk qk.cfg f args = true) (hne : (qk.cfg.ars f).isEmpty = false)
    (h : enterK qk true fa args mem0 = some o) (hg : Go qk true mem0.length fa o (.doneM v mem)) : pcW qcfg f args = some v := pcW_goA qik hp hf hm hfl ho hne h hg
theorem find_upd {L : List Pg} {p : Int} {f : Pg → Pg} {x : Pg} (hf : ∀ y, (f y).page = y.page) (h : findP L p = some x) : findP (updP L p f) p = some (f x) := by
  induction L with
  | nil => cases h
  | cons y L ih =>
    unfold findP updP at *
    rw [List.map_cons, List.find?_cons]
    rw [List.find?_cons] at h
    by_cases hp : y.page = p
    · rw [if_pos hp, show ((f y).page == p) = true by simp [hf, hp]]
      rw [show (y.page == p) = true by simp [hp]] at h
      dsimp only at h ⊢
      cases h; rfl
    · rw [if_neg hp, show (y.page == p) = false by simp [hp]]
      rw [show (y.page == p) = false by simp [hp]] at h
      exact ih h
section
variable {p : Int} {pl sure n : Int} {L : List Pg} {ws : Ws}
theorem cleanF_ind {sure : Int} {P : List Pg × Ws × Nat → Prop} (h : ∀ s c, P s → P (clean1 sure s c)) : ∀ (r : List Int) {s : List Pg × Ws × Nat}, P s → P (cleanF sure r s)
  | [], _, hs => hs
  | c :: r, s, hs => cleanF_ind h r (h s c hs)
theorem clean1_cases (sure : Int) (s : List Pg × Ws × Nat) (c : Int) : clean1 sure s c = s ∨ ∃ x ∈ s.1, x.page = c ∧ x.dirty = true ∧ x.last ≤ sure ∧ findP s.1 c = some x ∧ clean1 sure s c = (updP s.1 c washX, s.2.1 ++ [(c, x.s)], s.2.2 + 1) := by
  unfold clean1
  cases hf : findP s.1 c with
  | none => exact .inl rfl
  | some x =>
    dsimp only
    by_cases hm : mayP sure x = true
    · rw [if_pos hm]
      simp only [mayP, Bool.and_eq_true, decide_eq_true_eq] at hm
      exact .inr ⟨x, (findP_some hf).1, (findP_some hf).2, hm.1, hm.2, rfl, rfl⟩
    · rw [if_neg hm]; exact .inl rfl
theorem pgs_clean1 (sure : Int) (s : List Pg × Ws × Nat) (c : Int) : pgs (clean1 sure s c).1 = pgs s.1 := by
  rcases clean1_cases sure s c with e | ⟨x, _, _, _, _, _, e⟩
  · rw [e]
  · rw [e]; exact pgs_upd (f := washX) fun _ => rfl
theorem Gd.clean1 {s : List Pg × Ws × Nat} (h : Gd n s.1 s.2.1) (c : Int) : Gd n (clean1 sure s c).1 (clean1 sure s c).2.1 := by
  rcases clean1_cases sure s c with e | ⟨x, hx, hc, _, _, _, e⟩
  · rw [e]; exact h
  · rw [e, ← hc]; exact h.wash hx
theorem len_clean1 (sure : Int) (s : List Pg × Ws × Nat) (c : Int) : (clean1 sure s c).2.1.length ≤ s.2.1.length + 1 := by
  rcases clean1_cases sure s c with e | ⟨x, _, _, _, _, _, e⟩
  · rw [e]; omega
  · rw [e]; simp
theorem len_cleanF (sure : Int) : ∀ (r : List Int) (s : List Pg × Ws × Nat), (cleanF sure r s).2.1.length ≤ s.2.1.length + r.length
  | [], s => by simp [cleanF]
  | c :: r, s => by
    have h1 := len_cleanF sure r (Go.Proofs.Ytknapnnpmfhogaa.clean1 sure s c)
    have h2 := len_clean1 sure s c
    show (cleanF sure r (Go.Proofs.Ytknapnnpmfhogaa.clean1 sure s c)).2.1.length ≤ _
    simp only [List.length_cons]
    omega
theorem Good.clean (g : Good pl n L ws) (r : List Int) (k : Nat) : Good pl n (cleanF sure r (L, ws, k)).1 (cleanF sure r (L, ws, k)).2.1 ∧ pgs (cleanF sure r (L, ws, k)).1 = pgs L := by
  have h : Gd n (cleanF sure r (L, ws, k)).1 (cleanF sure r (L, ws, k)).2.1 ∧ pgs (cleanF sure r (L, ws, k)).1 = pgs L :=
    cleanF_ind (P := fun s => Gd n s.1 s.2.1 ∧ pgs s.1 = pgs L) (fun s c h => ⟨h.1.clean1 c, by rw [pgs_clean1]; exact h.2⟩) r ⟨g.gd, rfl⟩
  have hl := congrArg List.length h.2
  simp only [pgs_len] at hl
  exact ⟨⟨by rw [hl]; exact g.len, g.pl, h.1.bs, h.1.pg, h.1.ok⟩, h.2⟩
end
structure Op where
  kind : Int
  page : Int
  s : Bs
  n : Int
def opV (o : Op) : V := .agg [.int .i64 o.kind, .int .i64 o.page, .str o.s, .int .i64 o.n]
theorem d31_op (o : Op) (k : Int → Int → Bs → Int → R) : d31 (opV o) k = k o.kind o.page o.s o.n := rfl
theorem clean_at {ar : List V} {ks : List Int} {ix : Int → Nat} {L : List Pg} {ws : Ws} {z : Nat} {pl sure n : Int} (h : Rep ar ks ix L) (g : Good pl n L ws) (hn : n ≤ 1000000) (hw : ws.length ≤ 90000) :
    ∃ ar' cnt L' ws', Rep ar' ks ix L' ∧ (L', ws', cnt) = cleanF sure (srt ks) (L, ws, 0) ∧ Good pl n L' ws' ∧ ws'.length ≤ ws.length + L.length ∧ pgs L' = pgs L ∧
      icC qcfg ⟨false, false⟩ 14 [.ptr 2 0 0] (plm ar [] pl sure n (mpV ks ix) (pgs L) ws z) =
        some (mk14 ((cnt : Int), ar', [], pl, sure, n, mpV ks ix, [], ints (pgs L'), wsV ws', z)) := by
  obtain ⟨ar', h1, h2⟩ := clean_ok (a1 := []) (pl := pl) (sure := sure) (z := z) h g.gd (by have := g.len; have := g.pl; omega) (g.in64 hn) hw
  have hc := g.clean (sure := sure) (srt ks) 0
  have hl := len_cleanF sure (srt ks) (L, ws, 0)
  rw [srt_len h] at hl
  refine ⟨ar', (cleanF sure (srt ks) (L, ws, 0)).2.2, _, _, h1, rfl, hc.1, hl, hc.2, ?_⟩
  rw [hc.2]; exact h2
end Go.Proofs.Ytknapnnpmfhogaa