/-
  From what a reading says of the arguments to the interpreter's values; from the interpreter's answer to a row.
-/
import Derived.Test.YtknapnnpmfhogaaLite23
import Derived.ProofKit
import Derived.OpenShut
import Derived.Carry
import Derived.ChangeArms
namespace Go.Lite
open Go
def Zall (w : World) : Zs := ⟨fun g _ => g < w.heap.size, fun _ _ => none, fun _ => none⟩
def contig (P : Program) : Nat → List Field → Nat → Bool
  | off, [], tot => off == tot
  | off, f :: fs, tot => f.offset == off && contig P (off + P.cellsOf f.type) fs tot
def okT (P : Program) : Nat → TypeId → Bool
  | 0, _ => false
  | n + 1, t => match P.underlying t with
    | some .bool | some (.int _) | some .string => true
    | some (.slice e) => okT P n e && decide (0 < P.cellsOf e)
    | some (.struct fs) => contig P 0 fs.toList (P.cellsOf t) && fs.toList.all fun f => okT P n f.type
    | some (.array len e) => okT P n e && P.cellsOf t == len * P.cellsOf e
    | _ => false
def TyC (P : Program) : Nat → TypeId → List V → Prop
  | 0, _, _ => False
  | n + 1, t, vs => match P.underlying t with
    | some .bool => ∃ b, vs = [.bool b]
    | some (.int k) => ∃ m, vs = [.int k m] ∧ (Lit.int k m).wf = true
    | some .string => ∃ s, vs = [.str s] ∧ s.length ≤ maxLen
    | some (.slice e) => ∃ l, vs = [.sl l] ∧ l.length ≤ maxLen ∧ ∀ x ∈ l, TyC P n e x.cells ∧ (if aggTy (P.underlying e) then ∃ cs, x = .agg cs else x.cells = [x])
    | some (.struct fs) => vs.length = P.cellsOf t ∧ ∀ f ∈ fs.toList, TyC P n f.type ((vs.drop f.offset).take (P.cellsOf f.type))
    | some (.array len e) => vs.length = P.cellsOf t ∧ ∀ i, i < len → TyC P n e ((vs.drop (i * P.cellsOf e)).take (P.cellsOf e))
    | _ => False
def RC (w : World) (vs : List V) (cs : List Value) : Prop := vs.length = cs.length ∧ ∀ (i : Nat) (v : V) (u : Value), vs[i]? = some v → cs[i]? = some u → v.one = true ∧ VR (Zall w) w j0 v u
section
variable {H : Type} {enc : TypeId × Value → H} {P : Program} {w : World} {spare : Nat → Bool}
theorem RC.one {v : V} {u : Value} (h1 : v.one = true) (h : VR (Zall w) w j0 v u) : RC w [v] [u] := by
  refine ⟨rfl, fun i x y hx hy => ?_⟩
  cases i with
  | zero => simp at hx hy; subst hx; subst hy; exact ⟨h1, h⟩
  | succ i => simp at hx
theorem RC.append {vs vs' : List V} {cs cs' : List Value} (h : RC w vs cs) (h' : RC w vs' cs') : RC w (vs ++ vs') (cs ++ cs') := by
  refine ⟨by simp [h.1, h'.1], fun i x y hx hy => ?_⟩
  by_cases hi : i < vs.length
  · rw [List.getElem?_append_left hi] at hx
    rw [List.getElem?_append_left (by rw [← h.1]; exact hi)] at hy
    exact h.2 i x y hx hy
  · rw [List.getElem?_append_right (by omega)] at hx
    rw [List.getElem?_append_right (by rw [← h.1]; omega), ← h.1] at hy
    exact h'.2 _ x y hx hy
theorem contig_ge : ∀ (fs : List Field) (off tot : Nat), contig P off fs tot = true → off ≤ tot ∧ ∀ f ∈ fs, off ≤ f.offset := by
  intro fs
  induction fs with
  | nil => intro off tot h; simp [contig] at h; exact ⟨by omega, by simp⟩
  | cons f fs ih =>
    intro off tot h
    simp only [contig, Bool.and_eq_true, beq_iff_eq] at h
    obtain ⟨h1, h2⟩ := ih _ _ h.2
    refine ⟨by omega, fun g hg => ?_⟩
    simp only [List.mem_cons] at hg
    rcases hg with rfl | hg
    · omega
    · have := h2 g hg; omega
theorem fields_RC {n : Nat} {cs : List Value} : ∀ (fs : List Field) (off tot : Nat), contig P off fs tot = true → cs.length = tot →
    (∀ f ∈ fs, ∃ vs, RC w vs ((cs.drop f.offset).take (P.cellsOf f.type)) ∧ TyC P n f.type vs) →
    ∃ vs, RC w vs (cs.drop off) ∧ ∀ f ∈ fs, TyC P n f.type ((vs.drop (f.offset - off)).take (P.cellsOf f.type)) := by
  intro fs
  induction fs with
  | nil =>
    intro off tot h hl _
    simp [contig] at h
    refine ⟨[], ⟨by simp; omega, fun i v u hv => by simp at hv⟩, by simp⟩
  | cons f fs ih =>
    intro off tot h hl hf
    simp only [contig, Bool.and_eq_true, beq_iff_eq] at h
    obtain ⟨h1, h2⟩ := h
    obtain ⟨g1, g2⟩ := contig_ge _ _ _ h2
    obtain ⟨vs', r', t'⟩ := ih (off + P.cellsOf f.type) tot h2 hl (fun g hg => hf g (by simp [hg]))
    obtain ⟨vf, rf, tf⟩ := hf f (by simp)
    have hlen : ((cs.drop f.offset).take (P.cellsOf f.type)).length = P.cellsOf f.type := by simp; omega
    have hvl : vf.length = P.cellsOf f.type := by rw [rf.1, hlen]
    have e1 : cs.drop off = (cs.drop f.offset).take (P.cellsOf f.type) ++ cs.drop (off + P.cellsOf f.type) := by
      rw [h1, ← List.drop_drop, List.take_append_drop]
    refine ⟨vf ++ vs', by rw [e1]; exact rf.append r', fun g hg => ?_⟩
    simp only [List.mem_cons] at hg
    rcases hg with rfl | hg
    · rw [h1, Nat.sub_self, List.drop_zero, List.take_append_of_le_length (by omega), List.take_of_length_le (by omega)]
      exact tf
    · have := g2 g hg
      have e2 : (vf ++ vs').drop (g.offset - off) = vs'.drop (g.offset - (off + P.cellsOf f.type)) := by
        rw [List.drop_append, List.drop_of_length_le (by omega), List.nil_append, hvl]
        congr 1
        omega
      rw [e2]
      exact t' g hg
theorem array_RC {n : Nat} {e : TypeId} {cs : List Value} : ∀ (len : Nat), cs.length = len * P.cellsOf e → (∀ i, i < len → ∃ vs, RC w vs ((cs.drop (i * P.cellsOf e)).take (P.cellsOf e)) ∧ TyC P n e vs) →
    ∀ k, k ≤ len → ∃ vs, RC w vs (cs.take (k * P.cellsOf e)) ∧ ∀ i, i < k → TyC P n e ((vs.drop (i * P.cellsOf e)).take (P.cellsOf e)) := by
  intro len hl hf k
  induction k with
  | zero => intro _; exact ⟨[], ⟨by simp, fun i v u hv => by simp at hv⟩, fun i hi => by omega⟩
  | succ k ih =>
    intro hk
    obtain ⟨vs, r1, t1⟩ := ih (by omega)
    obtain ⟨vf, rf, tf⟩ := hf k (by omega)
    have hmul : (k + 1) * P.cellsOf e = k * P.cellsOf e + P.cellsOf e := Nat.succ_mul k _
    have hle : (k + 1) * P.cellsOf e ≤ len * P.cellsOf e := Nat.mul_le_mul_right _ hk
    have hvl : vs.length = k * P.cellsOf e := by rw [r1.1, List.length_take]; omega
    have hfl : vf.length = P.cellsOf e := by rw [rf.1, List.length_take, List.length_drop]; omega
    have e1 : cs.take ((k + 1) * P.cellsOf e) = cs.take (k * P.cellsOf e) ++ (cs.drop (k * P.cellsOf e)).take (P.cellsOf e) := by rw [hmul, List.take_add]
    refine ⟨vs ++ vf, by rw [e1]; exact r1.append rf, fun i hi => ?_⟩
    by_cases h : i = k
    · subst h
      rw [List.drop_append, List.drop_of_length_le (by omega), List.nil_append, hvl, Nat.sub_self, List.drop_zero, List.take_of_length_le (by omega)]
      exact tf
    · have hik : (i + 1) * P.cellsOf e ≤ k * P.cellsOf e := Nat.mul_le_mul_right _ (by omega)
      have h2 : (i + 1) * P.cellsOf e = i * P.cellsOf e + P.cellsOf e := Nat.succ_mul i _
      rw [List.drop_append_of_le_length (by omega), List.take_append_of_le_length (by rw [List.length_drop]; omega)]
      exact t1 i (by omega)
theorem list_choose {α : Type} {Q : Nat → α → Prop} : ∀ (n : Nat), (∀ i, i < n → ∃ x, Q i x) → ∃ l : List α, l.length = n ∧ ∀ i x, l[i]? = some x → Q i x := by
  intro n
  induction n with
  | zero => intro _; exact ⟨[], rfl, fun i x h => by simp at h⟩
  | succ n ih =>
    intro h
    obtain ⟨l, h1, h2⟩ := ih (fun i hi => h i (by omega))
    obtain ⟨x, hx⟩ := h n (by omega)
    refine ⟨l ++ [x], by simp [h1], fun i y hy => ?_⟩
    by_cases hi : i < n
    · rw [List.getElem?_append_left (by omega)] at hy; exact h2 i y hy
    · rw [List.getElem?_append_right (by omega)] at hy
      have e : i - l.length = 0 := by
        have := (List.getElem?_eq_some_iff.1 hy).1
        simp at this; omega
      rw [e] at hy
      simp at hy
      subst hy
      have : i = n := by
        have : i - l.length = 0 := e
        omega
      subst this
      exact hx
theorem TyC_leaf {n : Nat} {t : TypeId} {vs : List V} (h : TyC P n t vs) (ha : aggTy (P.underlying t) = false) : ∃ v, vs = [v] ∧ v.cells = [v] := by
  cases n with
  | zero => cases h
  | succ n =>
    unfold TyC at h
    split at h
    · obtain ⟨b, rfl⟩ := h; exact ⟨_, rfl, rfl⟩
    · obtain ⟨b, rfl, _⟩ := h; exact ⟨_, rfl, rfl⟩
    · obtain ⟨b, rfl, _⟩ := h; exact ⟨_, rfl, rfl⟩
    · obtain ⟨b, rfl, _⟩ := h; exact ⟨_, rfl, rfl⟩
    · rename_i hu; rw [hu] at ha; cases ha
    · rename_i hu; rw [hu] at ha; cases ha
    · cases h
theorem trod_RC : ∀ (n fuel : Nat) (t : TypeId) (cs : List Value) (x : DataW H × List MemPlace), okT P n t = true → DataW.trod enc P w 0 spare true fuel t cs = some x → ∃ vs, RC w vs cs ∧ TyC P n t vs := by
  intro n
  induction n with
  | zero => intro fuel t cs x h; cases h
  | succ n ih =>
    intro fuel t cs x hok h
    unfold okT at hok
    split at hok
    · rename_i hu
      obtain ⟨b, rfl, _⟩ := DataW.trod_bool hu h
      exact ⟨[.bool b], RC.one rfl .bool, by unfold TyC; rw [hu]; exact ⟨b, rfl⟩⟩
    · rename_i k hu
      obtain ⟨m, rfl, _, hw⟩ := DataW.trod_int hu h
      exact ⟨[.int k m], RC.one rfl .int, by unfold TyC; rw [hu]; exact ⟨m, rfl, hw⟩⟩
    · rename_i hu
      obtain ⟨s, rfl, _, hs⟩ := DataW.trod_string hu h
      exact ⟨[.str s.data.toList], RC.one rfl .str, by unfold TyC; rw [hu]; exact ⟨_, rfl, by have h1 : s.data.size ≤ maxLen := hs; rw [Array.length_toList]; exact h1⟩⟩
    · rename_i e hu
      simp only [Bool.and_eq_true, decide_eq_true_eq] at hok
      obtain ⟨hoke, hpos⟩ := hok
      rcases DataW.trod_slice hu h with ⟨rfl, _⟩ | ⟨a, len, cap, elems, rest, fu, _, rfl, _, hb, hlc, hcm, hel, hread, _⟩
      · exact ⟨[.sl []], RC.one rfl .sl0, by unfold TyC; rw [hu]; exact ⟨[], rfl, by simp, by simp⟩⟩
      · have each : ∀ i, i < len → ∃ x : V, ∃ ci : List Value, w.cells? 0 (a.add (i * P.cellsOf e)) (P.cellsOf e) = some ci ∧ RC w x.cells ci ∧ TyC P n e x.cells ∧ (if aggTy (P.underlying e) then ∃ cs, x = .agg cs else x.cells = [x]) := by
          intro i hi
          have hr := hread i hi
          have : elems[i]? = some elems[i] := List.getElem?_eq_getElem (by omega)
          rw [this, Option.bind_eq_some_iff] at hr
          obtain ⟨ci, h1, h2⟩ := hr
          obtain ⟨vs, r1, r2⟩ := ih fu e ci _ hoke h2
          by_cases hag : aggTy (P.underlying e) = true
          · exact ⟨.agg vs, ci, h1, r1, r2, by rw [if_pos hag]; exact ⟨vs, rfl⟩⟩
          · have hag' : aggTy (P.underlying e) = false := by simpa using hag
            obtain ⟨v, rfl, hv⟩ := TyC_leaf r2 hag'
            exact ⟨v, ci, h1, by rw [hv]; exact r1, by rw [hv]; exact r2, by rw [if_neg (by simp [hag'])]; exact hv⟩
        obtain ⟨l, hll, hlq⟩ := list_choose len each
        have hT : TyC P (n + 1) t [.sl l] := by
          unfold TyC
          rw [hu]
          refine ⟨l, rfl, by omega, fun x hx => ?_⟩
          obtain ⟨i, hi⟩ := List.getElem?_of_mem hx
          obtain ⟨ci, _, _, h3, h4⟩ := hlq i x hi
          exact ⟨h3, h4⟩
        refine ⟨[.sl l], RC.one rfl ?_, hT⟩
        by_cases h0 : len = 0
        · have : l = [] := List.eq_nil_of_length_eq_zero (by omega)
          subst this
          subst h0
          exact .sl0
        · have hx0 : l[0]? = some l[0] := List.getElem?_eq_getElem (by omega)
          obtain ⟨c0, q1, q2, q3, q4⟩ := hlq 0 _ hx0
          obtain ⟨_, q5, q6⟩ := World.cells?_some q1
          have hc0 := q6 0 hpos
          rw [List.getElem?_eq_getElem (by omega)] at hc0
          have hspot := World.cell?_spot hc0
          obtain ⟨g, b, spot⟩ := a
          have : spot = none := by simpa [Addr.add] using hspot
          subst this
          have hg : g < w.heap.size := by
            have := World.cells?_block q1 hpos
            simpa [Addr.add] using this
          subst hll
          refine VR.sl (sz := P.cellsOf e) (fun k i => (w.cell? ⟨g, b + (k * P.cellsOf e + i), none⟩).getD default) hlc hpos (fun k x hk => ?_) (fun k x i y hk hy => ?_) (fun k x i y hk hy => ?_)
          · obtain ⟨ck, r1, r2, _⟩ := hlq k x hk
            rw [r2.1, (World.cells?_some r1).2.1]
          · obtain ⟨ck, r1, r2, _⟩ := hlq k x hk
            obtain ⟨_, s1, s2⟩ := World.cells?_some r1
            have hi : i < P.cellsOf e := by rw [← s1, ← r2.1]; exact (List.getElem?_eq_some_iff.1 hy).1
            have hcell := s2 i hi
            have hck : ck[i]? = some ck[i] := List.getElem?_eq_getElem (by omega)
            rw [hck] at hcell
            have e1 : ((⟨g, b, none⟩ : Addr).add (k * P.cellsOf e)).add i = ⟨g, b + (k * P.cellsOf e + i), none⟩ := by rw [Addr.add_lit, Addr.add_lit, Nat.add_assoc]
            rw [e1] at hcell
            exact ⟨(r2.2 i y _ hy hck).1, hg, by rw [hcell]; rfl⟩
          · obtain ⟨ck, r1, r2, _⟩ := hlq k x hk
            obtain ⟨_, s1, s2⟩ := World.cells?_some r1
            have hi : i < P.cellsOf e := by rw [← s1, ← r2.1]; exact (List.getElem?_eq_some_iff.1 hy).1
            have hcell := s2 i hi
            have hck : ck[i]? = some ck[i] := List.getElem?_eq_getElem (by omega)
            rw [hck] at hcell
            have e1 : ((⟨g, b, none⟩ : Addr).add (k * P.cellsOf e)).add i = ⟨g, b + (k * P.cellsOf e + i), none⟩ := by rw [Addr.add_lit, Addr.add_lit, Nat.add_assoc]
            rw [e1] at hcell
            simp only [hcell, Option.getD_some]
            exact (r2.2 i y _ hy hck).2
    · rename_i fs hu
      simp only [Bool.and_eq_true] at hok
      obtain ⟨hcon, hall⟩ := hok
      obtain ⟨xs, fu, _, _, hl, hlen, hf⟩ := DataW.trod_struct hu h
      have hfi : ∀ f ∈ fs.toList, ∃ vs, RC w vs ((cs.drop f.offset).take (P.cellsOf f.type)) ∧ TyC P n f.type vs := by
        intro f hfm
        obtain ⟨i, hi⟩ := List.getElem?_of_mem hfm
        have hi' : fs[i]? = some f := by simpa using hi
        have := hf i f hi'
        have hil : i < xs.length := by
          have := (Array.getElem?_eq_some_iff.1 hi').1
          omega
        have hx : xs[i]? = some xs[i] := List.getElem?_eq_getElem hil
        rw [hx] at this
        exact ih fu f.type _ _ (List.all_eq_true.1 hall f hfm) this
      obtain ⟨vs, r1, r2⟩ := fields_RC fs.toList 0 _ hcon hl hfi
      rw [List.drop_zero] at r1
      refine ⟨vs, r1, ?_⟩
      unfold TyC
      rw [hu]
      exact ⟨by rw [r1.1, hl], fun f hfm => by have := r2 f hfm; simpa using this⟩
    · rename_i len e hu
      simp only [Bool.and_eq_true, beq_iff_eq] at hok
      obtain ⟨hoke, hcs⟩ := hok
      obtain ⟨xs, fu, _, _, hl, hlen, hf⟩ := DataW.trod_array hu h
      rw [hcs] at hl
      have hfi : ∀ i, i < len → ∃ vs, RC w vs ((cs.drop (i * P.cellsOf e)).take (P.cellsOf e)) ∧ TyC P n e vs := by
        intro i hi
        have := hf i hi
        have hx : xs[i]? = some xs[i] := List.getElem?_eq_getElem (by omega)
        rw [hx] at this
        exact ih fu e _ _ hoke this
      obtain ⟨vs, r1, r2⟩ := array_RC len hl hfi len (Nat.le_refl _)
      rw [← hl, List.take_length] at r1
      refine ⟨vs, r1, ?_⟩
      unfold TyC
      rw [hu]
      exact ⟨by rw [r1.1, hl, hcs], r2⟩
    · cases hok
end
theorem same_of_heap {W W' : World} (h : ∀ g, g < W.heap.size → W'.heap[g]? = W.heap[g]?) {p : MemPlace} (hp : p.block < W.heap.size) : W.sameAt W' p := by
  cases p with
  | cell b off => exact World.cell?_of_block (a := ⟨b, off, none⟩) (h b hp)
  | map b => exact h b hp
theorem kept_of_heap {W W' : World} {may : MemPlace → Prop} (ho : W'.os = W.os) (hout : W'.output = W.output) (h : ∀ g, g < W.heap.size → W'.heap[g]? = W.heap[g]?) : W.keptBut W' may := by
  refine ⟨ho, hout, fun i hi => ?_⟩
  rw [h i hi]
  have : W.heap[i]? = some W.heap[i] := Array.getElem?_eq_getElem hi
  rw [this]
  cases W.heap[i] <;> simp
section
variable {H : Type} {enc : TypeId × Value → H} {P : Program}
theorem TrodAll_stays (hl : laidOutB P = true) {W W' : World} {sp' : Nat → Bool} (hsz : ∀ g, g < W.heap.size → W'.heap[g]? = W.heap[g]?) : ∀ {ts : List TypeId} {vs : List Value} {ds : List (DataW H)} {ps : List MemPlace}, (∀ t ∈ ts, P.readableRec t = true ∧ t < P.types.size) →
    DataW.TrodAll enc P W 0 (fun _ => true) true ts vs ds ps → (∀ p ∈ ps, p.block < W.heap.size) → (∀ p ∈ ps, sp' p.block = true) → DataW.TrodAll enc P W' 0 sp' true ts vs ds ps
  | [], [], [], _, _, h, _, _ => h
  | t :: ts, v :: vs, d :: ds, _, hT, ⟨p, q, h1, h2, e⟩, hlt, hs => by
    subst e
    exact ⟨p, q, WideElems.Trod_stays hl (hT t (by simp)).1 (hT t (by simp)).2 h1 (fun x hx => same_of_heap hsz (hlt x (by simp [hx]))) (fun x hx => hs x (by simp [hx])),
      TrodAll_stays hl hsz (fun t ht => hT t (by simp [ht])) h2 (fun x hx => hlt x (by simp [hx])) (fun x hx => hs x (by simp [hx])), rfl⟩
end
end Go.Lite