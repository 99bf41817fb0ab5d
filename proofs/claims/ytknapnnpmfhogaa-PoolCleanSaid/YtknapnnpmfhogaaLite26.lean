/-
  A law of plain data: from its run by the interpreter to the row's contract.
-/
import Derived.Test.YtknapnnpmfhogaaLite25
import Derived.ChangeCalls
namespace Go.Lite
open Go Go.ChangeShapes Go.WideShapes Go.RowKit
def ArgT (P : Program) (n : Nat) (t : TypeId) (x : V) : Prop := TyC P n t x.cells ∧ (if aggTy (P.underlying t) then ∃ cs, x = .agg cs else x.cells = [x])
def ArgsT (P : Program) (n : Nat) : List TypeId → List V → Prop
  | [], [] => True
  | t :: ts, x :: xs => ArgT P n t x ∧ ArgsT P n ts xs
  | _, _ => False
theorem ArgT.agg {P : Program} {n : Nat} {t : TypeId} {x : V} (h : ArgT P n t x) (ha : aggTy (P.underlying t) = true) : ∃ cs, x = .agg cs := by
  have := h.2; rwa [if_pos ha] at this
theorem ArgT.leaf {P : Program} {n : Nat} {t : TypeId} {x : V} (h : ArgT P n t x) (ha : aggTy (P.underlying t) = false) : x.cells = [x] := by
  have := h.2; rwa [if_neg (by simp [ha])] at this
section
variable {H : Type} {enc : TypeId × Value → H} {P : Program} {w : World} {spare : Nat → Bool}
theorem arg_VR {n base : Nat} {t : TypeId} {v : Value} {d : DataW H} {p : List MemPlace} (hok : okT P n t = true) (hval : Value.okWide P w .any base t v)
    (h : DataW.Trod enc P w 0 spare true t v d p) : ∃ x, VR (Zall w) w j0 x v ∧ ArgT P n t x := by
  obtain ⟨fuel, hf⟩ := h
  obtain ⟨vs, r, ty⟩ := trod_RC n fuel t _ _ hok hf
  have leaf : aggTy (P.underlying t) = false → v.cells.toList = [v] → ∃ x, VR (Zall w) w j0 x v ∧ ArgT P n t x := by
    intro ha hc
    obtain ⟨x, rfl, hx⟩ := TyC_leaf ty ha
    refine ⟨x, (r.2 0 x v rfl (by rw [hc]; rfl)).2, by rw [hx]; exact ty, by rw [if_neg (by simp [ha])]; exact hx⟩
  cases n with
  | zero => cases hok
  | succ n =>
    have hok' := hok
    unfold okT at hok
    split at hok
    · rename_i hu; obtain ⟨b, rfl⟩ := okWide_bool hu hval; exact leaf (by rw [hu]; rfl) rfl
    · rename_i k hu; obtain ⟨b, rfl⟩ := okWide_int hu hval; exact leaf (by rw [hu]; rfl) rfl
    · rename_i hu; obtain ⟨b, rfl⟩ := okWide_string hu hval; exact leaf (by rw [hu]; rfl) rfl
    · rename_i e hu; obtain ⟨a, l, c, rfl⟩ := okWide_slice hu hval; exact leaf (by rw [hu]; rfl) rfl
    · rename_i fs hu
      simp only [Value.okWide, hu] at hval
      obtain ⟨cs, rfl, _, _⟩ := hval
      have e : (Value.agg cs) = .agg (cs.toList).toArray := by simp
      refine ⟨.agg vs, ?_, ?_, ?_⟩
      · rw [e]; exact .agg r.1 fun i c u hc hu => (r.2 i c u hc hu).2
      · exact ty
      · rw [hu]; exact ⟨vs, rfl⟩
    · rename_i len e hu
      simp only [Value.okWide, hu] at hval
      obtain ⟨cs, rfl, _, _⟩ := hval
      have e : (Value.agg cs) = .agg (cs.toList).toArray := by simp
      refine ⟨.agg vs, ?_, ?_, ?_⟩
      · rw [e]; exact .agg r.1 fun i c u hc hu => (r.2 i c u hc hu).2
      · exact ty
      · rw [hu]; exact ⟨vs, rfl⟩
    · cases hok
theorem args_VRs {n base : Nat} : ∀ {ts : List TypeId} {vs : List Value} {ds : List (DataW H)} {ps : List MemPlace}, (ts.all (okT P n)) = true → (∀ (j : Nat) t v, ts[j]? = some t → vs[j]? = some v → Value.okWide P w .any base t v) →
    DataW.TrodAll enc P w 0 spare true ts vs ds ps → ∃ xs, VRs (Zall w) w j0 xs vs ∧ ArgsT P n ts xs
  | [], [], [], _, _, _, _ => ⟨[], ⟨rfl, fun i v u hv => by simp at hv⟩, trivial⟩
  | t :: ts, v :: vs, d :: ds, _, hok, hval, ⟨p, q, h1, h2, _⟩ => by
    simp only [List.all_cons, Bool.and_eq_true] at hok
    obtain ⟨x, hx, tx⟩ := arg_VR hok.1 (hval 0 t v rfl rfl) h1
    obtain ⟨xs, hxs, txs⟩ := args_VRs hok.2 (fun j t v hj hv => hval (j + 1) t v (by simpa using hj) (by simpa using hv)) h2
    refine ⟨x :: xs, ⟨by simp [hxs.1], fun i a b ha hb => ?_⟩, tx, txs⟩
    cases i with
    | zero => simp at ha hb; subst ha; subst hb; exact hx
    | succ i => exact hxs.2 i a b (by simpa using ha) (by simpa using hb)
end
theorem VR_bool {Z : Zs} {w : World} {j : J} {b : Bool} {u : Value} (h : VR Z w j (.bool b) u) : u = .bool b := by cases h; rfl
theorem law_contract {cfg : Cfg} (hc : CfgOK cfg) {f : FuncId} {fn : Func} (n : Nat) (hok : fnOk cfg.P f = true) (hlaid : laidOutB cfg.P = true) {s : ChangeSpec} (hvars : s.vars = [])
    (hts : (fn.params.toList.all fun t => okT cfg.P n t && cfg.P.readableRec t && decide (t < cfg.P.types.size)) = true) {tb : TypeId} (hres : fn.resultTypes = #[tb]) (htb : cfg.P.underlying tb = some .bool)
    (hspec : ∀ (H : Type) (ds : List (DataW H)), ds.length = fn.params.toList.length → s.fn H ds = { results := [.lit (.bool true)], args := ds })
    (law : ∀ xs, ArgsT cfg.P n fn.params.toList xs → pcW cfg f xs = some (.bool true))
    {H : Type} {enc : TypeId × Value → H} {apart fresh handsOn : Bool} (W : World) (base : Nat) (args : Array Value) (ds gs : List (DataW H)) (before : List MemPlace)
    (hval : ∀ (j : Nat) t v, fn.params[j]? = some t → args[j]? = some v → Value.okWide cfg.P W .any base t v)
    (hW : DataW.Whole enc cfg.P fn.params.toList s.vars apart W args.toList ds gs before) :
    Calls cfg.P f args W fun e W' => ∃ v, e = .returned v ∧ s.post enc cfg.P fn apart fresh handsOn false W args v W' := by
  have hW' := hW
  obtain ⟨p, q, hA, hV, hb, hfz, hnd⟩ := hW
  rw [hvars] at hV
  obtain ⟨hg, hq⟩ := trodVars_none hV
  subst hg; subst hq
  simp only [List.append_nil] at hb
  subst hb
  simp only [List.all_eq_true, Bool.and_eq_true, decide_eq_true_eq] at hts
  obtain ⟨xs, hx, ht⟩ := args_VRs (P := cfg.P) (n := n) (base := base) (List.all_eq_true.2 fun t h => (hts t h).1.1) (fun j t v hj hv => hval j t v (by simpa using hj) (by simpa using hv)) hA
  obtain ⟨m, hm⟩ := pcW_ex (law xs ht)
  have := (callN_sound hc m).1 f xs _ hm hok (Zall W) W args.toList (fun g o h => h) hx
  rw [Array.toArray_toList] at this
  refine this.mono fun e W1 ⟨u, Z1, he, hr, hs⟩ => ?_
  have hu : u = .bool true := VR_bool hr
  subst hu
  refine ⟨_, he, ds, [], before, [], before, [], hW', ?_, ?_, ?_, ?_, fun h => by cases h⟩
  · rw [hspec H (ds ++ []) (by simpa using (Go.trodAll_length hA).2), hres]
    exact trodAll_mk1 (shut_bool htb true)
  · rw [hspec H (ds ++ []) (by simpa using (Go.trodAll_length hA).2)]
    simp only [List.append_nil]
    exact TrodAll_stays hlaid (fun g h => (hs.keep g h).1) (fun t h => ⟨(hts t h).1.2, (hts t h).2⟩) hA (fun x h => hW'.lt x h) (fun x h => by simpa using hW'.lt x h)
  · rw [hspec H (ds ++ []) (by simpa using (Go.trodAll_length hA).2), hvars]
    exact rfl
  · exact kept_of_heap hs.os hs.output fun g h => (hs.keep g h).1
end Go.Lite