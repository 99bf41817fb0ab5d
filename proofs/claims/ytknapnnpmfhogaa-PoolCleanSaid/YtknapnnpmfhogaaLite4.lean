/-
  The interpreter's operations on plain values: each one is what the model's operation does.
-/
import Derived.Test.YtknapnnpmfhogaaLite3
import Derived.Laws.BytesArg
namespace Go.Lite
open Go
section
variable {P : Program} {Z Z' : Zs} {w w' : World} {j j' : J} {mem mem' : List O}
def OpOK (P : Program) (Post : Value → World → Prop) : Result Next → Prop
  | .ok (.value u) w' => Post u w'
  | .ok .skip w' => Post undef w'
  | .ok (.enter f args) w' => Calls P f args w' fun e w'' => ∃ u, e = .returned u ∧ Post u w''
  | _ => False
def PostOf (P : Program) (Z : Zs) (w : World) (j : J) (mem : List O) (v : V) (mem' : List O) (u : Value) (w' : World) : Prop :=
  ∃ Z' j', VR Z' w' j' v u ∧ SR P Z' w' j' mem' ∧ Stp Z w j mem Z' w' j' mem' ∧ JExt j j'
theorem OpOK.upon {o : Oper} {a : Act} {next : Act → World → Prop} {Q : Exit → Act → World → Prop} {Post : Value → World → Prop} {r : Result Next}
    (h : OpOK P Post r) (hn : ∀ u w', Post u w' → next (a.put o.dst u) w') : o.upon P a next Q r := by
  cases r with
  | ok x w1 =>
    cases x <;> first | exact h.elim | skip
    case value u => exact hn _ _ h
    case skip => exact hn _ _ h
    case enter f args => exact Calls.mono h fun e w'' ⟨u, he, hp⟩ => by subst he; exact hn _ _ hp
  | halt x w1 => exact h.elim
theorem post_refl (s : SR P Z w j mem) {v : V} {u : Value} (hv : VR Z w j v u) : PostOf P Z w j mem v mem u w :=
  ⟨Z, j, hv, s, Stp.refl _ _ _ _, JExt.refl _⟩
theorem constV_sound {c : Value} {v : V} (h : constV c = some v) : VR Z w j v c := by
  unfold constV at h
  split at h <;> first | (cases h; constructor; done) | skip
  · rename_i vs
    split at h
    · rename_i he
      cases h
      have e : vs = ([] : List Value).toArray := by simpa using he
      rw [e]
      exact .tup rfl fun i c u hc => by simp at hc
    · cases h
  · cases h
theorem arith_sound {op : BinOp} {k : IntKind} {a b : Int} {v : V} (X Y : Operand) (t : TypeId) (hs : op ≠ .shl) (hs' : op ≠ .shr) (h : arith op k a b = some v) :
    ∃ u, (do eqGuard op t X Y (.int k a) (.int k b); binOp op t (.int k a) (.int k b) : Sem Value).run P w = .ok u w ∧ VR Z w j v u := by
  cases op <;> simp [arith] at h hs hs' <;>
    first
    | (subst h; refine ⟨_, ?_, .int⟩; simp [eqGuard, binOp, Op.intArith, Op.intBits]; done)
    | (subst h; refine ⟨_, ?_, .bool⟩; simp [eqGuard, binOp, Op.intCmp]; done)
    | (obtain ⟨hb, rfl⟩ := h; refine ⟨_, ?_, .int⟩; simp [eqGuard, binOp, Op.intDiv, hb]; done)
theorem toList_size (s : ByteArray) : s.data.toList.length = s.size := rfl
theorem toList_data (s : ByteArray) : s.toList = s.data.toList := Go.ByteArray.toList_eq s
theorem string_sound {op : BinOp} {a b : ByteArray} {v : V} (X Y : Operand) (t : TypeId) (h : stringA op a.data.toList b.data.toList = some v) :
    ∃ u, (do eqGuard op t X Y (.string a) (.string b); binOp op t (.string a) (.string b) : Sem Value).run P w = .ok u w ∧ VR Z w j v u := by
  cases op <;> simp [stringA] at h <;>
    first
    | (subst h; refine ⟨_, ?_, .bool⟩; simp [eqGuard, binOp, Op.stringOp, toList_data]; done)
    | skip
  obtain ⟨hb, rfl⟩ := h
  refine ⟨.string (a ++ b), ?_, ?_⟩
  · have : ¬ (((a.size + b.size : Nat) : Int) > IntKind.i64.max) := by
      have e : IntKind.i64.max = 9223372036854775807 := by decide
      rw [e]
      have h1 : a.data.size = a.size := rfl
      have h2 : b.data.size = b.size := rfl
      omega
    simp only [eqGuard, binOp, Op.stringOp, Sem.run_bind, Sem.run_pure, if_neg this]
    simp [Sem.run_pure]
  · have e : a.data.toList ++ b.data.toList = (a ++ b).data.toList := by simp
    rw [e]
    exact .str
theorem eqTy_sound {t : TypeId} {a b : V} {u v : Value} {r : Bool} (d : Nat) (h : eqTy (P.underlying t) a b = some r) (ha : VR Z w j a u) (hb : VR Z w j b v) :
    (Op.equalIn (d + 1) t u v).run P w = .ok r w := by
  cases hu : P.underlying t with
  | none => simp [hu, eqTy] at h
  | some dd =>
    rw [hu] at h
    cases ha <;> cases hb <;> cases dd <;> simp [eqTy] at h
    · subst h; exact run_equalIn_bool' w d t _ _ hu
    · obtain ⟨rfl, rfl⟩ := h; exact run_equalIn_int w d t _ _ _ _ hu
    · rw [run_equalIn_string w d t _ _ hu, toList_data, toList_data, ← h]
      simp
def isAggD : TypeDesc → Bool
  | .struct _ | .array _ _ => true
  | _ => false
theorem eqTy_plain {t : TypeId} {a b : V} {r : Bool} (h : eqTy (P.underlying t) a b = some r) : ∃ d, P.underlying t = some d ∧ isAggD d = false := by
  cases hu : P.underlying t with
  | none => simp [hu, eqTy] at h
  | some d =>
    refine ⟨d, rfl, ?_⟩
    rw [hu] at h
    cases d <;> first | rfl | (simp [eqTy] at h)
theorem run_part_one {t : TypeId} {d : TypeDesc} {cs : Array Value} {off : Nat} {u : Value} (hu : P.underlying t = some d) (hd : isAggD d = false) (hc : cs[off]? = some u) :
    (part t cs off).run P w = .ok u w := by
  cases d <;> first | (simp [isAggD] at hd; done) | simp [part, isAgg, run_underlying hu, hc]
theorem eqFields_sound (d : Nat) {xs ys : List Value} : ∀ (fs : List Field) (i : Nat) (cs ds : List V) (r : Bool),
    (fs.zipIdx i).all (fun x => x.1.name != "_" && x.1.offset == x.2) = true → eqL P (fs.map (·.type)) cs ds = some r →
    (∀ k c, cs[k]? = some c → ∃ u, xs[i + k]? = some u ∧ VR Z w j c u) → (∀ k c, ds[k]? = some c → ∃ u, ys[i + k]? = some u ∧ VR Z w j c u) →
    (Op.eqFields (d + 1) xs.toArray ys.toArray fs).run P w = .ok r w := by
  intro fs
  induction fs with
  | nil =>
    intro i cs ds r _ h _ _
    cases cs <;> cases ds <;> simp [eqL] at h
    subst h
    simp [Op.eqFields]
  | cons f fs ih =>
    intro i cs ds r hall h hx hy
    cases cs with
    | nil => simp [eqL] at h
    | cons a cs =>
      cases ds with
      | nil => simp [eqL] at h
      | cons b ds =>
        simp only [List.zipIdx_cons, List.all_cons, Bool.and_eq_true, bne_iff_ne, beq_iff_eq] at hall
        obtain ⟨⟨hn, ho⟩, hall⟩ := hall
        simp only [List.map_cons, eqL] at h
        cases h1 : eqTy (P.underlying f.type) a b with
        | none => simp [h1] at h
        | some e =>
          cases h2 : eqL P (fs.map (·.type)) cs ds with
          | none => simp [h1, h2] at h
          | some e2 =>
            simp [h1, h2] at h
            obtain ⟨u, hu, hau⟩ := hx 0 a rfl
            obtain ⟨v, hv, hbv⟩ := hy 0 b rfl
            obtain ⟨dd, hdd, hpl⟩ := eqTy_plain h1
            have p1 := run_part_one (P := P) (w := w) (cs := xs.toArray) (off := i) hdd hpl (by simpa using hu)
            have p2 := run_part_one (P := P) (w := w) (cs := ys.toArray) (off := i) hdd hpl (by simpa using hv)
            have p3 := eqTy_sound (w := w) d h1 hau hbv
            have ihh := ih (i + 1) cs ds e2 hall h2 (fun k c hk => by have := hx (k + 1) c (by simpa using hk); rwa [show i + (k + 1) = i + 1 + k by omega] at this)
              (fun k c hk => by have := hy (k + 1) c (by simpa using hk); rwa [show i + (k + 1) = i + 1 + k by omega] at this)
            simp only [Op.eqFields, hn, ne_eq, not_false_eq_true, if_true, Sem.run_bind, ho, p1, p2, p3, Result.andThen_ok]
            cases e
            · simp at h; subst h; simp
            · simp at h; subst h; simpa using ihh
theorem struct_sound {op : BinOp} {t : TypeId} {x y v : V} {cs ds : List V} {u u' : Value} (X Y : Operand) (hx : x = .agg cs) (hy : y = .agg ds) (h : binB P op t x y = some v) (hu : VR Z w j x u) (hu' : VR Z w j y u') :
    ∃ r, (do eqGuard op t X Y u u'; binOp op t u u' : Sem Value).run P w = .ok r w ∧ VR Z w j v r := by
  subst hx hy
  cases hu with
  | agg hl hc =>
    cases hu' with
    | agg hl' hc' =>
      rename_i xs ys
      simp only [binB] at h
      split at h
      · rename_i hp
        unfold plainStruct at hp
        cases hd : P.underlying t with
        | none => simp [hd] at hp
        | some dd =>
          cases dd <;> simp only [hd] at hp <;> first | (cases hp; done) | skip
          rename_i fs
          simp only [Bool.and_eq_true, Bool.not_eq_true'] at hp
          obtain ⟨⟨hg, hst⟩, hall⟩ := hp
          have hfo : P.fieldsOf t = fs := by simp [Program.fieldsOf, hd]
          have hft : fieldTys P t = fs.toList.map (·.type) := by simp [fieldTys, hd]
          rw [hft] at h
          have key : ∀ r, eqL P (fs.toList.map (·.type)) cs ds = some r → (Op.equalIn 10000 t (.agg xs.toArray) (.agg ys.toArray)).run P w = .ok r w := by
            intro r hr
            rw [run_equalIn_struct w 9999 t xs.toArray ys.toArray (by rw [hfo]; exact hd) hst, hfo]
            refine eqFields_sound (Z := Z) (j := j) 9998 fs.toList 0 cs ds r (by simpa using hall) hr (fun k c hk => ?_) (fun k c hk => ?_)
            · have hkl : k < cs.length := (List.getElem?_eq_some_iff.1 hk).1
              exact ⟨xs[k]'(by omega), by simp, hc k c _ hk (List.getElem?_eq_getElem (by omega))⟩
            · have hkl : k < ds.length := (List.getElem?_eq_some_iff.1 hk).1
              exact ⟨ys[k]'(by omega), by simp, hc' k c _ hk (List.getElem?_eq_getElem (by omega))⟩
          cases hr : eqL P (fs.toList.map (·.type)) cs ds with
          | none => cases op <;> simp [hr] at h
          | some r =>
            have hk := key r hr
            have hgd := run_eqGuard_agg (P := P) w op t X Y xs.toArray ys.toArray hg
            cases op <;> simp [hr] at h
            · subst h
              exact ⟨_, by rw [Sem.run_bind, hgd, Result.andThen_ok, run_eql_struct, hk, Result.andThen_ok], .bool⟩
            · subst h
              exact ⟨_, by rw [Sem.run_bind, hgd, Result.andThen_ok, run_neq_struct, hk, Result.andThen_ok], .bool⟩
      · cases h
theorem binB_sound {op : BinOp} {t : TypeId} {x y v : V} {u u' : Value} (X Y : Operand) (h : binB P op t x y = some v) (hx : VR Z w j x u) (hy : VR Z w j y u') :
    ∃ r, (do eqGuard op t X Y u u'; binOp op t u u' : Sem Value).run P w = .ok r w ∧ VR Z w j v r := by
  cases x with
  | agg cs =>
    cases y with
    | agg ds => exact struct_sound X Y rfl rfl h hx hy
    | _ => simp [binB] at h
  | int k a =>
    cases y with
    | int k' b =>
      cases hx; cases hy
      by_cases hs : op = .shl
      · subst hs
        simp [binB] at h
        obtain ⟨hb, rfl⟩ := h
        have : ¬ b < 0 := by omega
        exact ⟨_, by simp [eqGuard, binOp, Op.shift, this], .int⟩
      · by_cases hs' : op = .shr
        · subst hs'
          simp [binB] at h
          obtain ⟨hb, rfl⟩ := h
          have : ¬ b < 0 := by omega
          exact ⟨_, by simp [eqGuard, binOp, Op.shift, this], .int⟩
        · by_cases hk : k = k'
          · subst hk
            have h' : arith op k a b = some v := by
              cases op <;> first | (simpa [binB] using h) | exact (hs rfl).elim | exact (hs' rfl).elim
            exact arith_sound X Y t hs hs' h'
          · cases op <;> first | (simp [binB, hk] at h; done) | exact (hs rfl).elim | exact (hs' rfl).elim
    | _ => simp [binB] at h
  | str a =>
    cases y with
    | str b =>
      cases hx; cases hy
      exact string_sound X Y t (by simpa [binB] using h)
    | _ => simp [binB] at h
  | bool a =>
    cases y with
    | bool b =>
      cases hx; cases hy
      cases hd : P.underlying t with
      | none => simp [binB, hd] at h
      | some d =>
        cases d <;> simp [binB, hd] at h
        have e := run_equalIn_bool' (P := P) w 9999 t a b hd
        cases op <;> simp at h
        · subst h
          exact ⟨.bool (a == b), by simp [eqGuard, binOp, Op.equal, Op.maxDepth, e], .bool⟩
        · subst h
          exact ⟨.bool (!(a == b)), by simp [eqGuard, binOp, Op.equal, Op.maxDepth, e], .bool⟩
    | _ => simp [binB] at h
  | _ => simp [binB] at h
theorem nilEq_sound {t : TypeId} {x y : V} {u u' : Value} {b : Bool} (h : nilEq P t x y = some b) (hx : VR Z w j x u) (hy : VR Z w j y u') : (Op.equal t u u').run P w = .ok b w := by
  have key : ∀ d : Nat, (Op.equalIn (d + 1) t u u').run P w = .ok b w := by
    intro d
    unfold nilEq at h
    split at h
    · rename_i hu; cases h; cases hx; cases hy; simp [Op.equalIn, run_underlying hu]
    · rename_i hu; cases h; cases hx; cases hy; simp [Op.equalIn, run_underlying hu]
    · rename_i hu; cases h; cases hx; cases hy; simp [Op.equalIn, run_underlying hu]
    · rename_i hu; cases h; cases hx; cases hy; simp [Op.equalIn, run_underlying hu]
    · rename_i hu; cases h; cases hx; cases hy; simp [Op.equalIn, run_underlying hu]
    · rename_i hu; cases h; cases hx; cases hy; simp [Op.equalIn, run_underlying hu]
    · cases h
  exact key 9999
theorem bin_sound {op : BinOp} {t : TypeId} {x y v : V} {u u' : Value} (X Y : Operand) (h : binA P op t x y = some v) (hx : VR Z w j x u) (hy : VR Z w j y u') :
    ∃ r, (do eqGuard op t X Y u u'; binOp op t u u' : Sem Value).run P w = .ok r w ∧ VR Z w j v r := by
  unfold binA at h
  split at h
  rotate_left
  · exact binB_sound X Y h hx hy
  rename_i hn
  have hy' : (∃ p, u' = .pointer p) ∨ u' = .nilFunc := by
    cases y <;> simp [nilish] at hn <;> cases hy
    · exact .inl ⟨_, rfl⟩
    · exact .inr rfl
  have hu : ∀ b, nilEq P t x y = some b → (∃ p, u = .pointer p) ∨ u = .nilFunc ∨ ∃ f a c, u = .func f a c := by
    intro b hb
    unfold nilEq at hb
    split at hb <;> first | (cases hb; done) | skip
    all_goals cases hx
    · exact .inl ⟨_, rfl⟩
    · exact .inl ⟨_, rfl⟩
    · exact .inl ⟨_, rfl⟩
    · exact .inl ⟨_, rfl⟩
    · exact .inr (.inl rfl)
    · exact .inr (.inr ⟨_, _, _, rfl⟩)
  cases op <;> simp only at h <;> first | (cases h; done) | skip
  · cases hb : nilEq P t x y with
    | none => simp [hb] at h
    | some b =>
      simp [hb] at h
      subst h
      have he := nilEq_sound hb hx hy
      refine ⟨.bool b, ?_, .bool⟩
      rcases hy' with ⟨p, rfl⟩ | rfl <;> rcases hu b hb with ⟨q, rfl⟩ | rfl | ⟨f, a, c, rfl⟩ <;> simp only [eqGuard, binOp, Sem.run_bind, Sem.run_pure, Result.andThen_ok, he, Bool.not_true, Bool.false_eq_true, if_false]
  · cases hb : nilEq P t x y with
    | none => simp [hb] at h
    | some b =>
      simp [hb] at h
      subst h
      have he := nilEq_sound hb hx hy
      refine ⟨.bool (!b), ?_, .bool⟩
      rcases hy' with ⟨p, rfl⟩ | rfl <;> rcases hu b hb with ⟨q, rfl⟩ | rfl | ⟨f, a, c, rfl⟩ <;> simp only [eqGuard, binOp, Sem.run_bind, Sem.run_pure, Result.andThen_ok, he, Bool.not_true, Bool.false_eq_true, if_false]
theorem un_sound {op : UnOp} {x v : V} {u : Value} (h : unA op x = some v) (hx : VR Z w j x u) : ∃ r, (Op.unary op u).run P w = .ok r w ∧ VR Z w j v r := by
  cases op <;> cases x <;> simp [unA] at h <;> first | (subst h; cases hx) | cases hx
  · exact ⟨.int _ _, by simp only [Op.unary, Op.intArith, Int.zero_sub]; rfl, .int⟩
  · simp only [arith, Option.some.injEq] at h
    subst h
    exact ⟨_, by simp [Op.unary, Op.intBits], .int⟩
  · exact ⟨.bool _, by simp only [Op.unary]; rfl, .bool⟩
theorem numsOf_get : ∀ {l : List V} {xs : List Int}, numsOf l = some xs → xs.length = l.length ∧ ∀ (i : Nat) (n : Int), xs[i]? = some n → l[i]? = some (.int .u8 n) := by
  intro l
  induction l with
  | nil => intro xs h; cases h; exact ⟨rfl, fun i n h => by simp at h⟩
  | cons x l ih =>
    intro xs h
    unfold numsOf at h
    split at h
    · rename_i e; cases e
    · rename_i n l' e
      cases e
      simp only [Option.map_eq_some_iff] at h
      obtain ⟨ys, h1, rfl⟩ := h
      obtain ⟨q1, q2⟩ := ih h1
      refine ⟨by simp [q1], fun i m hi => ?_⟩
      cases i with
      | zero => simp at hi; subst hi; rfl
      | succ i => exact q2 i m (by simpa using hi)
    · cases h
theorem text_sound {s d e : TypeId} {l : List V} {v : V} {A : Option Addr} {c : Nat} (hs : P.underlying s = some (.slice e)) (hd : P.underlying d = some .string) (h : textOf P e l = some v)
    (hel : l = [] ∨ ∃ g b sz, A = some ⟨g, b, none⟩ ∧ 0 < sz ∧ ∀ (k : Nat) (y : V), l[k]? = some y → y.cells.length = sz ∧ CellsAt Z w j0 g (b + k * sz) y.cells) :
    ∃ r, (convert s d (.slice A l.length c)).run P w = .ok r w ∧ VR Z w j v r := by
  unfold textOf at h
  split at h
  · rename_i he
    simp only [Option.map_eq_some_iff] at h
    obtain ⟨xs, h1, rfl⟩ := h
    obtain ⟨q1, q2⟩ := numsOf_get h1
    have key : (∀ a, A = some a → (loadCells a l.length).run P w = .ok (xs.map (Value.int .u8)).toArray w) → (A = none → l = []) → ∃ r, (convert s d (.slice A l.length c)).run P w = .ok r w ∧ VR Z w j (.str (xs.map fun n => UInt8.ofNat n.toNat)) r := by
      intro hl hn
      cases A with
      | none =>
        have e0 : l = [] := hn rfl
        have : xs = [] := List.eq_nil_of_length_eq_zero (by rw [q1, e0]; rfl)
        subst this
        exact ⟨_, run_convert_bytes_nil w s e hs he _ _ d hd, VR.str (s := ByteArray.empty)⟩
      | some a =>
        refine ⟨_, by rw [run_convert_bytes_string w s d e _ _ c hs he hd]; exact run_bytesToString w a _ c xs (hl a rfl), ?_⟩
        rw [foldl_push_bytes]
        have := VR.str (Z := Z) (w := w) (j := j) (s := (⟨ByteArray.empty.data ++ (xs.map fun n => UInt8.ofNat n.toNat).toArray⟩ : ByteArray))
        have e1 : (⟨ByteArray.empty.data ++ (xs.map fun n => UInt8.ofNat n.toNat).toArray⟩ : ByteArray).data.toList = xs.map fun n => UInt8.ofNat n.toNat := by
          show (ByteArray.empty.data ++ (xs.map fun n => UInt8.ofNat n.toNat).toArray).toList = _
          rw [show ByteArray.empty.data = #[] from rfl]
          simp
        rwa [e1] at this
    rcases hel with rfl | ⟨g, b, sz, rfl, hsz, hh⟩
    · have : xs = [] := List.eq_nil_of_length_eq_zero q1
      subst this
      exact key (fun a _ => run_loadCells_list (P := P) w a [] (fun j v hj => by simp at hj)) (fun _ => rfl)
    · refine key (fun a ha => ?_) (fun h => by cases h)
      cases ha
      have := run_loadCells_list (P := P) w ⟨g, b, none⟩ (xs.map (Value.int .u8)) (fun i u hi => by
        rw [List.getElem?_map] at hi
        cases hx : xs[i]? with
        | none => simp [hx] at hi
        | some n =>
          simp [hx] at hi
          subst hi
          obtain ⟨p1, p3⟩ := hh i _ (q2 i n hx)
          have e1 : sz = 1 := by rw [← p1]; rfl
          subst e1
          obtain ⟨_, u, hu, hv⟩ := p3 0 _ rfl
          cases hv
          rw [← hu]
          have e2 : (⟨g, b, none⟩ : Addr).add i = ⟨g, b + i, none⟩ := by unfold Addr.add; split <;> simp_all
          rw [e2, Nat.mul_one, Nat.add_zero])
      rw [List.length_map, q1] at this
      exact this
  · cases h
end
end Go.Lite