/-
  A body as a graph: from one loop's head to the next one, in the manner of continuations, so that the kernel can run it over values that are not known.
-/
import Derived.Test.YtknapnnpmfhogaaLite19
namespace Go.Lite
open Go
def LpC (cfg : Cfg) (n0 : Nat) (f : List Nat) (c : C) (t : S) (x : Ex) (s : S) : Prop :=
  ∀ s0, clean n0 f s0 = t → execW cfg n0 (.loop f c) s0 = some (x, s)
inductive Out where
  | head (i : Nat) (s : S)
  | done (v : V)
  | doneM (v : V) (m : List O)
abbrev R := Option Out
structure KC where
  cfg : Cfg
  frs : FuncId → Bool
  ik : FuncId → List V → List O → (V → List O → R) → R
  pv : FuncId → Option (List V → Option V) := fun _ => none
  ck : CM → FuncId → List V → List O → (V → List O → R) → R := fun _ _ _ _ _ => none
  pvok : ∀ f g as r, pv f = some g → g as = some r → pcW cfg f as = some r := by exact fun _ _ _ _ h => nomatch h
noncomputable def icC (cfg : Cfg) (rd : CM) (f : FuncId) (args : List V) (mem : List O) : Option (V × List O) := (icW cfg f args mem).map fun r => canNorm rd mem r.1 r.2
open Classical in
noncomputable def icM {α : Type} (cfg : Cfg) (rd : CM) (mk : α → V × List O) (f : FuncId) (args : List V) (mem : List O) (k : α → R) : R :=
  if h : ∃ L, icC cfg rd f args mem = some (mk L) then k (Classical.choose h) else none
theorem icM_some {α : Type} {cfg : Cfg} {rd : CM} {mk : α → V × List O} {f : FuncId} {args : List V} {mem : List O} {k : α → R} {r : Out} (h : icM cfg rd mk f args mem k = some r) : ∃ L, icC cfg rd f args mem = some (mk L) ∧ k L = some r := by
  unfold icM at h
  split at h
  · rename_i hx; exact ⟨_, Classical.choose_spec hx, h⟩
  · cases h
theorem icM_of {α : Type} {cfg : Cfg} {rd : CM} {mk : α → V × List O} {f : FuncId} {args : List V} {mem : List O} {k : α → R} (hi : ∀ L L', mk L = mk L' → L = L') {L : α} (h : icC cfg rd f args mem = some (mk L)) : icM cfg rd mk f args mem k = k L := by
  unfold icM
  have hx : ∃ L, icC cfg rd f args mem = some (mk L) := ⟨L, h⟩
  rw [dif_pos hx]
  have := (Classical.choose_spec hx).symm.trans h
  rw [hi _ _ (Option.some.inj this)]
def gd (b : Bool) (k : R) : R := cond b k none
def idxK {α : Type} (l : List α) (n : Nat) (k : α → R) : R := match l[n]? with | some x => k x | none => none
def kB (v : V) (k : Bool → R) : R := match v with | .bool b => k b | _ => none
def kI (j : IntKind) (v : V) (k : Int → R) : R := match v with | .int i n => cond (i == j) (k n) none | _ => none
def kS (v : V) (k : List UInt8 → R) : R := match v with | .str s => k s | _ => none
def kL (v : V) (k : List V → R) : R := match v with | .sl l => k l | _ => none
def kF (e : TypeId) (v : V) (k : List V → R) : R := match v with | .fr t l => cond (t == e) (k l) none | _ => none
def kA (v : V) (k : List V → R) : R := match v with | .agg l => k l | _ => none
def kT (v : V) (k : List V → R) : R := match v with | .tup l => k l | _ => none
def kP (e : TypeId) (v : V) (k : Nat → R) : R := match v with | .hp t i o => cond (t == e && Nat.beq o 0) (k i) none | _ => none
def kM (e : TypeId) (v : V) (k : Nat → R) : R := match v with | .hm t i => cond (t == e) (k i) none | _ => none
def unc (l : List V) (k : V → List V → R) : R := match l with | c :: cs => k c cs | [] => none
def unn (l : List V) (k : R) : R := match l with | [] => k | _ => none
def opt {α : Type} (o : Option α) (k : α → R) : R := match o with | some x => k x | none => none
noncomputable def pcK (cfg : Cfg) (f : FuncId) (as : List V) (k : V → R) : R := match pcW cfg f as with | some r => k r | none => none
noncomputable def pvK (kc : KC) (f : FuncId) (as : List V) (k : V → R) : R := match kc.pv f with | some g => (match g as with | some r => k r | none => none) | none => pcK kc.cfg f as k
def restK (l : List V) (kn : R) (ks : V → List V → R) : R := match l with | [] => kn | x :: l => ks x l
def wfl (c : Nat) (l : List V) : Bool := l.all fun y => y.cells.length == c
def mfK (es : List (V × V)) (key : V) (kn : R) (ks : V → R) : R := match mapFind es key with | some (some v) => ks v | some none => kn | none => none
section
variable {b : Bool} {k : R} {r : Out} {v : V}
theorem gd_some (h : gd b k = some r) : b = true ∧ k = some r := by
  cases b
  · cases h
  · exact ⟨rfl, h⟩
theorem cond_some {x y : R} (h : cond b x y = some r) : (b = true ∧ x = some r) ∨ (b = false ∧ y = some r) := by
  cases b
  · exact .inr ⟨rfl, h⟩
  · exact .inl ⟨rfl, h⟩
theorem idxK_some {α : Type} {l : List α} {n : Nat} {k : α → R} (h : idxK l n k = some r) : ∃ x, l[n]? = some x ∧ k x = some r := by
  unfold idxK at h
  split at h
  · rename_i x hx; exact ⟨x, hx, h⟩
  · cases h
theorem opt_some {α : Type} {o : Option α} {k : α → R} (h : opt o k = some r) : ∃ x, o = some x ∧ k x = some r := by
  cases o
  · cases h
  · exact ⟨_, rfl, h⟩
theorem kB_some {k : Bool → R} (h : kB v k = some r) : ∃ x, v = .bool x ∧ k x = some r := by
  cases v <;> first | (cases h; done) | exact ⟨_, rfl, h⟩
theorem kI_some {j : IntKind} {k : Int → R} (h : kI j v k = some r) : ∃ x, v = .int j x ∧ k x = some r := by
  cases v <;> first | (cases h; done) | skip
  rename_i i n
  rcases cond_some h with ⟨h1, h2⟩ | ⟨_, h2⟩
  · have : i = j := by simpa using h1
    subst this
    exact ⟨n, rfl, h2⟩
  · cases h2
theorem kS_some {k : List UInt8 → R} (h : kS v k = some r) : ∃ x, v = .str x ∧ k x = some r := by
  cases v <;> first | (cases h; done) | exact ⟨_, rfl, h⟩
theorem kL_some {k : List V → R} (h : kL v k = some r) : ∃ x, v = .sl x ∧ k x = some r := by
  cases v <;> first | (cases h; done) | exact ⟨_, rfl, h⟩
theorem kA_some {k : List V → R} (h : kA v k = some r) : ∃ x, v = .agg x ∧ k x = some r := by
  cases v <;> first | (cases h; done) | exact ⟨_, rfl, h⟩
theorem kT_some {k : List V → R} (h : kT v k = some r) : ∃ x, v = .tup x ∧ k x = some r := by
  cases v <;> first | (cases h; done) | exact ⟨_, rfl, h⟩
theorem kF_some {e : TypeId} {k : List V → R} (h : kF e v k = some r) : ∃ x, v = .fr e x ∧ k x = some r := by
  cases v <;> first | (cases h; done) | skip
  rename_i t n
  rcases cond_some h with ⟨h1, h2⟩ | ⟨_, h2⟩
  · have : t = e := by simpa using h1
    subst this
    exact ⟨n, rfl, h2⟩
  · cases h2
theorem kP_some {e : TypeId} {k : Nat → R} (h : kP e v k = some r) : ∃ i, v = .hp e i 0 ∧ k i = some r := by
  cases v <;> first | (cases h; done) | skip
  rename_i t i o
  rcases cond_some h with ⟨h1, h2⟩ | ⟨_, h2⟩
  · simp only [Bool.and_eq_true, beq_iff_eq, Nat.beq_eq] at h1
    obtain ⟨rfl, rfl⟩ := h1
    exact ⟨i, rfl, h2⟩
  · cases h2
theorem kM_some {e : TypeId} {k : Nat → R} (h : kM e v k = some r) : ∃ i, v = .hm e i ∧ k i = some r := by
  cases v <;> first | (cases h; done) | skip
  rename_i t i
  rcases cond_some h with ⟨h1, h2⟩ | ⟨_, h2⟩
  · have : t = e := by simpa using h1
    subst this
    exact ⟨i, rfl, h2⟩
  · cases h2
theorem unc_some {l : List V} {k : V → List V → R} (h : unc l k = some r) : ∃ c cs, l = c :: cs ∧ k c cs = some r := by
  cases l
  · cases h
  · exact ⟨_, _, rfl, h⟩
theorem unn_some {l : List V} (h : unn l k = some r) : l = [] ∧ k = some r := by
  cases l
  · exact ⟨rfl, h⟩
  · cases h
theorem pcK_some {cfg : Cfg} {f : FuncId} {as : List V} {k : V → R} (h : pcK cfg f as k = some r) : ∃ x, pcW cfg f as = some x ∧ k x = some r := by
  unfold pcK at h
  split at h
  · rename_i x hx; exact ⟨x, hx, h⟩
  · cases h
theorem mfK_some {es : List (V × V)} {key : V} {kn : R} {ks : V → R} (h : mfK es key kn ks = some r) : ∃ o, mapFind es key = some o ∧ ((o = none ∧ kn = some r) ∨ ∃ v, o = some v ∧ ks v = some r) := by
  unfold mfK at h
  split at h
  · rename_i x hx; exact ⟨_, hx, .inr ⟨_, rfl, h⟩⟩
  · rename_i hx; exact ⟨_, hx, .inl ⟨rfl, h⟩⟩
  · cases h
end
def leafK (P : Program) (t : TypeId) (v : V) (k : V → R) : R :=
  match P.underlying t with
  | some .bool => kB v fun b => k (.bool b)
  | some (.int j) => kI j v fun n => k (.int j n)
  | some .string => kS v fun s => k (.str s)
  | some (.slice _) => kL v fun l => k (.sl l)
  | some (.pointer e) => kP e v fun i => k (.hp e i 0)
  | some (.map _ _) => kM t v fun i => k (.hm t i)
  | _ => k v
def leafTys (P : Program) : Nat → TypeId → List TypeId
  | 0, _ => []
  | n + 1, t => match P.underlying t with
    | some (.struct fs) => fs.toList.flatMap fun f => leafTys P n f.type
    | some (.array len e) => (List.replicate len (leafTys P n e)).flatten
    | _ => [t]
def cellsK (P : Program) : List TypeId → List V → (List V → R) → R
  | [], cs, k => unn cs (k [])
  | t :: ts, cs, k => unc cs fun c cs => leafK P t c fun c => cellsK P ts cs fun ds => k (c :: ds)
def aggTy : Option TypeDesc → Bool
  | some (.struct _) | some (.array _ _) => true
  | _ => false
def oneTy : Option TypeDesc → Bool
  | some (.struct _) | some (.array _ _) | none => false
  | _ => true
def tyK (P : Program) (t : TypeId) (v : V) (k : V → R) : R :=
  cond (aggTy (P.underlying t)) (kA v fun cs => cellsK P (leafTys P 6 t) cs fun ds => k (.agg ds)) (leafK P t v k)
def tupK (P : Program) : List TypeId → List V → (List V → R) → R
  | [], vs, k => unn vs (k [])
  | t :: ts, vs, k => unc vs fun c cs => tyK P t c fun c => tupK P ts cs fun ds => k (c :: ds)
def resT (P : Program) (fr : Bool) (ty : TypeId) (r : V) (k : V → R) : R :=
  match P.underlying ty with
  | some (.tuple ts) => kT r fun vs => tupK P ts.toList vs fun ws => k (.tup ws)
  | some (.slice e) => cond fr (kF e r fun l => k (.fr e l)) (kL r fun l => k (.sl l))
  | _ => tyK P ty r k
section
variable {P : Program} {r : Out}
theorem leafK_some {t : TypeId} {v : V} {k : V → R} (h : leafK P t v k = some r) : k v = some r := by
  unfold leafK at h
  split at h
  · obtain ⟨x, rfl, h'⟩ := kB_some h; exact h'
  · obtain ⟨x, rfl, h'⟩ := kI_some h; exact h'
  · obtain ⟨x, rfl, h'⟩ := kS_some h; exact h'
  · obtain ⟨x, rfl, h'⟩ := kL_some h; exact h'
  · obtain ⟨x, rfl, h'⟩ := kP_some h; exact h'
  · obtain ⟨x, rfl, h'⟩ := kM_some h; exact h'
  · exact h
theorem cellsK_some : ∀ {ts : List TypeId} {cs : List V} {k : List V → R}, cellsK P ts cs k = some r → k cs = some r := by
  intro ts
  induction ts with
  | nil => intro cs k h; obtain ⟨rfl, h⟩ := unn_some h; exact h
  | cons t ts ih => intro cs k h; obtain ⟨c, cs, rfl, h'⟩ := unc_some h; exact ih (k := fun ds => k (c :: ds)) (leafK_some h')
theorem tyK_some {t : TypeId} {v : V} {k : V → R} (h : tyK P t v k = some r) : k v = some r := by
  rcases cond_some h with ⟨_, h⟩ | ⟨_, h⟩
  · obtain ⟨cs, rfl, h'⟩ := kA_some h; exact cellsK_some h'
  · exact leafK_some h
theorem tupK_some : ∀ {ts : List TypeId} {cs : List V} {k : List V → R}, tupK P ts cs k = some r → k cs = some r := by
  intro ts
  induction ts with
  | nil => intro cs k h; obtain ⟨rfl, h⟩ := unn_some h; exact h
  | cons t ts ih => intro cs k h; obtain ⟨c, cs, rfl, h'⟩ := unc_some h; exact ih (k := fun ds => k (c :: ds)) (tyK_some h')
theorem resT_some {fr : Bool} {ty : TypeId} {v : V} {k : V → R} (h : resT P fr ty v k = some r) : k v = some r := by
  unfold resT at h
  split at h
  · obtain ⟨x, rfl, h'⟩ := kT_some h; exact tupK_some h'
  · rcases cond_some h with ⟨_, h⟩ | ⟨_, h⟩
    · obtain ⟨x, rfl, h'⟩ := kF_some h; exact h'
    · obtain ⟨x, rfl, h'⟩ := kL_some h; exact h'
  · exact tyK_some h
end
def boundK (o : Option (Option V)) (d : Nat) (k : Nat → R) : R :=
  match o with
  | none => k d
  | some (some (.int _ n)) => gd (decide (0 ≤ n)) (k n.toNat)
  | some _ => none
def skipK (o : Option (Option V)) (b : Bool) (k : R) : R :=
  match o with
  | none => k
  | some _ => gd b k
def elemsK (mem : List O) (x : V) (k : List V → R) : R :=
  match x with
  | .win id off len =>
    match mem[id]? with
    | some (.row _ els _) => gd (decide (off + len ≤ els.length)) (k ((els.drop off).take len))
    | _ => none
  | x => opt (elems mem x) k
def elemsSK (mem : List O) (x : V) (k : List V → R) : R :=
  match x with
  | .str s => k (bytesV s)
  | x => elemsK mem x k
def mapK {α β : Type} (f : α → (β → R) → R) : List α → (List β → R) → R
  | [], k => k []
  | x :: xs, k => f x fun y => mapK f xs fun ys => k (y :: ys)
def snap1K (mem : List O) (v : V) (k : V → R) : R :=
  match v with
  | .win id off len => elemsK mem (.win id off len) fun l => k (.sl l)
  | v => opt (snap1 mem v) k
def snap2K (mem : List O) (v : V) (k : V → R) : R :=
  match v with
  | .agg cs => mapK (snap1K mem) cs fun ds => k (.agg ds)
  | .ptr id i off => opt (look mem (.ptr id i off)) fun r =>
      match r.1 with
      | .agg cs => mapK (snap1K mem) cs fun ds => k (.ref (.agg ds) r.2)
      | x => snap1K mem x fun y => k (.ref y r.2)
  | v => snap1K mem v k
def snap3K (mem : List O) (v : V) (k : V → R) : R :=
  match v with
  | .fn f caps => mapK (snap2K mem) caps fun ds => k (.fn f ds)
  | v => snap2K mem v k
noncomputable def callK (kc : KC) (dr : Bool) (f : FuncId) (ty : TypeId) (args : List V) (mem : List O) (k : V → List O → R) : R :=
  gd (fnOk kc.cfg.P f) <| cond (kc.cfg.pure f)
    (mapK (snap3K mem) args fun as => pvK kc f as fun r => resT kc.cfg.P (kc.frs f) ty r fun r =>
      cond (leadsT r)
        (cond (dr && !(args.flatMap (ids3 mem)).isEmpty) none (k (takeT (kc.cfg.adopt f && !dr) (freezeAll (args.flatMap (ids3 mem)) mem) r).1 (takeT (kc.cfg.adopt f && !dr) (freezeAll (args.flatMap (ids3 mem)) mem) r).2))
        (k (takeT (kc.cfg.adopt f && !dr) mem r).1 (takeT (kc.cfg.adopt f && !dr) mem r).2))
    (cond dr none (match kc.cfg.can f with
      | none => kc.ik f args mem k
      | some rd => kc.ck rd f (canS args mem).env (canS args mem).mem fun v m => k (canBack rd.rd args mem v m).1 (canBack rd.rd args mem v m).2))
def framedK (kc : KC) (f : FuncId) (args : List V) (mem : List O) (k : V → List O → R) : R :=
  cond (frOk (args.flatMap ptrId) mem) (kc.ik f args (keepOnly (args.flatMap ptrId) mem) fun v m => gd (Nat.ble mem.length m.length) (k v (putBack (args.flatMap ptrId) mem m))) none
def appendK (P : Program) (t : TypeId) (s x : V) (mem : List O) (k : V → List O → R) : R :=
  opt (elemOf P t) fun e => elemsSK mem x fun xs => gd (wfl (P.cellsOf e) xs) <| gd (rowTy P e) <|
    match s with
    | .nilS => gd (decide (xs.length ≤ 16777216)) (k (.own mem.length) (mem ++ [.row e xs 0]))
    | .own id =>
      match mem[id]? with
      | some (.row e' els fz) => gd (e' == e) <| gd (decide (els.length + xs.length ≤ 16777216)) (k (.own (mem.set id .dead).length) (mem.set id .dead ++ [.row e (els ++ xs) fz]))
      | _ => none
    | .tail id off =>
      match mem[id]? with
      | some (.row e' els fz) => gd (e' == e) <| gd (Nat.beq fz 0 || Nat.blt off fz) <| gd (decide ((els.drop off).length + xs.length ≤ 16777216)) (k (.tail mem.length 0) (mem.set id .dead ++ [.row e (els.drop off ++ xs) (cond (Nat.beq fz 0) 0 (fz - off))]))
      | _ => none
    | .win id off len =>
      match mem[id]? with
      | some (.row e' els fz) => gd (e' == e) <| gd (Nat.beq fz 0) <| gd (decide (off + len ≤ els.length)) <| gd (decide (len + xs.length ≤ 16777216)) (k (.tail mem.length 0) (mem.set id .dead ++ [.row e ((els.drop off).take len ++ xs) 0]))
      | _ => none
    | .lit t' l => gd (t' == e) <| gd (decide (l.length + xs.length ≤ 16777216)) <| gd (wfl (P.cellsOf e) l) (k (.sl (l ++ xs)) mem)
    | _ => none
def copyK (P : Program) (t : TypeId) (s x : V) (mem : List O) (k : V → List O → R) : R :=
  opt (elemOf P t) fun e => elemsSK mem x fun xs => gd (wfl (P.cellsOf e) xs) <| opt (spanM mem s) fun r =>
    match mem[r.1]? with
    | some (.row e' els fz) => gd (e' == e) <| gd (decide (fz ≤ r.2.1)) <| gd (decide (r.2.1 + r.2.2 ≤ els.length)) <|
        k (.int .i64 (min xs.length r.2.2 : Nat)) (mem.set r.1 (.row e' (els.take r.2.1 ++ xs.take (min xs.length r.2.2) ++ els.drop (r.2.1 + min xs.length r.2.2)) fz))
    | _ => none
def clearK (P : Program) (t : TypeId) (s : V) (mem : List O) (k : V → List O → R) : R :=
  opt (elemOf P t) fun e => opt (spanM mem s) fun r =>
    match mem[r.1]? with
    | some (.row e' els fz) => gd (e' == e) <| gd (rowTy P e) <| gd (decide (fz ≤ r.2.1)) <| gd (decide (r.2.1 + r.2.2 ≤ els.length)) <| opt (zeroV P e) fun z => opt (immX z) fun z =>
        k (.tup []) (mem.set r.1 (.row e' (els.take r.2.1 ++ List.replicate r.2.2 z ++ els.drop (r.2.1 + r.2.2)) fz))
    | _ => none
def makeK (P : Program) (t : TypeId) (a b : V) (mem : List O) (k : V → List O → R) : R :=
  opt (elemOf P t) fun e =>
    match a, b with
    | .int _ n, .int _ c => gd (decide (0 ≤ n)) <| gd (decide (n ≤ c)) <| gd (decide (c.toNat ≤ 16777216)) <| gd (rowTy P e) <| opt (zeroV P e) fun z => opt (immX z) fun z =>
        k (.own mem.length) (mem ++ [.row e (List.replicate n.toNat z) 0])
    | _, _ => none
def convK (P : Program) (mem : List O) (s d : TypeId) (x : V) (k : V → R) : R :=
  match P.underlying s, P.underlying d, x with
  | some (.slice e), some .string, x => elemsK mem x fun xs => gd (match P.underlying e with | some (.int .u8) => true | _ => false) <| opt (numsOf xs) fun ns => k (.str (ns.map fun n => UInt8.ofNat n.toNat))
  | _, _, _ => opt (convA P mem s d x) k
def indexAddrK (P : Program) (mem : List O) (t : TypeId) (x i : V) (k : V → List O → R) : R :=
  match P.underlying t, i with
  | some (.slice e), .int _ n =>
    gd (decide (0 ≤ n)) <|
    match x with
    | .sl l => idxK l n.toNat fun y => tyK P e y fun y => gd (y.cells.length == P.cellsOf e) (k (.ref y 0) mem)
    | .own id =>
      match mem[id]? with
      | some (.row e' els _) => gd (e' == e) <| gd (decide (n.toNat < els.length)) (k (.ptr id n.toNat 0) mem)
      | _ => none
    | .win id off len =>
      match mem[id]? with
      | some (.row e' els _) => gd (e' == e) <| gd (decide (n.toNat < len)) <| gd (decide (off + len ≤ els.length)) (k (.ptr id (off + n.toNat) 0) mem)
      | _ => none
    | .tail id off =>
      match mem[id]? with
      | some (.row e' els _) => gd (e' == e) <| gd (decide (n.toNat < (els.drop off).length)) (k (.ptr id (off + n.toNat) 0) mem)
      | _ => none
    | _ => none
  | some (.array len e), .int _ n =>
    gd (decide (0 ≤ n)) <| gd (decide (n.toNat < len)) <| gd (decide (0 < P.cellsOf e)) <|
    match x with
    | .ref y off => k (.ref y (off + n.toNat * P.cellsOf e)) mem
    | .ptr id q off => k (.ptr id q (off + n.toNat * P.cellsOf e)) mem
    | _ => none
  | _, _ => opt (indexAddrA P mem t x i) fun v => k v mem
def partK (P : Program) (e t : TypeId) (x : V) (off : Nat) (k : V → R) : R :=
  tyK P e x fun x => cond (((x.cells.drop off).take (P.cellsOf t)).length == P.cellsOf t) (opt (mkV P t ((x.cells.drop off).take (P.cellsOf t))) k) none
def flatD : Option TypeDesc → Bool
  | some .bool | some (.int _) | some .string => true
  | _ => false
def loadK (P : Program) (mem : List O) (t : TypeId) (p : V) (k : V → R) : R :=
  match p with
  | .ptr id i off =>
    match mem[id]? with
    | some (.row e els _) => idxK els i fun x => partK P e t x off k
    | some (.box _ (.agg cs) _) => cond (P.cellsOf t == 1 && flatD (P.underlying t)) (gd (Nat.beq i 0) <| idxK cs off fun c => leafK P t c k) (opt (loadM P mem t p) k)
    | _ => opt (loadM P mem t p) k
  | .ref (.agg cs) off => cond (P.cellsOf t == 1 && flatD (P.underlying t)) (idxK cs off fun c => leafK P t c k) (opt (loadM P mem t p) k)
  | .hp e i off => opt (findA e 0 mem) fun r => idxK r.2 i fun x => partK P e t x off k
  | _ => opt (loadM P mem t p) k
def storeK (P : Program) (mem : List O) (t : TypeId) (p v : V) (k : List O → R) : R :=
  match p with
  | .ptr id i off =>
    match mem[id]? with
    | some (.row e els fz) =>
      gd (decide (v.cells.length = P.cellsOf t ∧ 0 < P.cellsOf t ∧ v.cells.all V.one)) <| gd (decide (fz ≤ i)) <| idxK els i fun x => tyK P e x fun x => opt (mapO imm1 v.cells) fun vs => opt (putCells x off vs) fun y => k (mem.set id (.row e (els.set i y) fz))
    | _ => opt (storeM P mem t p v) k
  | .hp e i off =>
    gd (decide (v.cells.length = P.cellsOf t ∧ 0 < P.cellsOf t ∧ v.cells.all V.one)) <| opt (findA e 0 mem) fun r => idxK r.2 i fun x => tyK P e x fun x => opt (mapO imm1 v.cells) fun vs => opt (putCells x off vs) fun y => k (mem.set r.1 (.arena e (r.2.set i y)))
  | _ => opt (storeM P mem t p v) k
def sliceK (P : Program) (mem : List O) (t : TypeId) (x : V) (lo hi mx : Option (Option V)) (k : V → R) : R :=
  match P.underlying t, x, mx with
  | some .string, .str s, none => boundK lo 0 fun l => boundK hi s.length fun h => skipK lo (decide (l ≤ h)) <| skipK hi (decide (h ≤ s.length)) (k (.str ((s.take h).drop l)))
  | some (.slice e), x, none =>
    elemsK mem x fun xs => gd (decide (0 < P.cellsOf e)) <| gd (wfl (P.cellsOf e) xs) <| boundK lo 0 fun l => boundK hi xs.length fun h => skipK lo (decide (l ≤ h)) <| skipK hi (decide (h ≤ xs.length)) <|
      match x with
      | .nilS => k .nilS
      | .sl xs => k (.sl ((xs.take h).drop l))
      | .own id =>
        match mem[id]? with
        | some (.row e' _ _) => cond (e' == e) (k (if hi.isNone then .tail id l else .win id l (h - l))) none
        | _ => none
      | .tail id off =>
        match mem[id]? with
        | some (.row e' _ _) => cond (e' == e) (k (if hi.isNone then .tail id (off + l) else .win id (off + l) (h - l))) none
        | _ => none
      | .win id off _ =>
        match mem[id]? with
        | some (.row e' _ _) => cond (e' == e) (k (.win id (off + l) (h - l))) none
        | _ => none
      | _ => none
  | _, _, _ => opt (sliceA P mem t x lo hi mx) k
def indexK (P : Program) (t : TypeId) (x i : V) (k : V → R) : R :=
  match P.underlying t, x, i with
  | some .string, .str s, .int _ n => gd (decide (0 ≤ n)) <| idxK s n.toNat fun b => k (.int .u8 (b.toNat : Int))
  | some (.array len e), .agg cs, .int _ n => gd (decide (0 ≤ n)) <| gd (decide (n.toNat < len)) <|
      cond (P.cellsOf e == 1 && oneTy (P.underlying e)) (idxK cs n.toNat fun c => leafK P e c k) (opt (partA P e cs (n.toNat * P.cellsOf e)) k)
  | _, _, _ => opt (indexA P t x i) k
def binK (P : Program) (op : BinOp) (t : TypeId) (x y : V) (k : V → R) : R :=
  match op, x, y with
  | .quo, .int j a, .int j' b => gd (j == j') <| gd (!decide (b = 0)) (k (.int j (j.wrap (a.tdiv b))))
  | .rem, .int j a, .int j' b => gd (j == j') <| gd (!decide (b = 0)) (k (.int j (a.tmod b)))
  | .shl, .int j a, .int _ b => gd (!decide (b < 0)) (k (.int j (j.wrap (a * 2 ^ (min b.toNat j.bits)))))
  | .shr, .int j a, .int _ b => gd (!decide (b < 0)) (k (.int j (a.fdiv (2 ^ (min b.toNat j.bits)))))
  | .add, .str a, .str b => gd (decide (a.length + b.length ≤ 4611686018427387904)) (k (.str (a ++ b)))
  | _, _, _ => opt (binA P op t x y) k
def mapAtK (mem : List O) (m : V) (k : List (V × V) → R) : R :=
  match m with
  | .mp id =>
    match mem[id]? with
    | some (.map es) => k es
    | _ => none
  | .hm t i => opt (findM t 0 mem) fun r => idxK r.2 i k
  | _ => none
noncomputable def opK (kc : KC) (dr : Bool) (o : OpA) (env : List V) (mem : List O) (k : V → List O → R) : R :=
  match o.op with
  | .pick c a b => opt (evalO env c) fun c => opt (evalO env a) fun a => opt (evalO env b) fun b => kB c fun t => cond t (k a mem) (k b mem)
  | .load t a => opt (evalO env a) fun p => cond (o.bx && !boxy mem p) none (loadK kc.cfg.P mem t p fun v => k v mem)
  | .nilCheck x => opt (evalO env x) fun v => cond (solid v) (k v mem) none
  | .store t a x => opt (evalO env a) fun p => opt (evalO env x) fun v => cond (o.bx && isHp p) none <| storeK kc.cfg.P mem t p v fun m => k (.tup []) m
  | .binOp op t x y _ => opt (evalO env x) fun a => opt (evalO env y) fun b => binK kc.cfg.P op t a b fun v => k v mem
  | .slice t x lo hi mx => opt (evalO env x) fun a => cond (o.bx && !noMem a) none <| sliceK kc.cfg.P mem t a (lo.map (evalO env)) (hi.map (evalO env)) (mx.map (evalO env)) fun v => k v mem
  | .indexAddr t x i => opt (evalO env x) fun a => opt (evalO env i) fun b => cond (o.bx && !noMem a) none <| indexAddrK kc.cfg.P mem t a b k
  | .makeSlice t n c => opt (evalO env n) fun a => opt (evalO env c) fun b => makeK kc.cfg.P t a b mem k
  | .convert s d x => opt (evalO env x) fun a => convK kc.cfg.P (cond dr [] mem) s d a fun v => k v mem
  | .index t x i => opt (evalO env x) fun a => opt (evalO env i) fun b => indexK kc.cfg.P t a b fun v => k v mem
  | .lookup t m key ok => opt (evalO env m) fun m => opt (evalO env key) fun key => mapAtK mem m fun es =>
      gd (keyFits kc.cfg.P t key) <| opt (mapKey kc.cfg.P t) fun e => opt (zeroV kc.cfg.P e) fun z =>
        mfK es key (k (if ok then .tup [z, .bool false] else z) mem) fun v => leafK kc.cfg.P e v fun v => k (if ok then .tup [v, .bool true] else v) mem
  | .mapUpdate t m key x => opt (evalO env m) fun m => opt (evalO env key) fun key => opt (evalO env x) fun x => mapAtK mem m fun es =>
      gd (keyFits kc.cfg.P t key) <| gd x.inMap <| opt (mapPut es key x) fun es => k (.tup []) (mapTo mem m es)
  | .call c =>
    match c.callee with
    | .builtin .len => opt (mapO (evalO env) c.args.toList) fun args => cond (o.bx && !bxArgs .len args) none <|
        match c.argTypes.toList, args with
        | t :: _, .win id off len :: _ => cond (match kc.cfg.P.underlying t with | some (.slice _) => true | _ => false) (elemsK mem (.win id off len) fun l => k (.int .i64 (l.length : Int)) mem) none
        | t :: _, .hm t' i :: _ => cond (match kc.cfg.P.underlying t with | some (.map _ _) => true | _ => false) (mapAtK mem (.hm t' i) fun es => k (.int .i64 (es.length : Int)) mem) none
        | _, _ => opt (opA kc.cfg (callW kc.cfg) dr o env mem) fun r => k r.1 r.2
    | .builtin .append => opt (mapO (evalO env) c.args.toList) fun args => cond (o.bx && !bxArgs .append args) none <|
        match c.argTypes.toList, args with
        | [t, t'], [s, x] => gd (appTy kc.cfg.P t t' x) (appendK kc.cfg.P t s x mem k)
        | _, _ => none
    | .builtin .copy => opt (mapO (evalO env) c.args.toList) fun args => cond (o.bx && !bxArgs .copy args) none <|
        match c.argTypes.toList, args with
        | [t, t'], [s, x] => gd (appTy kc.cfg.P t t' x) (copyK kc.cfg.P t s x mem k)
        | _, _ => none
    | .builtin .clear => opt (mapO (evalO env) c.args.toList) fun args => cond (o.bx && !bxArgs .clear args) none <|
        match c.argTypes.toList, args with
        | [t], [s] => clearK kc.cfg.P t s mem k
        | _, _ => none
    | .builtin .delete => opt (mapO (evalO env) c.args.toList) fun args => cond (o.bx && !bxArgs .delete args) none <|
        match c.argTypes.toList, args with
        | t :: _, [m, key] => mapAtK mem m fun es => gd (keyFits kc.cfg.P t key) <| opt (mapDel es key) fun es => k (.tup []) (mapTo mem m es)
        | _, _ => none
    | .value f => opt (evalO env f) fun fv => opt (mapO (evalO env) c.args.toList) fun args =>
        match fv with
        | .fn f caps => cond (o.bx && !kc.cfg.pure f) (cond (frOp kc.cfg o && fnOk kc.cfg.P f) (framedK kc f (args ++ caps) mem k) none) (callK kc dr f o.type (args ++ caps) mem k)
        | _ => none
    | _ => opt (opA kc.cfg (callW kc.cfg) dr o env mem) fun r => k r.1 r.2
  | _ => opt (opA kc.cfg (callW kc.cfg) dr o env mem) fun r => k r.1 r.2
noncomputable def opXK (kc : KC) (dr : Bool) (o : OpA) (env : List V) (mem : List O) (k : V → List O → R) : R :=
  cond o.rx (opK kc true o (memless env) [] fun v m => match m with | [] => k v mem | _ => opt (snap2 m v) fun v => k v mem) (opK kc dr o env mem k)
noncomputable def opsK (kc : KC) (dr : Bool) : List OpA → List V → List O → (List V → List O → R) → R
  | [], env, mem, k => k env mem
  | o :: rest, env, mem, k =>
    match o.guard with
    | none => opXK kc (drO dr o) o env mem fun v m => opsK kc dr rest (setO env o.dst v) m k
    | some (t, want) =>
      match env[t]? with
      | some (.bool b) => cond b
          (cond want (opXK kc (drO dr o) o (env.set t (.bool true)) mem fun v m => opsK kc dr rest (setO (env.set t (.bool true)) o.dst v) m k) (opsK kc dr rest (setO (env.set t (.bool true)) o.dst (.tup [])) mem k))
          (cond want (opsK kc dr rest (setO (env.set t (.bool false)) o.dst (.tup [])) mem k) (opXK kc (drO dr o) o (env.set t (.bool false)) mem fun v m => opsK kc dr rest (setO (env.set t (.bool false)) o.dst v) m k))
      | some (.tup []) => opsK kc dr rest (setO env o.dst (.tup [])) mem k
      | _ => none
def nl : C → Nat
  | .seq a b => nl a + nl b
  | .cond _ a b => nl a + nl b
  | .block _ c => nl c
  | .loop _ c => nl c + 1
  | .uncons _ _ _ a b => nl a + nl b
  | .cseq _ a b => nl a + nl b + 1
  | _ => 0
def setB (env : List V) (o : Operand) (b : Bool) : List V :=
  match o with
  | .tmp t => env.set t (.bool b)
  | _ => env
noncomputable def segK (kc : KC) (n0 : Nat) : C → Nat → S → (S → R) → (Nat → S → R) → (S → R) → R
  | .skip, _, s, kn, _, _ => kn s
  | .ops dr l, _, s, kn, _, _ => opsK kc dr l s.env s.mem fun env mem => cond (!dr || frameChk kc.cfg l env) (kn ⟨env, mem⟩) none
  | .seq a b, i, s, kn, ke, kr => segK kc n0 a i s (fun s => segK kc n0 b (i + nl a) s kn ke kr) ke kr
  | .cseq f a _, i, s, _, ke, kr => segK kc n0 a i s (fun s => some (.head (i + nl a) (clean n0 f s))) ke kr
  | .cond c a b, i, s, kn, ke, kr => opt (evalO s.env c) fun v => kB v fun t => cond t (segK kc n0 a i ⟨setB s.env c true, s.mem⟩ kn ke kr) (segK kc n0 b (i + nl a) ⟨setB s.env c false, s.mem⟩ kn ke kr)
  | .block id c, i, s, kn, ke, kr => segK kc n0 c i s kn (fun j s => cond (j == id) (kn s) (ke j s)) kr
  | .loop f _, i, s, _, _, _ => some (.head i (clean n0 f s))
  | .exit j, _, s, _, ke, _ => ke j s
  | .ret, _, s, _, _, kr => kr s
  | .start g, _, s, kn, _, _ =>
    match s.env[g]? with
    | some (.fn f caps) => opt (kc.cfg.seqp f) fun th => mapK (snap2K s.mem) caps fun as => opt (th.2 as) fun l => kn ⟨s.env.set g (.rest th.1 (l.map .tup)), freezeAll (caps.flatMap (ids2 s.mem)) s.mem⟩
    | _ => none
  | .uncons g ps ws a b, i, s, kn, ke, kr =>
    gd (Nat.beq (nl a) 0 && Nat.beq (nl b) 0) <|
    match s.env[g]? with
    | some (.rest ts l) => restK l (segK kc n0 b i s kn ke kr) fun x l => kT x fun vs => tupK kc.cfg.P ts vs fun vs => gd (vs.length == ps.length) <|
        segK kc n0 a i ⟨setPs (s.env.set g .junk) ps vs, s.mem⟩ (fun s => kn ⟨(forget s.env ws).set g (.rest ts l), s.mem⟩) (fun e s => ke e ⟨(forget s.env ws).set g (.rest ts l), s.mem⟩) (fun s => kr ⟨(forget s.env ws).set g (.rest ts l), s.mem⟩)
    | _ => none
noncomputable def conK (kc : KC) (n0 : Nat) : C → Nat → Nat → S → (S → R) → (Nat → S → R) → (S → R) → R
  | .seq a b, i, j, s, kn, ke, kr => cond (Nat.blt j (i + nl a)) (conK kc n0 a i j s (fun s => segK kc n0 b (i + nl a) s kn ke kr) ke kr) (conK kc n0 b (i + nl a) j s kn ke kr)
  | .cseq f a b, i, j, s, kn, ke, kr => cond (Nat.blt j (i + nl a)) (conK kc n0 a i j s (fun s => some (.head (i + nl a) (clean n0 f s))) ke kr)
      (cond (j == i + nl a) (segK kc n0 b (i + nl a + 1) s kn ke kr) (conK kc n0 b (i + nl a + 1) j s kn ke kr))
  | .cond _ a b, i, j, s, kn, ke, kr => cond (Nat.blt j (i + nl a)) (conK kc n0 a i j s kn ke kr) (conK kc n0 b (i + nl a) j s kn ke kr)
  | .block id c, i, j, s, kn, ke, kr => conK kc n0 c i j s kn (fun j s => cond (j == id) (kn s) (ke j s)) kr
  | .loop f c, i, j, s, _, ke, kr => cond (j == i)
      (segK kc n0 c (i + 1) s (fun s => some (.head i (clean n0 f s))) (fun e s => ke e (clean n0 f s)) (fun s => kr (clean n0 f s)))
      (conK kc n0 c (i + 1) j s (fun s => some (.head i (clean n0 f s))) (fun e s => ke e (clean n0 f s)) (fun s => kr (clean n0 f s)))
  | _, _, _, _, _, _, _ => none
def give1K (P : Program) (mem : List O) (t : TypeId) (v : V) (k : V → R) : R :=
  match v with
  | .own id =>
    match mem[id]? with
    | some (.row e els fz) => cond (flatTy P e) (cond (fz == 0) (gd (els.all fun x => x.cells.all V.flat1) (k (.fr e els))) (k (.sl els))) (k (.sl els))
    | _ => none
  | v => opt (give1 P mem t v) k
def giveK (P : Program) (mem : List O) (ts : List TypeId) (vs : List V) (k : V → R) : R :=
  match ts, vs with
  | [t], [v] => give1K P mem t v k
  | ts, vs => opt (give P mem ts vs) k
def finK (kc : KC) (imp : Bool) (fa : FA) (s : S) : R :=
  opt (mapO (resV kc.cfg.P s) fa.results) fun vs => cond imp (some (.doneM (tupV vs) s.mem)) (giveK kc.cfg.P s.mem fa.rtypes vs fun v => some (.done v))
noncomputable def enterK (kc : KC) (imp : Bool) (fa : FA) (args : List V) (mem : List O) : R :=
  gd (args.length == fa.np && Nat.ble fa.np fa.nt) (segK kc mem.length fa.body 0 ⟨args ++ List.replicate (fa.nt - fa.np) (.tup []), mem⟩ (finK kc imp fa) (fun _ _ => none) (finK kc imp fa))
noncomputable def goK (kc : KC) (imp : Bool) (n0 : Nat) (fa : FA) (j : Nat) (s : S) : R :=
  conK kc n0 fa.body 0 j s (finK kc imp fa) (fun _ _ => none) (finK kc imp fa)
end Go.Lite