/-
  The interpreter's operations that make or change memory, second part.
-/
import Derived.Test.YtknapnnpmfhogaaLite7
namespace Go.Lite
open Go
section
variable {P : Program} {Z Z' : Zs} {w w' : World} {j j' : J} {mem mem' : List O}
theorem VR.down {l : List V} {u : Value} (h : VR Z w j (.sl l) u) (j' : J) : VR Z w j' (.sl l) u := by
  cases h with
  | sl0 => exact .sl0
  | sl f a b c d e => exact .sl f a b c d e
theorem VR.litSl {t : TypeId} {l : List V} {u : Value} (h : VR Z w j (.lit t l) u) : VR Z w j (.sl l) u := by
  cases h with
  | lit h => exact h
theorem append_lit {t tx ty e t' : TypeId} {l xs : List V} {u ux : Value} {news : List Value} (ht : P.underlying t = some (.slice e)) (s : SR P Z w j mem) (hv : VR Z w j (.lit t' l) u)
    (hroom : roomy P e (l.length + xs.length) = true) (h4 : ∀ y ∈ l, y.cells.length = P.cellsOf e) (hxs : ∀ y ∈ xs, y.cells.length = P.cellsOf e)
    (ha : ArgC P w tx ux (P.cellsOf e) xs.length news) (hnr : ∀ (k : Nat) (x : V) (i : Nat) (y : V), xs[k]? = some x → x.cells[i]? = some y → y.one = true ∧ ∃ u, news[k * P.cellsOf e + i]? = some u ∧ VR Z w j0 y u) :
    ∃ r w1, (Builtin.append_ #[t, tx] ty #[u, ux]).run P w = .ok r w1 ∧ PostOf P Z w j mem (.sl (l ++ xs)) mem r w1 := by
  obtain ⟨hn, hby, hpos, i, z, hi, his, hib, hz, hzs⟩ := roomy_spec hroom
  cases hv with
  | lit hv hk hzz =>
  rename_i g n
  have hnl := ha.size
  have ha' := ha
  rw [← his] at ha'
  by_cases hx0 : xs = []
  · subst hx0
    have : news = [] := by simpa using hnl
    subst this
    refine ⟨_, w, run_append_no ht hpos ha (Nat.le_refl _), ?_⟩
    rw [List.append_nil]
    exact post_refl s hv
  · have hxl : 0 < xs.length := List.length_pos_iff.2 hx0
    have hbytes : (l.length + xs.length) * i.bytes ≤ 140737488355328 := by
      rw [hib]
      exact Nat.le_trans (Nat.mul_le_mul hn hby) (by decide)
    have hcut : ∀ k x, l[k]? = some x → CellsAt Z w j0 g (0 + k * P.cellsOf e) x.cells := by
      rcases hv.slInv with ⟨_, _, rfl, _⟩ | ⟨g', b', c', sz, he, _, hsz, hh⟩
      · intro k x hk; simp at hk
      · intro k x hk
        simp only [Value.slice.injEq, Option.some.injEq, Addr.mk.injEq, and_true] at he
        obtain ⟨⟨rfl, rfl⟩, _⟩ := he
        have := hh k x hk
        rw [h4 x (List.mem_of_getElem? hk)] at this
        obtain ⟨rfl, _, h⟩ := this
        exact h
    obtain ⟨olds, hol, hoc, hor⟩ := flat_cells hpos h4 hcut
    have hrun := run_append_grow0 (ty := ty) w ht hi hz ha' (run_firstCells_some (P := P) w.drew i.size l.length ⟨g, 0, none⟩ l.length l.length olds (by rw [his]; exact hol) (fun k u hk => by simpa using (hoc k u hk).1)) (by omega) (by omega) (growslice_fits (by omega) hbytes)
    refine ⟨_, _, hrun, ?_⟩
    have hall : ∀ x ∈ l ++ xs, x.cells.length = P.cellsOf e := fun x hx => (List.mem_append.1 hx).elim (h4 x) (hxs x)
    have hcp := grownCap_ge w (l.length + xs.length) l.length e
    have hp := (rowF_sound (els := l ++ xs) (us := olds.toArray ++ news.toArray ++ Builtin.zeroCells z.cells (grownCap w (l.length + xs.length) l.length e - (l.length + xs.length))) (c := grownCap w (l.length + xs.length) l.length e) (t := e)
        (w1 := w.drew.alloc (.cells (olds.toArray ++ news.toArray ++ Builtin.zeroCells z.cells (grownCap w (l.length + xs.length) l.length e - (l.length + xs.length))) e)) s rfl rfl rfl rfl hpos hall (by simpa using hcp)
        (fun k x i y hk hy => by
          have hi : i < P.cellsOf e := by rw [← hall x (List.mem_of_getElem? hk)]; exact (List.getElem?_eq_some_iff.1 hy).1
          by_cases hk' : k < l.length
          · rw [List.getElem?_append_left hk'] at hk
            obtain ⟨a, u', hu', hv⟩ := hor k x i y hk hy
            refine ⟨a, u', ?_, hv⟩
            have hlt := (List.getElem?_eq_some_iff.1 hu').1
            rw [Array.append_assoc, Array.getElem?_append_left (by simpa using hlt)]
            simpa using hu'
          · rw [List.getElem?_append_right (by omega)] at hk
            obtain ⟨a, u', hu', hv⟩ := hnr _ x i y hk hy
            refine ⟨a, u', ?_, hv⟩
            have hlt := (List.getElem?_eq_some_iff.1 hu').1
            have e1 : k * P.cellsOf e + i - olds.length = (k - l.length) * P.cellsOf e + i := by
              rw [hol, Nat.sub_mul]
              have : l.length * P.cellsOf e ≤ k * P.cellsOf e := Nat.mul_le_mul_right _ (by omega)
              omega
            have hle : olds.length ≤ k * P.cellsOf e + i := by
              rw [hol]
              have : l.length * P.cellsOf e ≤ k * P.cellsOf e := Nat.mul_le_mul_right _ (by omega)
              omega
            rw [Array.append_assoc, Array.getElem?_append_right (by simpa using hle)]
            simp only [List.size_toArray, e1]
            rw [Array.getElem?_append_left (by simpa using hlt)]
            simpa using hu')).1
    rw [List.length_append] at hp
    exact hp
theorem args_sound (s : SR P Z w j mem) {t tx e : TypeId} {x : V} {xs : List V} {ux : Value} (hty : appTy P t tx x = true) (ht : P.underlying t = some (.slice e)) (hpos : 0 < P.cellsOf e) (hxs : elemsS mem x = some xs) (hall : ∀ y ∈ xs, y.cells.length = P.cellsOf e) (hx : VR Z w j x ux) :
    ∃ news, ArgC P w tx ux (P.cellsOf e) xs.length news ∧ ∀ (k : Nat) (x : V) (i : Nat) (y : V), xs[k]? = some x → x.cells[i]? = some y → y.one = true ∧ ∃ u, news[k * P.cellsOf e + i]? = some u ∧ VR Z w j0 y u := by
  have sl : (∀ b, x ≠ .str b) → ∃ news, ArgC P w tx ux (P.cellsOf e) xs.length news ∧ ∀ (k : Nat) (x : V) (i : Nat) (y : V), xs[k]? = some x → x.cells[i]? = some y → y.one = true ∧ ∃ u, news[k * P.cellsOf e + i]? = some u ∧ VR Z w j0 y u := by
    intro hns
    have h1 : elems mem x = some xs := by cases x <;> first | exact hxs | exact (hns _ rfl).elim
    have h2 : t = tx := by cases x <;> first | simpa [appTy] using hty | exact (hns _ rfl).elim
    subst h2
    obtain ⟨A, c, rfl, hel⟩ := elems_sound s h1 hx
    exact ArgC.of ht hpos hall hel
  by_cases hs : ∃ b, x = .str b
  rotate_left
  · exact sl (fun b hb => hs ⟨b, hb⟩)
  obtain ⟨bs, rfl⟩ := hs
  cases hx
  rename_i b
  simp only [elemsS, Option.some.injEq] at hxs
  subst hxs
  have ht2 : P.underlying tx = some .string := by
    simp only [appTy] at hty
    split at hty
    · assumption
    · cases hty
  by_cases h0 : b.data.toList = []
  · have hb0 : b.size = 0 := by
      have : b.data.toList.length = 0 := by rw [h0]; rfl
      simpa using this
    have hbv : bytesV b.data.toList = [] := by rw [h0]; rfl
    rw [hbv]
    refine ⟨[], ⟨.inl ht2, fun w2 => by simp [Builtin.lenOf, hb0], by simp, fun n w2 hn _ => ?_, by simp⟩, fun k x i y hk => by simp at hk⟩
    have : n = 0 := by simpa using hn
    subst this
    simp [Builtin.firstCells]
  · have h1 : P.cellsOf e = 1 := by
      cases hd : b.data.toList with
      | nil => exact (h0 hd).elim
      | cons y l =>
        rw [hd] at hall
        have := hall (.int .u8 (y.toNat : Int)) (by simp [bytesV])
        rw [← this]; rfl
    rw [h1]
    exact ArgC.str ht2
theorem append_sound (s : SR P Z w j mem) {t tx ty : TypeId} {sv x v : V} {u ux : Value} (hty : appTy P t tx x = true) (h : appendM P mem t sv x = some (v, mem')) (hv : VR Z w j sv u) (hx : VR Z w j x ux) :
    ∃ r w1, (Builtin.append_ #[t, tx] ty #[u, ux]).run P w = .ok r w1 ∧ PostOf P Z w j mem v mem' r w1 := by
  unfold appendM at h
  cases he : elemOf P t with
  | none => simp [he] at h
  | some e =>
    have ht : P.underlying t = some (.slice e) := by
      unfold elemOf at he
      cases hu : P.underlying t with
      | none => simp [hu] at he
      | some d => cases d <;> simp [hu] at he; subst he; rfl
    cases hxs : elemsS mem x with
    | none => simp [he, hxs] at h
    | some xs =>
      simp only [he, hxs, Option.bind_some] at h
      split at h
      · rename_i hall
        have hall' : ∀ y ∈ xs, y.cells.length = P.cellsOf e := fun y hy => by simpa using List.all_eq_true.1 hall y hy
        have arg := fun hpos => args_sound s hty ht hpos hxs hall' hx
        cases sv <;> simp only at h <;> first | (cases h; done) | skip
        case nilS =>
          split at h
          · rename_i hroom
            cases h
            cases hv
            have hp := (roomy_spec hroom).2.2.1
            obtain ⟨news, ha, hnr⟩ := arg hp
            obtain ⟨A', n', c', w1, q1, q2, q3⟩ := append_main (ty := ty) (els := []) (fz := 0) ht s (Stp.refl _ _ _ _) rfl ⟨rfl, hp, Nat.le_refl _, by simp, .inl ⟨rfl, rfl⟩⟩ (by simpa using hroom) hall' ha hnr (fun g hg => by simp [Han.blk] at hg)
            exact ⟨_, w1, q1, q2.own (q3 fun a ha => by cases ha)⟩
          · cases h
        case own id =>
          cases hm : mem[id]? with
          | none => simp [hm] at h
          | some o =>
            cases o <;> simp only [hm] at h <;> first | (cases h; done) | skip
            rename_i e' els fz
            split at h
            · rename_i hc
              obtain ⟨rfl, hroom⟩ := hc
              cases h
              obtain ⟨hn, hh, hr⟩ := s.obj id _ hm
              cases hv with
              | own hj h00 =>
                rw [hj] at hh; cases hh
                have h1 := hr.1
                simp only at h1
                subst h1
                obtain ⟨news, ha, hnr⟩ := arg (roomy_spec hroom).2.2.1
                suffices hsf : ∀ g, Han.blk ⟨_, P.cellsOf e'⟩ = some g → ¬ Owned Z j (mem.set id .dead) g from (let ⟨A', n', c', w1, q1, q2, q3⟩ := append_main (ty := ty) (els := els) (fz := fz) ht (s.kill hm) (Stp.kill hm) rfl hr hroom hall' ha hnr (fun g hg => ⟨hsf g hg, ⟨id, _, hm, rfl, by simp [Blk, O.ar, blkOf, hj, hg]⟩⟩); ⟨_, w1, q1, q2.own (q3 h00)⟩)
                intro g hg
                rintro ⟨k, x, hx, hl, hb⟩
                have hlt : id < mem.length := (List.getElem?_eq_some_iff.1 hm).1
                by_cases e : id = k
                · subst e
                  rw [List.getElem?_set_self hlt] at hx
                  cases hx
                  cases hl
                · rw [List.getElem?_set_ne e] at hx
                  exact e (s.inj id k _ x g hm hx rfl hl (by simp [Blk, O.ar, blkOf, hj, hg]) hb)
            · cases h
        case lit t' l =>
          split at h
          · rename_i hc
            obtain ⟨rfl, hroom, hla⟩ := hc
            cases h
            obtain ⟨news, ha, hnr⟩ := arg (roomy_spec hroom).2.2.1
            exact append_lit ht s hv hroom (fun y hy => by simpa using List.all_eq_true.1 hla y hy) hall' ha hnr
          · cases h
        case win id off len =>
          cases hm : mem[id]? with
          | none => simp [hm] at h
          | some o =>
            cases o <;> simp only [hm] at h <;> first | (cases h; done) | skip
            rename_i e' els fz
            split at h
            · rename_i hc
              obtain ⟨rfl, rfl, hend, hroom⟩ := hc
              cases h
              obtain ⟨hn, hh, hr⟩ := s.obj id _ hm
              cases hv with
              | win hj hnn hlc hcc ha =>
                rename_i n c' sz c'' A A'
                rw [hj] at hh; cases hh
                obtain ⟨h1, h2, h3, h4, h5⟩ := hr
                simp only at h1 h2 h4 h5
                subst h1
                have hlen : ((els.drop off).take len).length = len := by simp; omega
                have hr' : RowAt P Z w ⟨.slice A' len c'', P.cellsOf e'⟩ e' ((els.drop off).take len) 0 := by
                  refine ⟨rfl, h2, Nat.zero_le _, fun x hx => h4 x (List.mem_of_mem_drop (List.mem_of_mem_take hx)), ?_⟩
                  rcases ha with ⟨rfl, rfl⟩ | ⟨g, b, o, rfl, rfl, ho1, ho2⟩
                  · left
                    rcases h5 with ⟨h5, he⟩ | ⟨g, b, c, us, h5, _⟩
                    · simp only [Value.slice.injEq] at h5
                      obtain ⟨_, _, rfl⟩ := h5
                      have e1 : c'' = 0 := by omega
                      have e2 : len = 0 := by omega
                      subst e1 e2 he
                      exact ⟨rfl, by simp⟩
                    · simp at h5
                  · right
                    rcases h5 with ⟨h5, he⟩ | ⟨g', b', c, us, h5, hlc', hcm, hg, hus, hcells, hz1, hz2⟩
                    · simp at h5
                    · simp only [Value.slice.injEq, Option.some.injEq, Addr.mk.injEq, and_true] at h5
                      obtain ⟨⟨rfl, rfl⟩, rfl, rfl⟩ := h5
                      refine ⟨g, b + o, c'', us, by rw [hlen], by rw [hlen]; exact hlc, by omega, hg, ?_, fun k x hk => ?_, fun x hx => ?_, fun x hx => ?_⟩
                      · have : (off + c'') * P.cellsOf e' = off * P.cellsOf e' + c'' * P.cellsOf e' := Nat.add_mul _ _ _
                        rw [hcc] at this
                        show b + o + c'' * P.cellsOf e' ≤ us.size
                        have hus : b + c' * P.cellsOf e' ≤ us.size := hus
                        omega
                      · have hkl : k < ((els.drop off).take len).length := (List.getElem?_eq_some_iff.1 hk).1
                        rw [List.getElem?_take, if_pos (by omega), List.getElem?_drop] at hk
                        have := hcells _ x hk
                        rw [ho2 (by omega)]
                        show CellsAt Z w j0 g (b + off * P.cellsOf e' + k * P.cellsOf e') x.cells
                        rwa [Nat.add_mul, ← Nat.add_assoc] at this
                      · obtain ⟨q1, q2⟩ := hz1 x hx
                        omega
                      · have hx : x < 0 * P.cellsOf e' := hx
                        omega
                have hbk : ∀ g, Han.blk ⟨.slice A' len c'', P.cellsOf e'⟩ = some g → blkOf j id = some g := by
                  intro g hg
                  rcases ha with ⟨rfl, rfl⟩ | ⟨g', b, o, rfl, rfl, _⟩
                  · simp [Han.blk] at hg
                  · simp [Han.blk] at hg
                    simp [blkOf, hj, Han.blk, hg]
                have hlm : (mem.set id O.dead).length = mem.length := by simp
                obtain ⟨news, harg, hnr⟩ := arg (roomy_spec hroom).2.2.1
                suffices hsf : ∀ g, Han.blk ⟨.slice A' len c'', P.cellsOf e'⟩ = some g → ¬ Owned Z j (mem.set id .dead) g from (let ⟨A', n', c', w1, q1, q2, q3⟩ := append_main (ty := ty) (els := (els.drop off).take len) (fz := 0) ht (s.kill hm) (Stp.kill hm) rfl hr' (by rw [hlen]; exact hroom) hall' harg hnr (fun g hg => ⟨hsf g hg, ⟨id, _, hm, rfl, hbk g hg⟩⟩); ⟨_, w1, q1, hlm ▸ q2.tail (fz := 0) (t := e') (els := (els.drop off).take len ++ xs) (by simp [newRow])⟩)
                intro g hg
                rintro ⟨k, x, hx, hl, hb⟩
                have hlt : id < mem.length := (List.getElem?_eq_some_iff.1 hm).1
                by_cases e : id = k
                · subst e
                  rw [List.getElem?_set_self hlt] at hx
                  cases hx
                  cases hl
                · rw [List.getElem?_set_ne e] at hx
                  exact e (s.inj id k _ x g hm hx rfl hl (hbk g hg) hb)
            · cases h
        case tail id off =>
          cases hm : mem[id]? with
          | none => simp [hm] at h
          | some o =>
            cases o <;> simp only [hm] at h <;> first | (cases h; done) | skip
            rename_i e' els fz
            split at h
            · rename_i hc
              obtain ⟨rfl, hfz, hroom⟩ := hc
              have efz : cond (Nat.beq fz 0) 0 (fz - off) = fz - off := by
                cases fz <;> simp [Nat.beq]
              rw [efz] at h
              cases h
              obtain ⟨hend, hv⟩ := tail_win s hm hv
              obtain ⟨len, hlen0⟩ : ∃ len, len = els.length - off := ⟨_, rfl⟩
              rw [← hlen0] at hv
              obtain ⟨hn, hh, hr⟩ := s.obj id _ hm
              cases hv with
              | win hj hnn hlc hcc ha =>
                rename_i n c' sz c'' A A'
                rw [hj] at hh; cases hh
                obtain ⟨h1, h2, h3, h4, h5⟩ := hr
                simp only at h1 h2 h4 h5
                subst h1
                have hlen : (els.drop off).length = len := by simp; omega
                have hr' : RowAt P Z w ⟨.slice A' len c'', P.cellsOf e'⟩ e' (els.drop off) (fz - off) := by
                  refine ⟨rfl, h2, by rw [hlen]; omega, fun x hx => h4 x (List.mem_of_mem_drop hx), ?_⟩
                  rcases ha with ⟨rfl, rfl⟩ | ⟨g, b, o, rfl, rfl, ho1, ho2⟩
                  · left
                    rcases h5 with ⟨h5, he⟩ | ⟨g, b, c, us, h5, _⟩
                    · simp only [Value.slice.injEq] at h5
                      obtain ⟨_, _, rfl⟩ := h5
                      have e1 : c'' = 0 := by omega
                      have e2 : len = 0 := by omega
                      subst e1 e2 he
                      exact ⟨rfl, by simp⟩
                    · simp at h5
                  · right
                    rcases h5 with ⟨h5, he⟩ | ⟨g', b', c, us, h5, hlc', hcm, hg, hus, hcells, hz1, hz2⟩
                    · simp at h5
                    · simp only [Value.slice.injEq, Option.some.injEq, Addr.mk.injEq, and_true] at h5
                      obtain ⟨⟨rfl, rfl⟩, rfl, rfl⟩ := h5
                      refine ⟨g, b + o, c'', us, by rw [hlen], by rw [hlen]; exact hlc, by omega, hg, ?_, fun k x hk => ?_, fun x hx => ?_, fun x hx => ?_⟩
                      · have : (off + c'') * P.cellsOf e' = off * P.cellsOf e' + c'' * P.cellsOf e' := Nat.add_mul _ _ _
                        rw [hcc] at this
                        show b + o + c'' * P.cellsOf e' ≤ us.size
                        have hus : b + c' * P.cellsOf e' ≤ us.size := hus
                        omega
                      · have hkl : k < (els.drop off).length := (List.getElem?_eq_some_iff.1 hk).1
                        rw [List.getElem?_drop] at hk
                        have := hcells _ x hk
                        rw [ho2 (by omega)]
                        show CellsAt Z w j0 g (b + off * P.cellsOf e' + k * P.cellsOf e') x.cells
                        rwa [Nat.add_mul, ← Nat.add_assoc] at this
                      · obtain ⟨q1, q2⟩ := hz1 x hx
                        have q2 : x < b + fz * P.cellsOf e' := q2
                        have q3 : off < fz := by omega
                        refine ⟨by omega, ?_⟩
                        show x < b + o + (fz - off) * P.cellsOf e'
                        rw [ho2 (by omega), Nat.sub_mul]
                        have : off * P.cellsOf e' ≤ fz * P.cellsOf e' := Nat.mul_le_mul_right _ (by omega)
                        omega
                      · have hx : x < (fz - off) * P.cellsOf e' := hx
                        have q3 : off < fz := by
                          rcases Nat.lt_or_ge off fz with q | q
                          · exact q
                          · rw [show fz - off = 0 by omega] at hx; simp at hx
                        rw [Nat.sub_mul] at hx
                        rw [ho2 (by omega), Nat.add_assoc]
                        exact hz2 _ (by show _ < fz * P.cellsOf e'; omega)
                have hbk : ∀ g, Han.blk ⟨.slice A' len c'', P.cellsOf e'⟩ = some g → blkOf j id = some g := by
                  intro g hg
                  rcases ha with ⟨rfl, rfl⟩ | ⟨g', b, o, rfl, rfl, _⟩
                  · simp [Han.blk] at hg
                  · simp [Han.blk] at hg
                    simp [blkOf, hj, Han.blk, hg]
                have hlm : (mem.set id O.dead).length = mem.length := by simp
                obtain ⟨news, harg, hnr⟩ := arg (roomy_spec hroom).2.2.1
                suffices hsf : ∀ g, Han.blk ⟨.slice A' len c'', P.cellsOf e'⟩ = some g → ¬ Owned Z j (mem.set id .dead) g from (let ⟨A', n', c', w1, q1, q2, q3⟩ := append_main (ty := ty) (els := els.drop off) (fz := fz - off) ht (s.kill hm) (Stp.kill hm) rfl hr' hroom hall' harg hnr (fun g hg => ⟨hsf g hg, ⟨id, _, hm, rfl, hbk g hg⟩⟩); ⟨_, w1, q1, hlm ▸ q2.tail (fz := fz - off) (t := e') (els := els.drop off ++ xs) (by simp [newRow])⟩)
                intro g hg
                rintro ⟨k, x, hx, hl, hb⟩
                have hlt : id < mem.length := (List.getElem?_eq_some_iff.1 hm).1
                by_cases e : id = k
                · subst e
                  rw [List.getElem?_set_self hlt] at hx
                  cases hx
                  cases hl
                · rw [List.getElem?_set_ne e] at hx
                  exact e (s.inj id k _ x g hm hx rfl hl (hbk g hg) hb)
            · cases h
      · cases h
theorem VR.flat {v : V} {u : Value} (h : VR Z w j v u) (hf : v.flat1 = true) (j' : J) : VR Z w j' v u := by
  cases h <;> first | (simp [V.flat1] at hf; done) | constructor
theorem imm1_sound {y y' : V} {u : Value} (h : imm1 y = some y') (hv : VR Z w j y u) : VR Z w j0 y' u ∧ y'.one = true ∧ y.one = true := by
  cases y <;> simp [imm1] at h <;> subst h
  · cases hv; exact ⟨.bool, rfl, rfl⟩
  · cases hv; exact ⟨.int, rfl, rfl⟩
  · cases hv; exact ⟨.str, rfl, rfl⟩
  · cases hv; exact ⟨.sl0, rfl, rfl⟩
  · exact ⟨hv.down j0, rfl, rfl⟩
  · cases hv; exact ⟨.nilP, rfl, rfl⟩
  · exact ⟨hv.litSl.down j0, rfl, rfl⟩
  · cases hv; rename_i hg; exact ⟨.hp hg, rfl, rfl⟩
  · cases hv; rename_i hg; exact ⟨.hm hg, rfl, rfl⟩
  · cases hv; exact ⟨.nilM, rfl, rfl⟩
theorem mapO_get {α β : Type} {f : α → Option β} : ∀ {l : List α} {r : List β}, mapO f l = some r → r.length = l.length ∧ ∀ (i : Nat) (y : β), r[i]? = some y → ∃ x, l[i]? = some x ∧ f x = some y := by
  intro l
  induction l with
  | nil => intro r h; simp [mapO] at h; subst h; exact ⟨rfl, fun i y h => by simp at h⟩
  | cons a l ih =>
    intro r h
    simp only [mapO] at h
    cases h1 : f a with
    | none => simp [h1] at h
    | some b =>
      cases h2 : mapO f l with
      | none => simp [h1, h2] at h
      | some bs =>
        simp [h1, h2] at h
        subst h
        obtain ⟨e1, e2⟩ := ih h2
        refine ⟨by simp [e1], fun i y hy => ?_⟩
        cases i with
        | zero => simp at hy; subst hy; exact ⟨a, rfl, h1⟩
        | succ i => exact e2 i y (by simpa using hy)
theorem putCells_cells {x y : V} {off : Nat} {vs : List V} (h : putCells x off vs = some y) (h1 : ∀ v ∈ vs, v.one = true) : y.cells = x.cells.take off ++ vs ++ x.cells.drop (off + vs.length) ∧ off + vs.length ≤ x.cells.length := by
  unfold putCells at h
  split at h
  · split at h
    · rename_i hle
      cases h
      exact ⟨rfl, hle⟩
    · cases h
  · split at h
    · rename_i v
      split at h
      · rename_i hc
        cases h
        obtain ⟨rfl, hx⟩ := hc
        rw [cells_one hx, cells_one (h1 _ (by simp))]
        simp
      · cases h
    · cases h
theorem store_cells {g p : Nat} {us : Array Value} {t : TypeId} {vals : List Value} (hg : w.heap[g]? = some (.cells us t (0, 0))) (hp : p + vals.length ≤ us.size) :
    (w.setRow g (us.toList.take p ++ vals ++ us.toList.drop (p + vals.length)).toArray).heap[g]? = some (.cells (us.toList.take p ++ vals ++ us.toList.drop (p + vals.length)).toArray t (0, 0)) ∧
    (us.toList.take p ++ vals ++ us.toList.drop (p + vals.length)).toArray.size = us.size ∧
    ∀ o, (w.setRow g (us.toList.take p ++ vals ++ us.toList.drop (p + vals.length)).toArray).cell? ⟨g, o, none⟩ = if p ≤ o ∧ o < p + vals.length then vals[o - p]? else us[o]? := by
  have hg' := setRow_heap w g us (us.toList.take p ++ vals ++ us.toList.drop (p + vals.length)).toArray t (0, 0) hg
  refine ⟨hg', by simp; omega, fun o => ?_⟩
  rw [cell_heap hg']
  have hto : (us.toList.take p).length = p := by simp; omega
  simp only [List.getElem?_toArray, List.append_assoc]
  by_cases h1 : o < p
  · rw [if_neg (by omega), List.getElem?_append_left (by omega), List.getElem?_take, if_pos h1]
    simp
  · rw [List.getElem?_append_right (by omega), hto]
    by_cases h2 : o < p + vals.length
    · rw [if_pos (by omega), List.getElem?_append_left (by omega)]
    · rw [if_neg (by omega), List.getElem?_append_right (by omega), List.getElem?_drop]
      simp only [Array.getElem?_toList]
      congr 1
      omega
theorem run_storeAt {g p : Nat} {us : Array Value} {t t' : TypeId} {u : Value} (hg : w.heap[g]? = some (.cells us t' (0, 0))) (hu : u.cells.size = P.cellsOf t) (h0 : 0 < P.cellsOf t) (h1 : ∀ v ∈ u.cells.toList, v.oneCell' = true)
    (hp : p + u.cells.toList.length ≤ us.size) :
    (Instr.storeAt t (.pointer (some ⟨g, p, none⟩)) u).run P w = .ok () (w.setRow g (us.toList.take p ++ u.cells.toList ++ us.toList.drop (p + u.cells.toList.length)).toArray) := by
  obtain ⟨i, hi, his, _⟩ := info_zero h0
  have hst := run_storeCells_at P g p t' u.cells.toList 0 us w hg (by simpa using hp) h1
  simp only [Nat.add_zero] at hst
  have : ¬ (u.cells.size ≠ i.size) := by omega
  simp only [Instr.storeAt, Instr.sureAddr, storeVar, sizeOf, typeInfo, Sem.run_bind, Sem.run_pure, Result.andThen_ok, run_program, hi]
  rw [if_neg this]
  exact hst
theorem store_sound (s : SR P Z w j mem) {t : TypeId} {p v : V} {u up : Value} (h : storeM P mem t p v = some mem') (hp : VR Z w j p up) (hv : VR Z w j v u) :
    ∃ w1, (Instr.storeAt t up u).run P w = .ok () w1 ∧ PostOf P Z w j mem (.tup []) mem' undef w1 := by
  unfold storeM at h
  split at h
  · rename_i hc
    obtain ⟨hvl, hvp, hv1⟩ := hc
    have hpos : 0 < v.cells.length := by omega
    obtain ⟨hus, hucl⟩ := hv.cellsOf (one_of_all hv1)
    have hu1 : ∀ c ∈ u.cells.toList, c.oneCell' = true := by
      intro c hcm
      obtain ⟨i, hi, rfl⟩ := List.getElem_of_mem hcm
      have hi' : i < v.cells.length := by simp at hi; omega
      have e := List.getElem?_eq_getElem hi'
      obtain ⟨c', hc', hvr⟩ := hucl i _ e
      have : u.cells.toList[i] = c' := by
        have : u.cells[i]? = some u.cells.toList[i] := by simp at hi ⊢
        rw [this] at hc'
        exact Option.some.inj hc'
      rw [this]
      exact hvr.oneCell (one_of_all hv1 _ (List.mem_of_getElem? e))
    have hul : u.cells.toList.length = v.cells.length := by simpa using hus
    have gen : ∀ (id k off g b : Nat) (hn : Han) (o o' : O) (us : Array Value) (t' : TypeId), mem[id]? = some o → o.ar = none → o'.ar = none → o.live = true → o'.live = true → j id = some hn → hn.blk = some g → w.heap[g]? = some (.cells us t' (0, 0)) → 0 < v.cells.length →
        b + v.cells.length ≤ us.size → (∀ x, Z g x → x < b ∨ b + v.cells.length ≤ x) → up = .pointer (some ⟨g, b, none⟩) →
        (∀ w1, w1.heap[g]? = some (.cells (us.toList.take b ++ u.cells.toList ++ us.toList.drop (b + u.cells.toList.length)).toArray t' (0, 0)) →
          (us.toList.take b ++ u.cells.toList ++ us.toList.drop (b + u.cells.toList.length)).toArray.size = us.size → ZExt Z w Z w1 →
          (∀ x, w1.cell? ⟨g, x, none⟩ = if b ≤ x ∧ x < b + u.cells.toList.length then u.cells.toList[x - b]? else us[x]?) → OR P Z w1 j id o') →
        mem' = mem.set id o' → ∃ w1, (Instr.storeAt t up u).run P w = .ok () w1 ∧ PostOf P Z w j mem (.tup []) mem' undef w1 := by
      intro id k off g b hn o o' us t' hm har har' hl hl' hj hb hg hpos hle hzz hup hor hmem
      subst hup hmem
      obtain ⟨h1, h2, h3⟩ := store_cells (w := w) (p := b) (vals := u.cells.toList) hg (by omega)
      refine ⟨_, run_storeAt hg (by omega) (by omega) hu1 (by omega), ?_⟩
      have hot : ∀ k, k ≠ g → (w.setRow g (us.toList.take b ++ u.cells.toList ++ us.toList.drop (b + u.cells.toList.length)).toArray).heap[k]? = w.heap[k]? := fun k hk => setRow_other w g k _ hk
      have hz' : ZExt Z w Z (w.setRow g (us.toList.take b ++ u.cells.toList ++ us.toList.drop (b + u.cells.toList.length)).toArray) := by
        refine .of fun g' x hx => ⟨hx, ?_⟩
        by_cases e : g' = g
        · subst e
          have := hzz x hx
          refine ⟨by rw [h3 x, if_neg (by omega), cell_heap hg], ?_⟩
          simp only [kindOf, h1, hg, h2]
        · exact same_block (hot g' e) x
      have hne : ∀ g', blkOf j id ≠ some g' → g' ≠ g := by
        intro g' h e
        subst e
        exact h (by simp [blkOf, hj, hb])
      refine ⟨Z, j, .tup (us := []) rfl (fun i c u hc => by simp at hc), s.set hm (fun _ => hl) hz' (fun g' hg' => ⟨hot g' (hne g' hg'), fun _ => Iff.rfl⟩) (fun g' x hx => by simpa using s.zin g' x hx) (fun h => by rw [hl] at h; cases h) (hor _ h1 h2 hz' h3) har har', ?_, JExt.refl _⟩
      exact Stp.set hm (fun _ => hl) hl hz' (fun g' hg' => ⟨hot g' (hne g' hg'), fun _ => Iff.rfl⟩) rfl rfl rfl (by simp) har har'
    cases p <;> simp only at h <;> first | (cases h; done) | skip
    case hp t' k off =>
      simp only [Option.bind_eq_some_iff, Option.map_eq_some_iff] at h
      obtain ⟨⟨id, els⟩, hf, x, hk, vs, hvs, y, hpc, rfl⟩ := h
      simp only at hk
      have hm := findA_mem hf
      have hO := s.obj id _ hm
      obtain ⟨hvsl, hvsg⟩ := mapO_get hvs
      have hvs1 : ∀ z ∈ vs, z.one = true := by
        intro z hz
        obtain ⟨i, hi, rfl⟩ := List.getElem_of_mem hz
        obtain ⟨y0, hy0, hy1⟩ := hvsg i _ (List.getElem?_eq_getElem hi)
        obtain ⟨c, hc, hcv⟩ := hucl i y0 hy0
        exact (imm1_sound hy1 hcv).2.1
      obtain ⟨hyc, hle⟩ := putCells_cells hpc hvs1
      have hkl : k < els.length := (List.getElem?_eq_some_iff.1 hk).1
      cases hp with
      | hp hga =>
        rename_i g
        obtain ⟨us, hg, hxl, husl, hpos', hcells, hnz⟩ := hO.2 k x g hk hga
        obtain ⟨h1, h2, h3⟩ := store_cells (w := w) (p := off) (vals := u.cells.toList) hg (by omega)
        refine ⟨_, run_storeAt hg (by omega) (by omega) hu1 (by omega), ?_⟩
        have hot : ∀ k, k ≠ g → (w.setRow g (us.toList.take off ++ u.cells.toList ++ us.toList.drop (off + u.cells.toList.length)).toArray).heap[k]? = w.heap[k]? := fun k hk => setRow_other w g k _ hk
        have hz' : ZExt Z w Z (w.setRow g (us.toList.take off ++ u.cells.toList ++ us.toList.drop (off + u.cells.toList.length)).toArray) := by
          refine .of fun g' x hx => ⟨hx, ?_⟩
          by_cases e : g' = g
          · subst e
            exact (hnz x hx).elim
          · exact same_block (hot g' e) x
        obtain ⟨q1, q2⟩ := s.setA (o' := .arena t' (els.set k y)) hm (n := els.length) (t := t') rfl (by simp [O.ar]) hz' (fun g' hg' => ⟨hot g' fun e => hg' ⟨k, hkl, by rw [e]; exact hga⟩, fun _ => Iff.rfl⟩) (fun g' x hx => by simpa using s.zin g' x hx) rfl rfl rfl (by simp) (by
          refine ⟨by rw [List.length_set]; exact hO.1, fun k' x' g' hk' hg' => ?_⟩
          by_cases e : k = k'
          · subst e
            rw [hga] at hg'; cases hg'
            rw [List.getElem?_set_self hkl] at hk'
            cases hk'
            refine ⟨_, h1, by rw [hyc]; simp; omega, by omega, hpos', fun i y' hy' => ?_, hnz⟩
            rw [h3]
            rw [hyc] at hy'
            have hto : (x.cells.take off).length = off := by simp; omega
            by_cases hi1 : i < off
            · rw [List.append_assoc, List.getElem?_append_left (by omega), List.getElem?_take, if_pos hi1] at hy'
              rw [if_neg (by omega)]
              obtain ⟨a, u', hu'', hvv⟩ := hcells i y' hy'
              rw [cell_heap hg] at hu''
              exact ⟨a, u', hu'', hvv.mono hz' (JExt.refl _)⟩
            · rw [List.append_assoc, List.getElem?_append_right (by omega), hto] at hy'
              by_cases hi2 : i - off < vs.length
              · rw [List.getElem?_append_left hi2] at hy'
                rw [if_pos (by omega)]
                obtain ⟨y0, hy0, hy1⟩ := hvsg _ _ hy'
                obtain ⟨c, hc, hcv⟩ := hucl _ y0 hy0
                obtain ⟨q1, q2, _⟩ := imm1_sound hy1 hcv
                refine ⟨q2, c, ?_, q1.mono hz' (JExt.refl _)⟩
                rw [← hc, show 0 + i - off = i - off by omega]
                simp
              · rw [List.getElem?_append_right (by omega), List.getElem?_drop] at hy'
                rw [if_neg (by omega)]
                rw [show off + vs.length + (i - off - vs.length) = i by omega] at hy'
                obtain ⟨a, u', hu'', hvv⟩ := hcells i y' hy'
                rw [cell_heap hg] at hu''
                exact ⟨a, u', hu'', hvv.mono hz' (JExt.refl _)⟩
          · rw [List.getElem?_set_ne e] at hk'
            exact (hO.2 k' x' g' hk' hg').mono hz' ⟨hot g' fun e' => e (hO.1.inj k k' g hga (by rw [← e']; exact hg')), fun _ => Iff.rfl⟩)
        exact ⟨Z, j, .tup (us := []) rfl (fun i c u hc => by simp at hc), q1, q2, JExt.refl _⟩
    rename_i id k off
    cases hp with
    | ptr hj hs =>
      rename_i g b0 hn
      cases hm : mem[id]? with
      | none => simp [hm] at h
      | some o =>
        have hO := s.obj id o hm
        cases o <;> simp only [hm] at h <;> first | (cases h; done) | skip
        case row t' els fz =>
          split at h
          · rename_i hfk
            cases hk : els[k]? with
            | none => simp [hk] at h
            | some x =>
              cases hvs : mapO imm1 v.cells with
              | none => simp [hk, hvs] at h
              | some vs =>
                cases hpc : putCells x off vs with
                | none => simp [hk, hvs, hpc] at h
                | some y =>
                  simp [hk, hvs, hpc] at h
                  obtain ⟨hvsl, hvsg⟩ := mapO_get hvs
                  have hvs1 : ∀ z ∈ vs, z.one = true := by
                    intro z hz
                    obtain ⟨i, hi, rfl⟩ := List.getElem_of_mem hz
                    obtain ⟨y0, hy0, hy1⟩ := hvsg i _ (List.getElem?_eq_getElem hi)
                    obtain ⟨c, hc, hcv⟩ := hucl i y0 hy0
                    exact (imm1_sound hy1 hcv).2.1
                  obtain ⟨hyc, hle⟩ := putCells_cells hpc hvs1
                  obtain ⟨hn', hh, h1, h2, h3, h4, h5⟩ := hO
                  rw [hj] at hh; cases hh
                  have hxl := h4 x (List.mem_of_getElem? hk)
                  have hkl : k < els.length := (List.getElem?_eq_some_iff.1 hk).1
                  rcases h5 with ⟨_, he⟩ | ⟨g', b', c', us, hu', hlc, hcm, hg, hsz, hcells, hz1, hz2⟩
                  · subst he; simp at hkl
                  · have e : (g', b') = (g, b0) := by cases hn; simp at hu'; subst hu'; simpa [Han.start] using hs
                    cases e
                    have hkk : (k + 1) * hn.sz ≤ els.length * hn.sz := Nat.mul_le_mul_right _ hkl
                    have hcc : els.length * hn.sz ≤ c' * hn.sz := Nat.mul_le_mul_right _ hlc
                    rw [Nat.succ_mul] at hkk
                    refine gen id k off g (b0 + (k * hn.sz + off)) hn _ (.row t' (els.set k y) fz) us t' hm rfl rfl rfl rfl hj (by cases hn; simp at hu'; subst hu'; rfl) hg hpos (by omega) (fun x' hx' => .inl ?_) rfl (fun w1 hw1 hsz1 hz' hcell => ?_) h.symm
                    · have := (hz1 x' hx').2
                      have : fz * hn.sz ≤ k * hn.sz := Nat.mul_le_mul_right _ hfk
                      omega
                    · refine ⟨hn, hj, h1, h2, by simpa using h3, fun z hz => ?_, .inr ⟨g, b0, c', _, by simpa using hu', by simpa using hlc, hcm, hw1, by omega, fun k' x' hk' i y' hy' => ?_, hz1, hz2⟩⟩
                      · rcases List.mem_or_eq_of_mem_set hz with hz | hz
                        · exact h4 z hz
                        · subst hz
                          rw [hyc]; simp; omega
                      · rw [hcell]
                        by_cases ek : k = k'
                        · subst ek
                          rw [List.getElem?_set_self hkl] at hk'
                          cases hk'
                          rw [hyc] at hy'
                          have hto : (x.cells.take off).length = off := by simp; omega
                          by_cases hi1 : i < off
                          · rw [List.append_assoc, List.getElem?_append_left (by omega), List.getElem?_take, if_pos hi1] at hy'
                            rw [if_neg (by omega)]
                            obtain ⟨a, u', hu'', hvv⟩ := hcells k x hk i y' hy'
                            rw [cell_heap hg] at hu''
                            exact ⟨a, u', hu'', hvv.mono hz' (JExt.refl _)⟩
                          · rw [List.append_assoc, List.getElem?_append_right (by omega), hto] at hy'
                            by_cases hi2 : i - off < vs.length
                            · rw [List.getElem?_append_left hi2] at hy'
                              rw [if_pos (by omega)]
                              obtain ⟨y0, hy0, hy1⟩ := hvsg _ _ hy'
                              obtain ⟨c, hc, hcv⟩ := hucl _ y0 hy0
                              obtain ⟨q1, q2, _⟩ := imm1_sound hy1 hcv
                              refine ⟨q2, c, ?_, q1.mono hz' (JExt.refl _)⟩
                              rw [← hc, show b0 + k * hn.sz + i - (b0 + (k * hn.sz + off)) = i - off by omega]
                              simp
                            · rw [List.getElem?_append_right (by omega), List.getElem?_drop] at hy'
                              rw [if_neg (by omega)]
                              rw [show off + vs.length + (i - off - vs.length) = i by omega] at hy'
                              obtain ⟨a, u', hu'', hvv⟩ := hcells k x hk i y' hy'
                              rw [cell_heap hg] at hu''
                              exact ⟨a, u', hu'', hvv.mono hz' (JExt.refl _)⟩
                        · rw [List.getElem?_set_ne ek] at hk'
                          have hx'l := h4 x' (List.mem_of_getElem? hk')
                          have hil : i < hn.sz := by rw [← hx'l]; exact (List.getElem?_eq_some_iff.1 hy').1
                          have hout : ¬ (b0 + (k * hn.sz + off) ≤ b0 + k' * hn.sz + i ∧ b0 + k' * hn.sz + i < b0 + (k * hn.sz + off) + u.cells.toList.length) := by
                            rintro ⟨q1, q2⟩
                            rcases Nat.lt_or_gt_of_ne ek with hlt | hgt
                            · have : (k + 1) * hn.sz ≤ k' * hn.sz := Nat.mul_le_mul_right _ hlt
                              rw [Nat.succ_mul] at this
                              omega
                            · have : (k' + 1) * hn.sz ≤ k * hn.sz := Nat.mul_le_mul_right _ hgt
                              rw [Nat.succ_mul] at this
                              omega
                          rw [if_neg hout]
                          obtain ⟨a, u', hu'', hvv⟩ := hcells k' x' hk' i y' hy'
                          rw [cell_heap hg] at hu''
                          exact ⟨a, u', hu'', hvv.mono hz' (JExt.refl _)⟩
          · cases h
        case box t' x fz =>
          split at h
          · rename_i hc
            obtain ⟨rfl, rfl⟩ := hc
            have htl : (v.cells.map (tailed mem)).length = v.cells.length := by simp
            have ht1 : ∀ y ∈ v.cells.map (tailed mem), y.one = true := by
              intro y hy
              obtain ⟨z, hz, rfl⟩ := List.mem_map.1 hy
              rw [tailed_one]
              exact one_of_all hv1 z hz
            have hut : ∀ (i : Nat) (y : V), (v.cells.map (tailed mem))[i]? = some y → ∃ c, u.cells[i]? = some c ∧ VR Z w j y c := by
              intro i y hy
              rw [List.getElem?_map] at hy
              cases hz : v.cells[i]? with
              | none => simp [hz] at hy
              | some z =>
                simp [hz] at hy
                subst hy
                obtain ⟨c, hc, hcv⟩ := hucl i z hz
                exact ⟨c, hc, tailed_sound s hcv⟩
            obtain ⟨vt, hvt⟩ : ∃ vt, vt = v.cells.map (tailed mem) := ⟨_, rfl⟩
            rw [← hvt] at htl ht1 hut h
            cases hpc : putCells x off vt with
            | none => simp [hpc] at h
            | some y =>
              simp [hpc] at h
              obtain ⟨hyc, hle⟩ := putCells_cells hpc ht1
              obtain ⟨g', us, hj', hg, hxl, husl, hcells, hz1, hz2⟩ := hO
              rw [hj] at hj'; cases hj'
              have e : (g', 0) = (g, b0) := by simpa [Han.start] using hs
              cases e
              refine gen id 0 off g (0 + (0 * P.cellsOf t' + off)) _ _ (.box t' y false) us t' hm rfl rfl rfl rfl hj rfl hg hpos (by omega) (fun x' hx' => by have := hz1 x' hx'; simp at this) rfl (fun w1 hw1 hsz1 hz' hcell => ?_) h.symm
              refine ⟨g, _, hj, hw1, by rw [hyc]; simp; omega, by omega, fun i y' hy' => ?_, hz1, fun h => by simp at h⟩
              rw [hcell]
              rw [hyc] at hy'
              have hto : (x.cells.take off).length = off := by simp; omega
              by_cases hi1 : i < off
              · rw [List.append_assoc, List.getElem?_append_left (by omega), List.getElem?_take, if_pos hi1] at hy'
                rw [if_neg (by omega)]
                obtain ⟨a, u', hu'', hvv⟩ := hcells i y' hy'
                rw [cell_heap hg] at hu''
                exact ⟨a, u', hu'', hvv.mono hz' (JExt.refl _)⟩
              · rw [List.append_assoc, List.getElem?_append_right (by omega), hto] at hy'
                by_cases hi2 : i - off < vt.length
                · rw [List.getElem?_append_left hi2] at hy'
                  rw [if_pos (by omega)]
                  obtain ⟨c, hc, hcv⟩ := hut _ y' hy'
                  refine ⟨ht1 _ (List.mem_of_getElem? hy'), c, ?_, hcv.mono hz' (JExt.refl _)⟩
                  rw [← hc, show 0 + i - (0 + (0 * P.cellsOf t' + off)) = i - off by omega]
                  simp
                · rw [List.getElem?_append_right (by omega), List.getElem?_drop] at hy'
                  rw [if_neg (by omega)]
                  rw [show off + vt.length + (i - off - vt.length) = i by omega] at hy'
                  obtain ⟨a, u', hu'', hvv⟩ := hcells i y' hy'
                  rw [cell_heap hg] at hu''
                  exact ⟨a, u', hu'', hvv.mono hz' (JExt.refl _)⟩
          · cases h
  · cases h
end
end Go.Lite