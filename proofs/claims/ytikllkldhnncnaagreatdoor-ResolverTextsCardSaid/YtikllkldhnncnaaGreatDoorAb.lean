/- What the operations do to abstract values: reads, addresses, parts, scalars. What the operations do to abstract values: scalars, strings, parts of values. What the operations do to abstract values: comparisons with nil, one operand, conversions, cuts, lengths. -/
import Derived.Lib.Strings
import Derived.Laws.BytesArg
import Derived.Laws.Strings2
import Derived.Test.YtikllkldhnncnaaGreatDoorAa
set_option linter.all false
namespace Go.Aw

/-- A result that may ask for facts, or stand at a test. -/
inductive Ev (α : Type) where
  | ret (a : α)
  | need (p : Prop) (k : Ev α)
  | fork (b : Bool) (x y : Ev α)
  | bad
def Ev.holds {α : Type} : Ev α → (α → Prop) → Prop
  | .ret a, Q => Q a
  | .need p k, Q => p ∧ k.holds Q
  | .fork b x y, Q => (b = true → x.holds Q) ∧ (b = false → y.holds Q)
  | .bad, _ => False

/-- An operation that only reads: what it gives. -/
def Reads (P : Program) (e : Sem Value) (K : Sto) (σ : Plc) (O : List AObj) (w : World) (E : Ev AV) : Prop :=
  ∀ Q, E.holds Q → ∃ v x, Q x ∧ e.run P w = .ok v w ∧ Rep K σ O v x

section
variable {P : Program} {K : Sto} {σ : Plc} {O : List AObj} {w : World} {c : Ctx}

theorem Reads.ret {e : Sem Value} {v : Value} {x : AV} (hr : e.run P w = .ok v w) (hx : Rep K σ O v x) : Reads P e K σ O w (.ret x) :=
  fun _ hq => ⟨v, x, hq, hr, hx⟩
theorem Reads.need {e : Sem Value} {p : Prop} {E : Ev AV} (h : p → Reads P e K σ O w E) : Reads P e K σ O w (.need p E) := fun Q hq => h hq.1 Q hq.2
theorem Reads.fork {e : Sem Value} {b : Bool} {E F : Ev AV} (h1 : b = true → Reads P e K σ O w E) (h2 : b = false → Reads P e K σ O w F) : Reads P e K σ O w (.fork b E F) := by
  intro Q hq
  cases b with
  | true => exact h1 rfl Q (hq.1 rfl)
  | false => exact h2 rfl Q (hq.2 rfl)
theorem Reads.bad {e : Sem Value} : Reads P e K σ O w .bad := fun _ h => h.elim

/-- A value of one cell. -/
def AV.one : AV → Bool
  | .agg _ | .tup _ | .any => false
  | .lit v => v.oneCell'
  | _ => true
theorem Rep.one {v : Value} {x : AV} (h : Rep K σ O v x) (hx : x.one = true) : v.oneCell' = true := by
  cases h <;> first | rfl | exact hx | assumption | (simp [AV.one] at hx)
theorem cells_one {v : Value} (h : v.oneCell' = true) : v.cells = #[v] := by cases v <;> first | rfl | (simp [Value.oneCell'] at h)

/-- A cell that leads to no object of this call's. -/
def closed1 : AV → Bool
  | .lit _ | .str _ | .seq _ | .full _ | .ref _ _ | .mapv _ | .any | .clo _ [] => true
  | _ => false
theorem Rep.closed {v : Value} {x : AV} (h : Rep K σ O v x) (hx : closed1 x = true) : Rep K σ [] v x := by
  cases h with
  | lit => exact .lit _
  | any => exact .any _
  | str s hs => exact .str s hs
  | seq xs a cap sz u h1 h2 h3 h4 h5 => exact .seq xs a cap sz u h1 h2 h3 h4 h5
  | full xs a sz u h1 h2 h3 h4 => exact .full xs a sz u h1 h2 h3 h4
  | ref xs off b base arr t fr u h1 h2 h3 => exact .ref xs off b base arr t fr u h1 h2 h3
  | mapv es b ents clock h1 h2 h3 h4 => exact .mapv es b ents clock h1 h2 h3 h4
  | clo f xs vs h1 h2 => cases xs with
    | nil => exact .clo f [] vs h1 (fun i hi => by simp at hi)
    | cons x xs => cases hx
  | _ => cases hx
/-- The cells of a value. -/
def cellsA : AV → Option (List AV)
  | .agg ys => if ys.all AV.one then some ys else none
  | x => if x.one then some [x] else none
theorem Rep.cellsOne {v : Value} {x : AV} (h : Rep K σ O v x) (hx : x.one = true) :
    v.cells.size = [x].length ∧ (∀ i (hi : i < [x].length), Rep K σ O (v.cells.getD i undef) [x][i]) ∧ ∀ u ∈ v.cells.toList, u.oneCell' = true := by
  have h1 := h.one hx
  rw [cells_one h1]
  refine ⟨rfl, fun i hi => ?_, by simpa using h1⟩
  obtain rfl : i = 0 := by simpa using hi
  exact h
theorem Rep.cells {v : Value} {x : AV} {ys : List AV} (h : Rep K σ O v x) (hx : cellsA x = some ys) :
    v.cells.size = ys.length ∧ (∀ i (hi : i < ys.length), Rep K σ O (v.cells.getD i undef) ys[i]) ∧ ∀ u ∈ v.cells.toList, u.oneCell' = true := by
  unfold cellsA at hx
  split at hx
  · rename_i zs
    split at hx
    · rename_i hall
      cases hx
      cases h with
      | agg _ vs h1 h2 =>
        refine ⟨h1, h2, fun u hu => ?_⟩
        obtain ⟨i, hi, rfl⟩ := List.mem_iff_getElem.1 hu
        have hi' : i < vs.size := by simpa [Value.cells] using hi
        have := h2 i (by omega)
        have h3 := this.one (by
          have := List.all_eq_true.1 hall ys[i] (List.getElem_mem _)
          exact this)
        simpa [Value.cells, hi'] using h3
    · cases hx
  · split at hx
    · rename_i h1; cases hx; exact h.cellsOne h1
    · cases hx

/-- What lies at a pointer: its cells lie in memory one behind the other. -/
structure At (K : Sto) (σ : Plc) (O : List AObj) (w : World) (v : Value) (xs : List AV) (m off : Nat) : Prop where
  len : m ≤ xs.length
  at_ : ∃ b base, v = .pointer (some ⟨b, base + off, none⟩) ∧ ∀ i, i < m → ∃ u, w.cell? ⟨b, base + i, none⟩ = some u ∧ Rep K σ O u (xs.getD i .any)

theorem At.box (h : RA c K σ O w) {v : Value} {id off : Nat} {xs : List AV} (hv : Rep K σ O v (.ptr id off)) (ho : O[id]? = some (.box xs)) : At K σ O w v xs xs.length off := by
  cases hv with
  | ptr _ _ _ h1 h2 h3 =>
    have h0 := h.objs id
    rw [ho] at h0
    obtain ⟨_, arr, t, fr, hb, _, hs, hr⟩ := h0
    refine ⟨Nat.le_refl _, ⟨(σ id).1, 0, by simpa using h3 xs ho, fun i hi => ⟨arr.getD i undef, ?_, ?_⟩⟩⟩
    · rw [cell_of hb]; simp [hs, hi]
    · simpa [hi] using hr i hi
theorem At.pel (h : RA c K σ O w) {v : Value} {id len i off sz : Nat} {xs : List (List AV)} (hv : Rep K σ O v (.pel id len i off)) (ho : O[id]? = some (.buf sz xs)) (hl : len = xs.length) :
    At K σ O w v (xs.getD i []) sz off := by
  cases hv with
  | pel _ _ _ _ _ h1 h2 hil h3 =>
    have h0 := h.objs id
    rw [ho] at h0
    obtain ⟨_, arr, t, fr, hb, _, hs, hcap, _, hsz, hr⟩ := h0
    have hi : i < xs.length := by omega
    refine ⟨by simp [hi, hsz _ (List.getElem_mem hi)], ⟨(σ id).1, i * sz, (h3 sz xs ho).2 hl, fun j hj => ⟨arr.getD (i * sz + j) undef, ?_, ?_⟩⟩⟩
    · rw [cell_of hb]
      have : i * sz + j < arr.size := by
        rw [hs]
        calc i * sz + j < i * sz + sz := by omega
          _ = (i + 1) * sz := by rw [Nat.add_mul]; omega
          _ ≤ (σ id).2 * sz := Nat.mul_le_mul_right _ (by omega)
      simp [this]
    · have hj' : j < xs[i].length := by rw [hsz _ (List.getElem_mem _)]; exact hj
      have := hr i hi j hj'
      simpa [hi, hj'] using this
theorem At.ref (h : RA c K σ O w) {v : Value} {xs : List AV} {off : Nat} (hv : Rep K σ O v (.ref xs off)) : At K σ O w v xs xs.length off := by
  cases hv with
  | ref _ _ b base arr t fr u h1 h2 h3 =>
    refine ⟨Nat.le_refl _, ⟨b, base, rfl, fun i hi => ⟨u i, ?_, ?_⟩⟩⟩
    · rw [cell_of (h.cons b _ h1)]; exact h2 i hi
    · simpa [hi] using (h3 i hi).lift (σ' := σ) (O := O)

def loadC (k : TK) (n : Nat) (xs : List AV) (m off : Nat) : Ev AV :=
  if agT k then .need (off + n ≤ m) (.ret (.agg ((xs.drop off).take n)))
  else .need (off < m) (.ret (xs.getD off .any))
def loadE (P : Program) (O : List AObj) (t : TypeId) (p : AV) : Ev AV :=
  match szT P t, tk P t with
  | some n, some k => match p with
    | .ptr id off => match O[id]? with
      | some (.box xs) => loadC k n xs xs.length off
      | _ => .bad
    | .ref xs off => loadC k n xs xs.length off
    | .pel id len i off => match O[id]? with
      | some (.buf sz xs) => .need (len = xs.length) (loadC k n (xs.getD i []) sz off)
      | _ => .bad
    | _ => .bad
  | _, _ => .bad
theorem loadC_ok {t : TypeId} {n : Nat} {k : TK} (hn : szT P t = some n) (hk : tk P t = some k) {v : Value} {xs : List AV} {m off : Nat} (h : At K σ O w v xs m off) :
    Reads P (Instr.loadAt t v) K σ O w (loadC k n xs m off) := by
  obtain ⟨b, base, rfl, hc⟩ := h.at_
  unfold loadC
  by_cases hag : agT k = true
  · rw [if_pos hag]
    refine .need fun hle => ?_
    have hall : ∀ j, ∃ u, j < n → w.cell? (⟨b, base + off, none⟩ : Addr) = w.cell? ⟨b, base + off, none⟩ ∧ w.cell? ((⟨b, base + off, none⟩ : Addr).add j) = some u ∧ Rep K σ O u (xs.getD (off + j) .any) := by
      intro j
      by_cases hj : j < n
      · obtain ⟨u, hu, hr⟩ := hc (off + j) (by omega)
        refine ⟨u, fun _ => ⟨rfl, ?_, hr⟩⟩
        rw [add_at, Nat.add_assoc]; exact hu
      · exact ⟨undef, fun h => (hj h).elim⟩
    obtain ⟨u, hu⟩ := Classical.axiomOfChoice hall
    refine .ret (v := .agg ((List.range n).map u).toArray) ?_ ?_
    · simp [Instr.loadAt, Instr.sureAddr, loadVar, run_isAgg hk, hag, run_sizeOf hn, run_loadCells u (fun j hj => (hu j hj).2.1)]
    · have hlen := h.len
      refine .agg _ _ (by simp; omega) fun i hi => ?_
      have hi' : i < n := by simp at hi; omega
      have := (hu i hi').2.2
      have h1 : off + i < xs.length := by omega
      simpa [hi', h1] using this
  · rw [if_neg hag]
    refine .need fun hlt => ?_
    obtain ⟨u, hu, hr⟩ := hc off hlt
    refine .ret (v := u) ?_ hr
    simp [Instr.loadAt, Instr.sureAddr, loadVar, run_isAgg hk, hag, hu]
theorem loadE_ok (h : RA c K σ O w) {t : TypeId} {v : Value} {p : AV} (hv : Rep K σ O v p) : Reads P (Instr.loadAt t v) K σ O w (loadE P O t p) := by
  unfold loadE
  split
  · rename_i n k hn hk
    split
    · split
      · rename_i ho; exact loadC_ok hn hk (At.box h hv ho)
      · exact .bad
    · exact loadC_ok hn hk (At.ref h hv)
    · split
      · rename_i ho; exact .need fun hl => loadC_ok hn hk (At.pel h hv ho hl)
      · exact .bad
    · exact .bad
  · exact .bad

/-- An address some cells further on. -/
def offE (O : List AObj) (p : AV) (n : Nat) : Ev AV :=
  match p with
  | .ptr id off => match O[id]? with
    | some (.box _) => .ret (.ptr id (off + n))
    | _ => .bad
  | .ref xs off => .ret (.ref xs (off + n))
  | .pel id len i off => match O[id]? with
    | some (.buf _ xs) => .need (len = xs.length) (.ret (.pel id len i (off + n)))
    | _ => .bad
  | _ => .bad
theorem offE_ok {e : Sem Value} {n : Nat} {v : Value} {p : AV} (hv : Rep K σ O v p)
    (he : ∀ b o, v = .pointer (some ⟨b, o, none⟩) → e.run P w = .ok (.pointer (some ⟨b, o + n, none⟩)) w) : Reads P e K σ O w (offE O p n) := by
  cases hv with
  | ptr _ id off h1 h2 h3 =>
    unfold offE; dsimp only
    split
    · rename_i xs hx
      refine .ret (he _ _ (h3 xs hx)) (.ptr _ _ _ rfl h2 fun ys hy => rfl)
    · exact .bad
  | pel _ id len i off h1 h2 hil h3 =>
    unfold offE; dsimp only
    split
    · rename_i sz xs hx
      refine .need fun hl => .ret (he _ _ ((h3 sz xs hx).2 hl)) (.pel _ _ _ _ _ rfl h2 hil fun sz' ys hy => ?_)
      rw [hx] at hy; cases hy
      exact ⟨by omega, fun _ => by rw [Nat.add_assoc]⟩
    · exact .bad
  | ref xs off b base arr t fr u h1 h2 h3 =>
    refine .ret (he _ _ rfl) ?_
    rw [Nat.add_assoc]
    exact .ref xs (off + n) b base arr t fr u h1 h2 h3
  | _ => exact .bad

def fieldAddrE (P : Program) (O : List AObj) (s : TypeId) (p : AV) (i : Nat) : Ev AV :=
  match tk P s with
  | some (.struct fs) => match fs[i]? with
    | some (fo, fsz, _) => .need (fsz ≠ 0) (offE O p fo)
    | none => .bad
  | _ => .bad
theorem struct_of {s : TypeId} {fs : List (Nat × Nat × Bool)} (h : tk P s = some (.struct fs)) :
    ∃ fields, P.underlying s = some (.struct fields) ∧ fs = fields.toList.map (fun f => (f.offset, P.cellsOf f.type, aggB P f.type)) ∧ fldsOk P fields = true := by
  unfold tk at h
  cases hu : P.underlying s with
  | none => rw [hu] at h; cases h
  | some d =>
    rw [hu] at h
    cases d <;> simp at h
    rename_i fields
    split at h
    · rename_i hok; simp at h; exact ⟨fields, rfl, h.symm, hok⟩
    · cases h
theorem sizeOf_cells {t : TypeId} (h : P.cellsOf t ≠ 0) : (sizeOf t).run P w = .ok (P.cellsOf t) w := by
  unfold Program.cellsOf at h ⊢
  cases hi : P.info? t with
  | none => rw [hi] at h; exact (h rfl).elim
  | some i => simp [sizeOf, typeInfo, hi]
theorem fieldAddrE_ok {s : TypeId} {v : Value} {p : AV} {i : Nat} (hv : Rep K σ O v p) : Reads P (Instr.fieldAt s v i) K σ O w (fieldAddrE P O s p i) := by
  unfold fieldAddrE
  split
  · rename_i fs hs
    split
    · rename_i fo fsz ag hf
      obtain ⟨fields, hu, rfl, _⟩ := struct_of hs
      simp only [List.getElem?_map, Option.map_eq_some_iff, Prod.mk.injEq] at hf
      obtain ⟨fd, hfd, rfl, rfl, rfl⟩ := hf
      refine .need fun hne => offE_ok hv fun b o hvo => ?_
      have hfd' : fields[i]? = some fd := by simpa using hfd
      subst hvo
      simp [Instr.fieldAt, run_underlying hu, hfd', Instr.sureAddr, fieldPlace, sizeOf_cells hne, hne, add_at]
    · exact .bad
  · exact .bad

/-- The element of a row that lies in memory that never turns. -/
theorem Rep.elem {v : Value} {xs : List (List AV)} (hv : Rep K σ O v (.seq xs) ∨ Rep K σ O v (.full xs)) {i : Nat} (hi : i < xs.length) :
    ∃ b o cap sz, v = .slice (some ⟨b, o, none⟩) xs.length cap ∧ (∀ x ∈ xs, x.length = sz) ∧ Rep K σ O (.pointer (some ⟨b, o + i * sz, none⟩)) (.ref xs[i] 0) := by
  have hne : xs ≠ [] := by intro h; subst h; simp at hi
  rcases hv with hv | hv
  · cases hv with
    | seq _ a cap sz u h1 h2 h3 h4 h5 =>
      obtain ⟨b, o, arr, t, fr, rfl, hb, hc⟩ := h2 hne
      refine ⟨b, o, cap, sz, rfl, h1, .ref xs[i] 0 b (o + i * sz) arr t fr (u i) hb (fun j hj => ?_) (h5 i hi)⟩
      exact hc i j hi (by rw [← h1 _ (List.getElem_mem hi)]; exact hj)
  · cases hv with
    | full _ a sz u h1 h2 h3 h5 =>
      obtain ⟨b, o, arr, t, fr, rfl, hb, hc⟩ := h2 hne
      refine ⟨b, o, xs.length, sz, rfl, h1, .ref xs[i] 0 b (o + i * sz) arr t fr (u i) hb (fun j hj => ?_) (h5 i hi)⟩
      exact hc i j hi (by rw [← h1 _ (List.getElem_mem hi)]; exact hj)

def inB (i : Int) (n : Nat) : Prop := 0 ≤ i ∧ i.toNat < n
def indexAddrE (P : Program) (O : List AObj) (t : TypeId) (x ix : AV) : Ev AV :=
  match ix with
  | .lit (.int _ i) => match tk P t with
    | some (.slice e) => match szT P e with
      | some sz => match x with
        | .seq xs => .need (inB i xs.length) (.need ((xs.getD i.toNat []).length = sz) (.ret (.ref (xs.getD i.toNat []) 0)))
        | .full xs => .need (inB i xs.length) (.need ((xs.getD i.toNat []).length = sz) (.ret (.ref (xs.getD i.toNat []) 0)))
        | .own id len => match O[id]? with
          | some (.buf sz' xs) => .need (len = xs.length ∧ sz' = sz) (.need (inB i len) (.ret (.pel id len i.toNat 0)))
          | _ => .bad
        | _ => .bad
      | none => .bad
    | some (.arr n e) => match szT P e with
      | some sz => .need (inB i n) (offE O x (i.toNat * sz))
      | none => .bad
    | _ => .bad
  | _ => .bad
theorem slice_of {t e : TypeId} (h : tk P t = some (.slice e)) : P.underlying t = some (.slice e) := by
  unfold tk at h
  cases hu : P.underlying t with
  | none => rw [hu] at h; cases h
  | some d => rw [hu] at h; cases d <;> simp at h <;> first | (rw [h]; done) | (split at h <;> simp at h)
theorem arr_of {t n e : TypeId} (h : tk P t = some (.arr n e)) : P.underlying t = some (.array n e) := by
  unfold tk at h
  cases hu : P.underlying t with
  | none => rw [hu] at h; cases h
  | some d => rw [hu] at h; cases d <;> simp at h <;> first | (rw [h.1, h.2]; done) | (split at h <;> simp at h)
theorem Rep.int {v : Value} {k : IntKind} {n : Int} (h : Rep K σ O v (.lit (.int k n))) : v = .int k n := by cases h; rfl
theorem Rep.litv {v u : Value} (h : Rep K σ O v (.lit u)) : v = u := by cases h; rfl
theorem indexAddrE_ok {t : TypeId} {v u : Value} {x ix : AV} (hv : Rep K σ O v x) (hu : Rep K σ O u ix) : Reads P (Instr.indexAt t v u) K σ O w (indexAddrE P O t x ix) := by
  unfold indexAddrE
  split
  · rename_i k i
    obtain rfl := hu.int
    split
    · rename_i e ht
      have hut := slice_of ht
      split
      · rename_i sz hsz
        have hseq : ∀ xs, Rep K σ O v (.seq xs) ∨ Rep K σ O v (.full xs) →
            Reads P (Instr.indexAt t v (.int k i)) K σ O w (.need (inB i xs.length) (.need ((xs.getD i.toNat []).length = sz) (.ret (.ref (xs.getD i.toNat []) 0)))) := by
          intro xs hv
          refine .need fun ⟨h0, hi⟩ => .need fun hl => ?_
          obtain ⟨b, o, cap, sz', rfl, hall, hr⟩ := Rep.elem hv hi
          have e1 : xs.getD i.toNat [] = xs[i.toNat] := by simp [hi]
          rw [e1] at hl ⊢
          have : sz' = sz := by rw [← hl]; exact (hall _ (List.getElem_mem _)).symm
          subst this
          refine .ret ?_ hr
          have hi2 : i < (xs.length : Int) := by omega
          simp [Instr.indexAt, asIntOf, run_underlying hut, h0, hi2, run_sizeOf hsz, add_at]
        split
        · exact hseq _ (.inl hv)
        · exact hseq _ (.inr hv)
        · rename_i id len
          split
          · rename_i sz' xs ho
            refine .need fun ⟨hl, hs⟩ => .need fun ⟨h0, hi⟩ => ?_
            cases hv with
            | own _ _ _ h1 h2 h3 =>
              obtain rfl := (h3 _ _ ho).2 hl
              refine .ret (v := .pointer (some ⟨(σ id).1, i.toNat * sz, none⟩)) ?_ (.pel _ _ _ _ _ rfl h2 hi fun s2 y2 hy => ?_)
              · have hi2 : i < (len : Int) := by omega
                simp [Instr.indexAt, asIntOf, run_underlying hut, h0, hi2, run_sizeOf hsz, add_at]
              · rw [ho] at hy; cases hy
                exact ⟨by omega, fun _ => by rw [hs]; rfl⟩
          · exact .bad
        · exact .bad
      · exact .bad
    · rename_i m e ht
      have hut := arr_of ht
      split
      · rename_i sz hsz
        refine .need fun ⟨h0, hi⟩ => offE_ok hv fun b o hvo => ?_
        subst hvo
        have hi2 : i < (m : Int) := by omega
        simp [Instr.indexAt, asIntOf, run_underlying hut, Instr.sureAddr, h0, hi2, run_sizeOf hsz, add_at]
      · exact .bad
    · exact .bad
  · exact .bad
end
end Go.Aw
namespace Go.Aw
section
variable {P : Program} {K : Sto} {σ : Plc} {O : List AObj} {w : World} {c : Ctx}

theorem Reads.of_lit {e : Sem Value} {v : Value} (h : e.run P w = .ok v w) : Reads P e K σ O w (.ret (.lit v)) := .ret h (.lit v)

def indexE (P : Program) (t : TypeId) (x ix : AV) : Ev AV :=
  match ix with
  | .lit (.int _ i) => match tk P t, x with
    | some .str, .str s => .need (inB i s.length) (.ret (.lit (.int .u8 (s.getD i.toNat 0).toNat)))
    | some (.arr n e), .agg xs => match szT P e, tk P e with
      | some sz, some k => if agT k then .bad else .need (inB i n) (.need (i.toNat * sz < xs.length) (.ret (xs.getD (i.toNat * sz) .any)))
      | _, _ => .bad
    | _, _ => .bad
  | _ => .bad
theorem str_of {t : TypeId} (h : tk P t = some .str) : P.underlying t = some .string := by
  unfold tk at h
  cases hu : P.underlying t with
  | none => rw [hu] at h; cases h
  | some d => rw [hu] at h; cases d <;> simp at h <;> first | rfl | (split at h <;> simp at h)
theorem Rep.strv {v : Value} {s : List UInt8} (h : Rep K σ O v (.str s)) : v = .string ⟨s.toArray⟩ ∧ s.length ≤ LIM := by cases h; exact ⟨rfl, ‹_›⟩
theorem indexE_ok {t : TypeId} {v u : Value} {x ix : AV} (hv : Rep K σ O v x) (hu : Rep K σ O u ix) : Reads P (Instr.index t v u) K σ O w (indexE P t x ix) := by
  unfold indexE
  split
  · rename_i k i
    obtain rfl := hu.int
    split
    · rename_i s ht
      obtain ⟨rfl, _⟩ := hv.strv
      refine .need fun ⟨h0, hi⟩ => .of_lit ?_
      have hb : (⟨s.toArray⟩ : ByteArray)[i.toNat]? = some (s.getD i.toNat 0) := by
        have h3 : i.toNat < (⟨s.toArray⟩ : ByteArray).size := by simpa [ByteArray.size] using hi
        rw [getElem?_pos (⟨s.toArray⟩ : ByteArray) i.toNat h3]
        simp [hi, ByteArray.getElem_eq_getElem_data]
      simp [Instr.index, asIntOf, run_underlying (str_of ht), h0, hb]
    · rename_i n e xs ht
      split
      · rename_i sz k hsz hk
        split
        · exact .bad
        · rename_i hag
          refine .need fun ⟨h0, hi⟩ => .need fun hlt => ?_
          cases hv with
          | agg _ vs h1 h2 =>
            have hlt' : i.toNat * sz < vs.size := by omega
            have hx := h2 _ hlt
            refine .ret (v := vs[i.toNat * sz]) ?_ (by simpa [hlt, hlt'] using hx)
            have hi2 : i < (n : Int) := by omega
            simp [Instr.index, asIntOf, run_underlying (arr_of ht), h0, hi2, run_sizeOf hsz, part, run_isAgg hk, hag, hlt']
      · exact .bad
    · exact .bad
  · exact .bad

def fieldE (P : Program) (s : TypeId) (x : AV) (i : Nat) : Ev AV :=
  match tk P s, x with
  | some (.struct fs), .agg xs => match fs[i]? with
    | some (fo, fsz, ag) => if ag then .need (fsz ≠ 0 ∧ fo + fsz ≤ xs.length) (.ret (.agg ((xs.drop fo).take fsz))) else .need (fsz ≠ 0 ∧ fo < xs.length) (.ret (xs.getD fo .any))
    | none => .bad
  | _, _ => .bad
theorem run_isAgg_b {t : TypeId} (_h : P.cellsOf t ≠ 0) : (isAgg t).run P w = .ok (aggB P t) w ∨ P.underlying t = none := by
  unfold aggB
  cases hu : P.underlying t with
  | none => exact .inr rfl
  | some d => left; simp only [isAgg, Sem.run_bind, run_underlying hu, Result.andThen_ok]; cases d <;> rfl
def typesOk (P : Program) (s : TypeId) : Prop := ∀ fields, P.underlying s = some (.struct fields) → ∀ f ∈ fields.toList, (P.underlying f.type).isSome = true
theorem fieldE_ok {s : TypeId} {v : Value} {x : AV} {i : Nat} (hv : Rep K σ O v x) : Reads P (Instr.field s v i) K σ O w (fieldE P s x i) := by
  unfold fieldE
  split
  · rename_i fs xs hs
    split
    · rename_i fo fsz ag hf
      obtain ⟨fields, hu, rfl, hok⟩ := struct_of hs
      simp only [List.getElem?_map, Option.map_eq_some_iff, Prod.mk.injEq] at hf
      obtain ⟨fd, hfd, rfl, rfl, hag⟩ := hf
      have hfd' : fields[i]? = some fd := by simpa using hfd
      have hund : (P.underlying fd.type).isSome = true := by
        have := List.all_eq_true.1 hok fd (List.mem_of_getElem? hfd)
        simp at this; exact this.2
      have hisa : ∀ h : P.cellsOf fd.type ≠ 0, (isAgg fd.type).run P w = .ok ag w := fun h => by
        rcases run_isAgg_b (w := w) h with h | h
        · rw [← hag]; exact h
        · rw [h] at hund; cases hund
      cases hv with
      | agg _ vs h1 h2 =>
        by_cases hag : ag = true
        · rw [if_pos hag]
          refine .need fun ⟨hne, hle⟩ => .ret (v := .agg (vs.extract fd.offset (fd.offset + P.cellsOf fd.type))) ?_ (.agg _ _ (by simp; omega) fun j hj => ?_)
          · simp [Instr.field, run_underlying hu, hfd', part, asAgg, hisa hne, hag, sizeOf_cells hne]
          · have hj' : j < P.cellsOf fd.type := by simp at hj; omega
            have hlt : fd.offset + j < xs.length := by omega
            have hlt2 : fd.offset + j < vs.size := by omega
            have hx := h2 _ hlt
            have e1 : (vs.extract fd.offset (fd.offset + P.cellsOf fd.type)).getD j undef = vs.getD (fd.offset + j) undef := by
              simp [Array.getElem?_extract, hlt2]
              rw [if_pos (by omega)]; simp
            rw [e1]
            simpa using hx
        · rw [if_neg hag]
          refine .need fun ⟨hne, hlt⟩ => ?_
          have hlt' : fd.offset < vs.size := by omega
          have hx := h2 _ hlt
          refine .ret (v := vs[fd.offset]) ?_ (by simpa [hlt, hlt'] using hx)
          simp [Instr.field, run_underlying hu, hfd', part, asAgg, hisa hne, hag, hlt']
    · exact .bad
  · exact .bad

def extractE (x : AV) (i : Nat) : Ev AV :=
  match x with
  | .tup xs => .need (i < xs.length) (.ret (xs.getD i .any))
  | _ => .bad
theorem extractE_ok {v : Value} {x : AV} {i : Nat} (hv : Rep K σ O v x) : Reads P (Instr.extract v i) K σ O w (extractE x i) := by
  unfold extractE
  split
  · rename_i xs
    refine .need fun hlt => ?_
    cases hv with
    | tup _ vs h1 h2 =>
      have hlt' : i < vs.size := by omega
      have hx := h2 _ hlt
      exact .ret (v := vs[i]) (by simp [Instr.extract, hlt']) (by simpa [hlt, hlt'] using hx)
  · exact .bad

/-- Arithmetic and comparisons. -/
def cmpI (op : BinOp) (a b : Int) : Option Bool :=
  match op with
  | .eql => some (a == b)
  | .neq => some (a != b)
  | .lss => some (decide (a < b))
  | .leq => some (decide (a ≤ b))
  | .gtr => some (decide (a > b))
  | .geq => some (decide (a ≥ b))
  | _ => none
def bitsI (op : BinOp) (k : IntKind) (a b : Int) : Option Int :=
  match op with
  | .and => some (k.wrap (BitVec.ofInt k.bits a &&& BitVec.ofInt k.bits b).toNat)
  | .or => some (k.wrap (BitVec.ofInt k.bits a ||| BitVec.ofInt k.bits b).toNat)
  | .xor => some (k.wrap (BitVec.ofInt k.bits a ^^^ BitVec.ofInt k.bits b).toNat)
  | .andNot => some (k.wrap (BitVec.ofInt k.bits a &&& ~~~(BitVec.ofInt k.bits b)).toNat)
  | _ => none
def isNil : Value → Bool
  | .pointer none | .slice none _ _ | .map none | .nilFunc | .nilIface => true
  | _ => false
/-- What is surely not nil. -/
def sureA : AV → Bool
  | .full _ | .ref _ _ | .clo _ _ | .iface _ _ | .mapv _ => true
  | _ => false
def intE (op : BinOp) (k : IntKind) (a b : Int) : Ev AV :=
  match op with
  | .add => .ret (.lit (.int k (k.wrap (a + b))))
  | .sub => .ret (.lit (.int k (k.wrap (a - b))))
  | .mul => .ret (.lit (.int k (k.wrap (a * b))))
  | .quo => .need (b ≠ 0) (.ret (.lit (.int k (k.wrap (a.tdiv b)))))
  | .rem => .need (b ≠ 0) (.ret (.lit (.int k (a.tmod b))))
  | op => match cmpI op a b with
    | some r => .ret (.lit (.bool r))
    | none => match bitsI op k a b with
      | some r => .ret (.lit (.int k r))
      | none => .bad
def shiftE (op : BinOp) (k : IntKind) (a b : Int) : Ev AV :=
  match op with
  | .shl => .need (0 ≤ b) (.ret (.lit (.int k (k.wrap (a * 2 ^ (min b.toNat k.bits))))))
  | .shr => .need (0 ≤ b) (.ret (.lit (.int k (a.fdiv (2 ^ (min b.toNat k.bits))))))
  | _ => .bad
def strE (op : BinOp) (a b : List UInt8) : Ev AV :=
  match op with
  | .add => .need (a.length + b.length ≤ LIM) (.ret (.str (a ++ b)))
  | .eql => .ret (.lit (.bool (a == b)))
  | .neq => .ret (.lit (.bool (!(a == b))))
  | .lss => .ret (.lit (.bool (Op.bytesLess a b)))
  | .leq => .ret (.lit (.bool (Op.bytesLess a b || a == b)))
  | .gtr => .ret (.lit (.bool (!(Op.bytesLess a b || a == b))))
  | .geq => .ret (.lit (.bool (!Op.bytesLess a b)))
  | _ => .bad
def binE (P : Program) (op : BinOp) (t : TypeId) (x y : AV) : Ev AV :=
  match x, y with
  | .lit (.int k a), .lit (.int k' b) => match op with
    | .shl | .shr => shiftE op k a b
    | _ => if k = k' then intE op k a b else .bad
  | .str a, .str b => strE op a b
  | .lit (.bool a), .lit (.bool b) => match op, tk P t with
    | .eql, some .bool => .ret (.lit (.bool (a == b)))
    | .neq, some .bool => .ret (.lit (.bool (!(a == b))))
    | _, _ => .bad
  | _, _ => .bad

theorem toList_mk (s : List UInt8) : (⟨s.toArray⟩ : ByteArray).toList = s := by
  rw [ByteArray.toList_eq]

theorem guard_int {op : BinOp} {t : TypeId} {x y : Operand} {k k' : IntKind} {a b : Int} : (eqGuard op t x y (.int k a) (.int k' b)).run P w = .ok () w := by
  unfold eqGuard; cases op <;> simp
theorem guard_str {op : BinOp} {t : TypeId} {x y : Operand} {a b : ByteArray} : (eqGuard op t x y (.string a) (.string b)).run P w = .ok () w := by
  unfold eqGuard; cases op <;> simp
theorem guard_bool {op : BinOp} {t : TypeId} {x y : Operand} {a b : Bool} : (eqGuard op t x y (.bool a) (.bool b)).run P w = .ok () w := by
  unfold eqGuard; cases op <;> simp

theorem bool_of {t : TypeId} (h : tk P t = some .bool) : P.underlying t = some .bool := by
  unfold tk at h
  cases hu : P.underlying t with
  | none => rw [hu] at h; cases h
  | some d => rw [hu] at h; cases d <;> simp at h <;> first | rfl | (split at h <;> simp at h)

/-- The binary operation of the model, behind its guard. -/
def binSem (op : BinOp) (t : TypeId) (x y : Operand) (a b : Value) : Sem Value := do eqGuard op t x y a b; binOp op t a b

theorem intE_ok {op : BinOp} {t : TypeId} {x y : Operand} {k : IntKind} {a b : Int} (h1 : op ≠ .shl) (h2 : op ≠ .shr) :
    Reads P (binSem op t x y (.int k a) (.int k b)) K σ O w (intE op k a b) := by
  cases op <;> first | (exact absurd rfl h1) | (exact absurd rfl h2) | skip
  all_goals (dsimp only [intE, cmpI, bitsI])
  case quo => exact .need fun h => .of_lit (by simp [binSem, guard_int, binOp, Op.intDiv, h])
  case rem => exact .need fun h => .of_lit (by simp [binSem, guard_int, binOp, Op.intDiv, h])
  all_goals exact .of_lit (by simp [binSem, guard_int, binOp, Op.intArith, Op.intBits, Op.intCmp])
theorem shiftE_ok {op : BinOp} {t : TypeId} {x y : Operand} {k k' : IntKind} {a b : Int} : Reads P (binSem op t x y (.int k a) (.int k' b)) K σ O w (shiftE op k a b) := by
  cases op <;> dsimp only [shiftE] <;> first | exact .bad | skip
  all_goals exact .need fun h => .of_lit (by
    have h' : ¬ b < 0 := by omega
    simp [binSem, guard_int, binOp, Op.shift, h'])
theorem strE_ok {op : BinOp} {t : TypeId} {x y : Operand} {a b : List UInt8} : Reads P (binSem op t x y (.string ⟨a.toArray⟩) (.string ⟨b.toArray⟩)) K σ O w (strE op a b) := by
  cases op <;> dsimp only [strE] <;> first | exact .bad | skip
  case add =>
    refine .need fun h => .ret (v := .string ⟨(a ++ b).toArray⟩) ?_ (.str _ (by simpa using h))
    have h1 : ¬ (((a.length + b.length : Nat) : Int) > IntKind.i64.max) := by unfold LIM at h; show ¬ _ > (9223372036854775807 : Int); omega
    have h2 : (⟨a.toArray⟩ : ByteArray) ++ ⟨b.toArray⟩ = ⟨(a ++ b).toArray⟩ := by
      apply ByteArray.ext; simp
    have h3 : ((⟨a.toArray⟩ : ByteArray).size + (⟨b.toArray⟩ : ByteArray).size) = a.length + b.length := by simp [ByteArray.size]
    have h4 : (Op.stringOp .add ⟨a.toArray⟩ ⟨b.toArray⟩).run P w = .ok (.string ⟨(a ++ b).toArray⟩) w := by
      unfold Op.stringOp
      dsimp only
      rw [h3, if_neg h1, h2]; rfl
    simp only [binSem, Sem.run_bind, guard_str, Result.andThen_ok, binOp, h4]
  all_goals exact .of_lit (by simp [binSem, guard_str, binOp, Op.stringOp, ByteArray.toList_eq])
theorem equal_bool {t : TypeId} (h : tk P t = some .bool) (a b : Bool) : (Op.equal t (.bool a) (.bool b)).run P w = .ok (a == b) w := by
  unfold Op.equal
  rw [show Op.maxDepth = 9999 + 1 from rfl, Op.equalIn]
  simp only [Sem.run_bind, run_underlying (bool_of h), Result.andThen_ok, Sem.run_pure]
theorem binE_ok {op : BinOp} {t : TypeId} {o1 o2 : Operand} {v u : Value} {x y : AV} (hv : Rep K σ O v x) (hu : Rep K σ O u y) :
    Reads P (binSem op t o1 o2 v u) K σ O w (binE P op t x y) := by
  unfold binE
  split
  · obtain rfl := hv.int
    obtain rfl := hu.int
    split
    · exact shiftE_ok
    · exact shiftE_ok
    · split
      · rename_i h1 h2 h3; subst h3; exact intE_ok h1 h2
      · exact .bad
  · obtain ⟨rfl, _⟩ := hv.strv
    obtain ⟨rfl, _⟩ := hu.strv
    exact strE_ok
  · obtain rfl := hv.toBool
    obtain rfl := hu.toBool
    split
    · rename_i ht; exact .of_lit (by simp only [binSem, Sem.run_bind, guard_bool, Result.andThen_ok, binOp, equal_bool ht, Sem.run_pure])
    · rename_i ht; exact .of_lit (by simp only [binSem, Sem.run_bind, guard_bool, Result.andThen_ok, binOp, equal_bool ht, Sem.run_pure])
    · exact .bad
  · exact .bad
end
end Go.Aw
namespace Go.Aw
section
variable {P : Program} {K : Sto} {σ : Plc} {O : List AObj} {w : World} {c : Ctx}

def isN (O : List AObj) : TK → AV → Option Bool
  | .slice _, .lit (.slice none _ _) => some true
  | .slice _, .full _ => some false
  | .ptr _, .lit (.pointer none) => some true
  | .ptr _, .ref _ _ => some false
  | .ptr _, .ptr id _ => match O[id]? with | some (.box _) => some false | _ => none
  | .map _ _, .lit (.map none) => some true
  | .map _ _, .mapv _ => some false
  | .func, .lit .nilFunc => some true
  | .func, .clo _ _ => some false
  | .iface, .lit .nilIface => some true
  | .iface, .iface _ _ => some false
  | _, _ => none
def isK : Operand → Bool | .const _ => true | _ => false
def nilE (P : Program) (O : List AObj) (op : BinOp) (t : TypeId) (o1 o2 : Operand) (x y : AV) : Ev AV :=
  match tk P t with
  | some k => match isN O k x, isN O k y, (isK o1 || isK o2) with
    | some a, some b, true => if a || b then (match op with
      | .eql => .ret (.lit (.bool (a && b)))
      | .neq => .ret (.lit (.bool (!(a && b))))
      | _ => .bad) else .bad
    | _, _, _ => .bad
  | none => .bad

def isNV : TK → Value → Option Bool
  | .slice _, .slice a _ _ => some a.isNone
  | .ptr _, .pointer a => some a.isNone
  | .map _ _, .map a => some a.isNone
  | .func, .nilFunc => some true
  | .func, .func _ _ _ => some false
  | .iface, .nilIface => some true
  | .iface, .iface _ _ => some false
  | _, _ => none
theorem isN_ok {k : TK} {v : Value} {x : AV} {b : Bool} (hv : Rep K σ O v x) (h : isN O k x = some b) : isNV k v = some b := by
  unfold isN at h
  split at h <;> first | (cases h; done) | skip
  all_goals first
    | (cases hv; cases h; rfl)
    | (split at h <;> first | (cases h; done) | skip
       rename_i ho; cases h; cases hv with | ptr _ _ _ _ _ h3 => rw [h3 _ ho]; rfl)

theorem under_of {t : TypeId} {k : TK} (h : tk P t = some k) : ∃ d, P.underlying t = some d ∧ (match k with
    | .slice e => d = .slice e | .ptr e => d = .pointer e | .map a b => d = .map a b | .func => ∃ ps rs v, d = .func ps rs v | .iface => ∃ ms, d = .interface ms | _ => True) := by
  unfold tk at h
  cases hu : P.underlying t with
  | none => rw [hu] at h; cases h
  | some d =>
    rw [hu] at h
    simp only [Option.map_some, Option.some.injEq] at h
    refine ⟨d, rfl, ?_⟩
    cases d with
    | struct fs => dsimp only at h; split at h <;> (subst h; trivial)
    | _ => dsimp only at h; subst h; first | trivial | simp
theorem equal_nil {t : TypeId} {k : TK} (ht : tk P t = some k) {v u : Value} {a b : Bool} (hv : isNV k v = some a) (hu : isNV k u = some b) (hab : (a || b) = true) :
    (Op.equal t v u).run P w = .ok (a && b) w := by
  obtain ⟨d, hd, hk⟩ := under_of ht
  unfold Op.equal
  rw [show Op.maxDepth = 9999 + 1 from rfl, Op.equalIn]
  simp only [Sem.run_bind, run_underlying hd, Result.andThen_ok]
  cases k <;> dsimp only at hk <;> first | (simp [isNV] at hv; done) | skip
  case slice e =>
    subst hk
    cases v <;> simp only [isNV, Option.some.injEq, reduceCtorEq] at hv
    cases u <;> simp only [isNV, Option.some.injEq, reduceCtorEq] at hu
    rename_i p _ _ q _ _
    subst hv hu
    cases p <;> cases q <;> first | rfl | (simp at hab)
  case ptr e =>
    subst hk
    cases v <;> simp only [isNV, Option.some.injEq, reduceCtorEq] at hv
    cases u <;> simp only [isNV, Option.some.injEq, reduceCtorEq] at hu
    rename_i p q
    subst hv hu
    cases p <;> cases q <;> first | rfl | (simp at hab)
  case map e f =>
    subst hk
    cases v <;> simp only [isNV, Option.some.injEq, reduceCtorEq] at hv
    cases u <;> simp only [isNV, Option.some.injEq, reduceCtorEq] at hu
    rename_i p q
    subst hv hu
    cases p <;> cases q <;> first | rfl | (simp at hab)
  case func =>
    obtain ⟨ps, rs, vv, rfl⟩ := hk
    cases v <;> simp only [isNV, Option.some.injEq, reduceCtorEq] at hv <;> cases u <;> simp only [isNV, Option.some.injEq, reduceCtorEq] at hu <;> subst hv hu <;> first | rfl | (simp at hab)
  case iface =>
    obtain ⟨ms, rfl⟩ := hk
    cases v <;> simp only [isNV, Option.some.injEq, reduceCtorEq] at hv <;> cases u <;> simp only [isNV, Option.some.injEq, reduceCtorEq] at hu <;> subst hv hu <;> first | rfl | (simp at hab)
theorem guard_nil {op : BinOp} {t : TypeId} {k : TK} {o1 o2 : Operand} {v u : Value} {a b : Bool} (hv : isNV k v = some a) (hu : isNV k u = some b) (hk : (isK o1 || isK o2) = true) :
    (eqGuard op t o1 o2 v u).run P w = .ok () w := by
  unfold eqGuard
  cases op <;> simp
  all_goals
    split
    · rw [if_pos]; rfl
      cases o1 <;> cases o2 <;> simp_all [isK]
    · rename_i h1 h2; cases k <;> simp [isNV] at hv
    · rfl
theorem binOp_equal {op : BinOp} {t : TypeId} {k : TK} {v u : Value} {a b : Bool} (hv : isNV k v = some a) (hu : isNV k u = some b) (hop : op = .eql ∨ op = .neq) :
    binOp op t v u = (if op = .eql then (do pure (.bool (← Op.equal t v u))) else do pure (.bool (!(← Op.equal t v u)))) := by
  rcases hop with rfl | rfl <;> cases k <;> cases v <;> simp only [isNV, reduceCtorEq] at hv <;> cases u <;> simp only [isNV, reduceCtorEq] at hu <;> rfl
theorem nilE_ok {op : BinOp} {t : TypeId} {o1 o2 : Operand} {v u : Value} {x y : AV} (hv : Rep K σ O v x) (hu : Rep K σ O u y) :
    Reads P (binSem op t o1 o2 v u) K σ O w (nilE P O op t o1 o2 x y) := by
  unfold nilE
  split
  · rename_i k ht
    split
    · rename_i a b ha hb hk
      have ha' := isN_ok hv ha
      have hb' := isN_ok hu hb
      split
      · rename_i hab
        split
        · refine .of_lit ?_
          simp only [binSem, Sem.run_bind, guard_nil ha' hb' hk, Result.andThen_ok, binOp_equal ha' hb' (.inl rfl), if_true, equal_nil ht ha' hb' hab, Sem.run_pure]
        · refine .of_lit ?_
          simp only [binSem, Sem.run_bind, guard_nil ha' hb' hk, Result.andThen_ok, binOp_equal ha' hb' (.inr rfl), reduceCtorEq, if_false, equal_nil ht ha' hb' hab, Sem.run_pure]
        · exact .bad
      · exact .bad
    · exact .bad
  · exact .bad

def unE (op : UnOp) (x : AV) : Ev AV :=
  match op, x with
  | .not, .lit (.bool b) => .ret (.lit (.bool (!b)))
  | .neg, .lit (.int k n) => .ret (.lit (.int k (k.wrap (0 - n))))
  | .xor, .lit (.int k n) => .ret (.lit (.int k (k.wrap (BitVec.ofInt k.bits (if k.signed then -1 else k.max) ^^^ BitVec.ofInt k.bits n).toNat)))
  | _, _ => .bad
theorem unE_ok {op : UnOp} {v : Value} {x : AV} (hv : Rep K σ O v x) : Reads P (Op.unary op v) K σ O w (unE op x) := by
  unfold unE
  split
  · obtain rfl := hv.toBool; exact .of_lit rfl
  · obtain rfl := hv.int; exact .of_lit rfl
  · obtain rfl := hv.int; exact .of_lit rfl
  · exact .bad

/-- A byte as a cell of a row. -/
def encB (b : UInt8) : List AV := [.lit (.int .u8 b.toNat)]
def byteA : List AV → UInt8
  | [.lit (.int .u8 n)] => UInt8.ofNat n.toNat
  | _ => 0
def isByteA : List AV → Bool
  | [.lit (.int .u8 _)] => true
  | _ => false

/-- The elements of a row that can be read. -/
def rowE (O : List AObj) (x : AV) : Ev (List (List AV)) :=
  match x with
  | .seq xs => .ret xs
  | .full xs => .ret xs
  | .lit (.slice none 0 _) => .ret []
  | .own id len => match O[id]? with
    | some (.buf _ xs) => .need (len = xs.length) (.ret xs)
    | _ => .bad
  | .sub id off n => match O[id]? with
    | some (.box xs) => .need (n ≤ LIM) (.ret ((List.range n).map fun i => [xs.getD (off + i) .any]))
    | _ => .bad
  | _ => .bad
/-- A value that reads as a row of so many elements. -/
def IsRow (K : Sto) (σ : Plc) (O : List AObj) (w : World) (v : Value) (xs : List (List AV)) : Prop :=
  xs.length ≤ LIM ∧ ∃ a cap sz, v = .slice a xs.length cap ∧ xs.length ≤ cap ∧ (∀ x ∈ xs, x.length = sz) ∧
    (xs ≠ [] → ∃ b o, a = some ⟨b, o, none⟩ ∧ ∀ i (h : i < xs.length) j (hj : j < xs[i].length), ∃ u, w.cell? ⟨b, o + i * sz + j, none⟩ = some u ∧ Rep K σ O u xs[i][j])
theorem Rep.row (h : RA c K σ O w) {v : Value} {xs : List (List AV)} (hv : Rep K σ O v (.seq xs) ∨ Rep K σ O v (.full xs)) : IsRow K σ O w v xs := by
  rcases hv with hv | hv
  · cases hv with
    | seq _ a cap sz u h1 h2 h3 h4 h5 =>
      refine ⟨h3, a, cap, sz, rfl, h4, h1, fun hne => ?_⟩
      obtain ⟨b, o, arr, t, fr, ha, hb, hc⟩ := h2 hne
      refine ⟨b, o, ha, fun i hi j hj => ⟨u i j, ?_, (h5 i hi j hj).lift⟩⟩
      rw [cell_of (h.cons _ _ hb)]; exact hc i j hi (by rw [← h1 _ (List.getElem_mem hi)]; exact hj)
  · cases hv with
    | full _ a sz u h1 h2 h3 h5 =>
      refine ⟨h3, some a, xs.length, sz, rfl, Nat.le_refl _, h1, fun hne => ?_⟩
      obtain ⟨b, o, arr, t, fr, ha, hb, hc⟩ := h2 hne
      refine ⟨b, o, by rw [ha], fun i hi j hj => ⟨u i j, ?_, (h5 i hi j hj).lift⟩⟩
      rw [cell_of (h.cons _ _ hb)]; exact hc i j hi (by rw [← h1 _ (List.getElem_mem hi)]; exact hj)
theorem IsRow.own (h : RA c K σ O w) {v : Value} {id len sz : Nat} {xs : List (List AV)} (hv : Rep K σ O v (.own id len)) (ho : O[id]? = some (.buf sz xs)) (hl : len = xs.length) :
    IsRow K σ O w v xs := by
  cases hv with
  | own _ _ _ h1 h2 h3 =>
    have h0 := h.objs id
    rw [ho] at h0
    obtain ⟨_, arr, t, fr, hb, _, hs, hcap, hlim, hsz, hr⟩ := h0
    refine ⟨hlim, some ⟨(σ id).1, 0, none⟩, (σ id).2, sz, ?_, hcap, hsz, fun _ => ⟨(σ id).1, 0, rfl, fun i hi j hj => ⟨arr.getD (i * sz + j) undef, ?_, hr i hi j hj⟩⟩⟩
    · have := (h3 _ _ ho).2 hl; rw [this, hl]
    · rw [cell_of hb]
      have hj' : j < sz := by rw [← hsz _ (List.getElem_mem hi)]; exact hj
      have : i * sz + j < arr.size := by
        rw [hs]
        calc i * sz + j < i * sz + sz := by omega
          _ = (i + 1) * sz := by rw [Nat.add_mul]; omega
          _ ≤ (σ id).2 * sz := Nat.mul_le_mul_right _ (by omega)
      simp [this]
theorem rowE_ok (h : RA c K σ O w) {v : Value} {x : AV} (hv : Rep K σ O v x) {Q : List (List AV) → Prop} (hq : (rowE O x).holds Q) : ∃ xs, Q xs ∧ IsRow K σ O w v xs := by
  unfold rowE at hq
  split at hq
  · exact ⟨_, hq, Rep.row h (.inl hv)⟩
  · exact ⟨_, hq, Rep.row h (.inr hv)⟩
  · have := hv.litv; subst this
    exact ⟨_, hq, by simp, none, _, 0, rfl, Nat.zero_le _, by simp, fun h => (h rfl).elim⟩
  · split at hq
    · rename_i ho; exact ⟨_, hq.2, IsRow.own h hv ho hq.1⟩
    · exact hq.elim
  · rename_i id off n
    split at hq
    · rename_i xs ho
      refine ⟨_, hq.2, by simpa using hq.1, ?_⟩
      have h0 := h.objs id
      rw [ho] at h0
      obtain ⟨_, arr, t, fr, hb, _, hs, hr⟩ := h0
      cases hv with
      | sub _ _ _ _ h1 h2 h3 =>
        obtain ⟨rfl, hle⟩ := h3 _ ho
        refine ⟨some ⟨(σ id).1, off, none⟩, n, 1, by simp, by simp, by simp, fun _ => ⟨(σ id).1, off, rfl, fun i hi j hj => ⟨arr.getD (off + i) undef, ?_, ?_⟩⟩⟩
        · have hi' : i < n := by simpa using hi
          have hj' : j = 0 := by simpa using hj
          subst hj'
          rw [cell_of hb, Nat.mul_one, Nat.add_zero]
          have : off + i < arr.size := by omega
          simp [this]
        · have hi' : i < n := by simpa using hi
          have hj' : j = 0 := by simpa using hj
          subst hj'
          have := hr (off + i) (by omega)
          have hlt : off + i < xs.length := by omega
          simpa [hlt] using this
    · exact hq.elim
  · exact hq.elim

def Ev.bind {α β : Type} : Ev α → (α → Ev β) → Ev β
  | .ret a, f => f a
  | .need p k, f => .need p (k.bind f)
  | .fork b x y, f => .fork b (x.bind f) (y.bind f)
  | .bad, _ => .bad
theorem Ev.holds_bind {α β : Type} {E : Ev α} {f : α → Ev β} {Q : β → Prop} : (E.bind f).holds Q ↔ E.holds fun a => (f a).holds Q := by
  induction E with
  | ret a => rfl
  | need p k ih => simp only [Ev.bind, Ev.holds, ih]
  | fork b x y ihx ihy => simp only [Ev.bind, Ev.holds, ihx, ihy]
  | bad => rfl

/-- A row of bytes as a string. -/
def strRow (xs : List (List AV)) : Ev AV := .need (xs.all isByteA = true) (.ret (.str (xs.map byteA)))
def convE (P : Program) (O : List AObj) (src dst : TypeId) (x : AV) : Ev AV :=
  match tk P src, tk P dst, x with
  | some (.int _), some (.int k), .lit (.int _ n) => .ret (.lit (.int k (k.wrap n)))
  | some .str, some .str, .str s => .ret (.str s)
  | some (.slice e), some .str, x => match tk P e with
    | some (.int .u8) => (rowE O x).bind strRow
    | _ => .bad
  | _, _, _ => .bad
theorem int_of {t : TypeId} {k : IntKind} (h : tk P t = some (.int k)) : P.underlying t = some (.int k) := by
  unfold tk at h
  cases hu : P.underlying t with
  | none => rw [hu] at h; cases h
  | some d => rw [hu] at h; cases d <;> simp at h <;> first | (rw [h]; done) | (split at h <;> simp at h)
theorem isByteA_of {x : List AV} (h : isByteA x = true) : ∃ n, x = [.lit (.int .u8 n)] := by
  unfold isByteA at h; split at h
  · exact ⟨_, rfl⟩
  · cases h
theorem convE_ok (h : RA c K σ O w) {src dst : TypeId} {v : Value} {x : AV} (hv : Rep K σ O v x) : Reads P (convert src dst v) K σ O w (convE P O src dst x) := by
  unfold convE
  split
  · rename_i hs hd
    obtain rfl := hv.int
    exact .of_lit (by simp [convert, run_underlying (int_of hs), run_underlying (int_of hd), Conv.intToInt])
  · rename_i hs hd
    obtain ⟨rfl, hl⟩ := hv.strv
    exact .ret (by simp [convert, run_underlying (str_of hs), run_underlying (str_of hd)]) (.str _ hl)
  · rename_i x e hs hd
    have hss := slice_of hs
    have hdd := str_of hd
    split
    · rename_i he
      have hee := int_of he
      intro Q hq
      rw [Ev.holds_bind] at hq
      obtain ⟨xs, ⟨hall, hQ⟩, hlim, a, cap, sz, rfl, hcap, hsz, hcells⟩ := rowE_ok h hv hq
      have hby : ∀ i (hi : i < xs.length), ∃ n, xs[i] = [.lit (.int .u8 n)] := fun i hi => isByteA_of (List.all_eq_true.1 hall _ (List.getElem_mem hi))
      let ns : List Int := xs.map fun x => match x with | [.lit (.int .u8 n)] => n | _ => 0
      have hns : ns.length = xs.length := by simp [ns]
      have hstr : Go.strOfNums ns = ⟨(xs.map byteA).toArray⟩ := by
        have h1 : (Go.strOfNums ns).data.toList = xs.map byteA := by
          rw [Go.strOfNums_data]
          apply List.ext_getElem (by simp [ns])
          intro i h1 h2
          have hi : i < xs.length := by simpa using h2
          obtain ⟨n, hn⟩ := hby i hi
          simp [ns, hn, byteA]
        apply ByteArray.ext
        rw [← h1]
      refine ⟨.string ⟨(xs.map byteA).toArray⟩, _, hQ, ?_, .str _ (by simpa using hlim)⟩
      rw [← hstr]
      by_cases hne : xs = []
      · subst hne
        cases a with
        | none => exact Go.run_convert_bytes_nil (P := P) w src e hss hee _ _ dst hdd
        | some a =>
          rw [run_convert_bytes_string w src dst e _ _ cap hss hee hdd, run_bytesToString w a _ cap [] (by simp [loadCells, loadCellsFrom])]
          rfl
      · obtain ⟨b, o, rfl, hc⟩ := hcells hne
        refine Go.run_convert_bytes_arg (P := P) w src e hss hee b o _ cap ns hns (fun i hi => ?_) dst hdd
        obtain ⟨n, hn⟩ := hby i hi
        have h1 : 1 = sz := by have := hsz _ (List.getElem_mem hi); rw [hn] at this; simpa using this
        obtain ⟨u, hu, hr⟩ := hc i hi 0 (by rw [hn]; simp)
        subst h1
        simp only [Nat.mul_one, Nat.add_zero] at hu
        rw [hu]
        simp only [hn, List.getElem_cons_zero] at hr
        rw [hr.int]
        simp [ns, hi, hn]
    · exact .bad
  · exact .bad
end
end Go.Aw
