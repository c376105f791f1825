/- What the operations do to abstract values: rows that are made, and that grow. -/
import Derived.Laws.Append
import Derived.Test.YtikllkldhnncnaaGreatDoorAc
set_option linter.all false
namespace Go.Aw
section
variable {P : Program} {K : Sto} {σ : Plc} {O : List AObj} {w : World} {c : Ctx}

/-- Cells in groups. -/
def chunk (sz : Nat) : Nat → List AV → List (List AV)
  | 0, _ => []
  | n + 1, cs => cs.take sz :: chunk sz n (cs.drop sz)
theorem chunk_length (sz : Nat) : ∀ n cs, (chunk sz n cs).length = n
  | 0, _ => rfl
  | n + 1, cs => by simp [chunk, chunk_length]
theorem chunk_get (sz : Nat) : ∀ (n : Nat) (cs : List AV) (i : Nat) (h : i < (chunk sz n cs).length), (chunk sz n cs)[i] = (cs.drop (i * sz)).take sz
  | 0, cs, i, h => by simp [chunk] at h
  | n + 1, cs, 0, h => by simp [chunk]
  | n + 1, cs, i + 1, h => by
    simp only [chunk, List.getElem_cons_succ]
    rw [chunk_get sz n (cs.drop sz) i, List.drop_drop, Nat.add_mul, Nat.one_mul, Nat.add_comm]

/-- A row in new memory that never turns. -/
theorem newKnown {cs : Array Value} (t : TypeId) {c : Ctx} (h : RA c K σ O w) :
    RA c (K.upd w.heap.size (.cells cs t)) σ O { w with heap := w.heap.push (.cells cs t) } ∧ ∀ b o, K b = some o → (K.upd w.heap.size (.cells cs t)) b = some o := by
  have hp := h.push (.cells cs t)
  have hkn : K w.heap.size = none := by
    cases hk : K w.heap.size with
    | none => rfl
    | some o => have := h.cons _ _ hk; simp at this
  refine ⟨hp.know (by simp) (.inl h.size) (fun ⟨id, ha, e⟩ => ?_), Sto.upd_le (.inl hkn)⟩
  have := h.owned_lt ha; omega

def buildSliceE (P : Program) (O : List AObj) (t : TypeId) (len : Nat) (xs : List (Nat × AV)) : Ev (AV × List AObj) :=
  match tk P t with
  | some (.slice e) => match szT P e, zeT P e with
    | some sz, some zs => match fillA (fun i => some (i * sz, sz)) (List.replicate (len * sz) .any) xs with
      | some out => .need (len * sz ≤ 16777216 ∧ len ≤ LIM ∧ zs.length = sz ∧ out.all closed1 = true) (.ret (.full (chunk sz len out), O))
      | none => .bad
    | _, _ => .bad
  | _ => .bad
theorem fillA_length {place : Nat → Option (Nat × Nat)} : ∀ (xs : List (Nat × AV)) (cells out : List AV), fillA place cells xs = some out → out.length = cells.length
  | [], cells, out, h => by cases h; rfl
  | (i, x) :: xs, cells, out, h => by
    unfold fillA at h
    split at h
    · split at h
      · rw [fillA_length xs _ out h, splice_length]
      · cases h
    · cases h
theorem buildSliceE_ok {c0 : Ctx} (h0 : RA c0 K σ O w) {t : TypeId} {len : Nat} {ev : Operand → Value} {ea : Operand → AV} (hev : ∀ o, Rep K σ O (ev o) (ea o)) (ps : Array (Nat × Operand)) :
    DoesV P (Instr.buildSlice t len (ps.map fun p => (p.1, ev p.2))) K σ O w (buildSliceE P O t len (ps.toList.map fun p => (p.1, ea p.2))) := by
  unfold buildSliceE
  split
  · rename_i e hk
    split
    · rename_i sz zs hsz hz
      obtain ⟨z, hzr, hzs, hzc⟩ := run_zeroValue (w := w) hz
      split
      · rename_i out ho
        refine .need fun ⟨hle, hlim, hzl, hcl⟩ Q hq => ?_
        have hol := fillA_length _ _ _ ho
        simp only [List.length_replicate] at hol
        let zero : Array Value := if len * sz = 0 then #[] else z.cells
        let cs0 : Array Value := (Array.range (len * sz)).map (zero[· % zero.size]!)
        obtain ⟨cs', h1, h2, h3⟩ := fillA_ok hev ps.toList (List.replicate (len * sz) .any) cs0 out (by simp [cs0]) (fun i hi => by simpa using Rep.any _) ho
        have hn := fun (c : Ctx) (h : RA c K σ O w) => newKnown (cs := cs') e h
        have hle' := (hn c0 h0).2
        refine ⟨.slice (some ⟨w.heap.size, 0, none⟩) len len, _, _, σ, O, _, hq, ?_, fun c h => (hn c h).1, fun v x h => h.mono hle' (Compat.refl _ _), ?_⟩
        · have hgt : ¬ (len * sz > 2 ^ 24) := by omega
          have hfill : Instr.fill (fun i => some (i * sz, sz)) cs0 (ps.map fun p => (p.1, ev p.2)).toList = some cs' := by rw [Array.toList_map]; exact h1
          simp only [Instr.buildSlice, Sem.run_bind, run_underlying (slice_of hk), Result.andThen_ok, run_sizeOf hsz, if_neg hgt]
          by_cases h0 : len * sz = 0
          · simp only [cs0, zero, if_pos h0] at hfill
            simp only [if_pos h0, Sem.run_bind, Sem.run_pure, Result.andThen_ok, hfill]
            simp [newRow]
          · simp only [cs0, zero, if_neg h0] at hfill
            simp only [if_neg h0, Sem.run_bind, hzr, Sem.run_pure, Result.andThen_ok, hfill]
            simp [newRow]
        · have hlen := chunk_length sz len out
          have := Rep.full (K := K.upd w.heap.size (.cells cs' e)) (σ := σ) (O := O) (chunk sz len out) ⟨w.heap.size, 0, none⟩ sz (fun i j => cs'.getD (i * sz + j) undef)
            (fun x hx => by
              obtain ⟨i, hi, rfl⟩ := List.mem_iff_getElem.1 hx
              rw [chunk_get]
              have hi' : i < len := by omega
              have : (i + 1) * sz ≤ len * sz := Nat.mul_le_mul_right _ (by omega)
              rw [Nat.add_mul] at this
              simp; omega)
            (fun _ => ⟨w.heap.size, 0, cs', e, (0, 0), rfl, by simp [Sto.upd], fun i j hi hj => by
              have hi' : i < len := by omega
              have : (i + 1) * sz ≤ len * sz := Nat.mul_le_mul_right _ (by omega)
              rw [Nat.add_mul] at this
              have hlt : i * sz + j < cs'.size := by omega
              simp [hlt]⟩)
            (by omega)
            (fun i hi j hj => by
              have hi' : i < len := by omega
              have h4 : (i + 1) * sz ≤ len * sz := Nat.mul_le_mul_right _ (by omega)
              rw [Nat.add_mul] at h4
              have e1 := chunk_get sz len out i hi
              have hj' : j < sz := by rw [e1] at hj; simp at hj; omega
              have hlt : i * sz + j < out.length := by omega
              have := ((h3 _ hlt).closed (List.all_eq_true.1 hcl _ (List.getElem_mem hlt))).mono hle' (Compat.refl [] σ)
              have e2 : (chunk sz len out)[i][j] = out[i * sz + j] := by
                simp [e1]
              rw [e2]; exact this)
          rw [hlen] at this
          exact this
      · exact .bad
    · exact .bad
  · exact .bad

theorem size_mk (s : List UInt8) : (⟨s.toArray⟩ : ByteArray).size = s.length := by simp [ByteArray.size]
/-- The elements that an append brings. -/
def srcE (O : List AObj) (x : AV) : Ev (List (List AV)) :=
  match x with
  | .str s => .ret (s.map encB)
  | x => rowE O x
/-- Each element has so many cells, and each is a value of one cell. -/
def okRow (sz : Nat) (ys : List (List AV)) : Prop := ∀ y ∈ ys, y.length = sz ∧ y.all AV.one = true
/-- A value whose elements can be read. -/
def IsSrc (P : Program) (K : Sto) (σ : Plc) (O : List AObj) (w : World) (v : Value) (sz : Nat) (ys : List (List AV)) : Prop :=
  ys.length ≤ LIM ∧ (∀ w', (Builtin.lenOf v).run P w' = .ok ys.length w') ∧
    ∃ cs : Array Value, (∀ w', w'.heap = w.heap → (Builtin.firstCells sz ys.length v).run P w' = .ok cs w') ∧ cs.size = ys.length * sz ∧
      ∀ i (h : i < ys.length) j (hj : j < ys[i].length), Rep K σ O (cs.getD (i * sz + j) undef) ys[i][j]
theorem IsRow.cells {v : Value} {ys : List (List AV)} {sz : Nat} (h : IsRow K σ O w v ys) (hok : ∀ y ∈ ys, y.length = sz) : IsSrc P K σ O w v sz ys := by
  obtain ⟨hlim, a, cap, sz', rfl, hcap, hsz, hc⟩ := h
  refine ⟨hlim, fun _ => rfl, ?_⟩
  by_cases hne : ys = []
  · subst hne
    refine ⟨#[], fun w' _ => ?_, by simp, fun i hi => by simp at hi⟩
    cases a with
    | none => rfl
    | some a => simp [Builtin.firstCells, loadCells, loadCellsFrom]
  · obtain ⟨b, o, rfl, hcell⟩ := hc hne
    have hp : 0 < ys.length := by cases ys <;> simp_all
    have hss : ∀ i (hi : i < ys.length), ys[i].length = sz := fun i hi => hok _ (List.getElem_mem hi)
    have hall : ∀ k, ∃ u, k < ys.length * sz → w.cell? ((⟨b, o, none⟩ : Addr).add k) = some u ∧ ∀ i (h : i < ys.length) j (hj : j < ys[i].length), k = i * sz + j → Rep K σ O u ys[i][j] := by
      intro k
      by_cases hk : k < ys.length * sz
      · have hsz0 : 0 < sz := by
          rcases Nat.eq_zero_or_pos sz with h | h
          · subst h; simp at hk
          · exact h
        have hi : k / sz < ys.length := by rw [Nat.div_lt_iff_lt_mul hsz0]; exact hk
        have hj : k % sz < ys[k / sz].length := by rw [hss _ hi]; exact Nat.mod_lt _ hsz0
        have hs' : sz' = sz := by rw [← hsz _ (List.getElem_mem hi), hss _ hi]
        obtain ⟨u, hu, hr⟩ := hcell _ hi _ hj
        refine ⟨u, fun _ => ⟨?_, fun i h j hj2 e => ?_⟩⟩
        · rw [add_at]
          rw [hs'] at hu
          have : k / sz * sz + k % sz = k := by rw [Nat.mul_comm]; exact Nat.div_add_mod k sz
          rw [Nat.add_assoc, this] at hu; exact hu
        · have hj3 : j < sz := by rw [← hss i h]; exact hj2
          have e1 : i = k / sz := by
            rw [e, Nat.mul_comm, Nat.mul_add_div hsz0, Nat.div_eq_of_lt hj3]; rfl
          have e2 : j = k % sz := by rw [e, Nat.mul_comm, Nat.mul_add_mod, Nat.mod_eq_of_lt hj3]
          subst e1 e2; exact hr
      · exact ⟨undef, fun h => (hk h).elim⟩
    obtain ⟨u, hu⟩ := Classical.axiomOfChoice hall
    refine ⟨((List.range (ys.length * sz)).map u).toArray, ?_, by simp, fun i hi j hj => ?_⟩
    · intro w' hw'
      have hcw : ∀ a, w'.cell? a = w.cell? a := fun a => by unfold World.cell?; rw [hw']
      simp only [Builtin.firstCells]
      exact run_loadCells u fun j hj => by rw [hcw]; exact (hu j hj).1
    · have hj' : j < sz := by rw [← hss i hi]; exact hj
      have h4 : (i + 1) * sz ≤ ys.length * sz := Nat.mul_le_mul_right _ (by omega)
      rw [Nat.add_mul] at h4
      have hlt : i * sz + j < ys.length * sz := by omega
      have := (hu _ hlt).2 i hi j hj rfl
      simpa [hlt] using this
theorem srcE_ok {c : Ctx} (h : RA c K σ O w) {v : Value} {x : AV} {sz : Nat} (hv : Rep K σ O v x) {Q : List (List AV) → Prop} (hq : (srcE O x).holds Q) :
    ∃ ys, Q ys ∧ ((∀ y ∈ ys, y.length = sz) → IsSrc P K σ O w v sz ys) := by
  unfold srcE at hq
  split at hq
  · rename_i s
    obtain ⟨rfl, hl⟩ := hv.strv
    refine ⟨_, hq, fun hok => ⟨by simpa using hl, fun _ => by rw [show Builtin.lenOf (.string ⟨s.toArray⟩) = pure (⟨s.toArray⟩ : ByteArray).size from rfl, size_mk]; simp, ?_⟩⟩
    by_cases hne : s = []
    · subst hne
      exact ⟨#[], fun _ _ => by simp [Builtin.firstCells], by simp, fun i hi => by simp at hi⟩
    · have hs1 : 1 = sz := by
        cases s with
        | nil => exact (hne rfl).elim
        | cons b s => exact hok (encB b) (by simp)
      subst hs1
      refine ⟨(s.map fun b => Value.int .u8 b.toNat).toArray, ?_, by simp, fun i hi j hj => ?_⟩
      · intro w' _; simp [Builtin.firstCells]
      · have hi' : i < s.length := by simpa using hi
        have hj0 : j = 0 := by simpa [encB] using hj
        subst hj0
        simp [encB, hi']
        exact .lit _
  · obtain ⟨ys, hQ, hrow⟩ := rowE_ok h hv hq
    exact ⟨ys, hQ, fun hok => hrow.cells hok⟩

theorem okRow_getD {sz : Nat} {ys : List (List AV)} (h : okRow sz ys) {i j : Nat} (hi : i < ys.length) (hj : j < sz) : ∃ hj' : j < ys[i].length, ys[i][j].one = true := by
  obtain ⟨h1, h2⟩ := h _ (List.getElem_mem hi)
  exact ⟨by omega, List.all_eq_true.1 h2 _ (List.getElem_mem _)⟩
/-- The cells of a source are values of one cell. -/
theorem src_one {ys : List (List AV)} {sz : Nat} (hok : okRow sz ys) {cs : Array Value} (h1 : cs.size = ys.length * sz)
    (h2 : ∀ i (h : i < ys.length) j (hj : j < ys[i].length), Rep K σ O (cs.getD (i * sz + j) undef) ys[i][j]) : ∀ u ∈ cs.toList, u.oneCell' = true := by
  intro u hu
  obtain ⟨k, hk, rfl⟩ := List.mem_iff_getElem.1 hu
  have hk' : k < ys.length * sz := by simpa [h1] using hk
  have hsz0 : 0 < sz := by
    rcases Nat.eq_zero_or_pos sz with h | h
    · subst h; simp at hk'
    · exact h
  have hi : k / sz < ys.length := by rw [Nat.div_lt_iff_lt_mul hsz0]; exact hk'
  obtain ⟨hj, hone⟩ := okRow_getD hok hi (Nat.mod_lt k hsz0)
  have h3 := (h2 _ hi _ hj).one hone
  have e : k / sz * sz + k % sz = k := by rw [Nat.mul_comm]; exact Nat.div_add_mod k sz
  rw [e] at h3
  have hk2 : k < cs.size := by simpa using hk
  simpa [hk2] using h3
/-- Two rows of cells, one behind the other. -/
theorem two_rows {xs ys : List (List AV)} {sz : Nat} {a b : Array Value} (hxs : ∀ x ∈ xs, x.length = sz) (hys : ∀ y ∈ ys, y.length = sz)
    (h1 : ∀ i (h : i < xs.length) j (hj : j < xs[i].length), Rep K σ O (a.getD (i * sz + j) undef) xs[i][j])
    (h2 : ∀ i (h : i < ys.length) j (hj : j < ys[i].length), Rep K σ O (b.getD (i * sz + j) undef) ys[i][j]) (cs : Array Value)
    (hc1 : ∀ k, k < xs.length * sz → cs.getD k undef = a.getD k undef) (hc2 : ∀ k, k < ys.length * sz → cs.getD (xs.length * sz + k) undef = b.getD k undef) :
    ∀ i (h : i < (xs ++ ys).length) j (hj : j < (xs ++ ys)[i].length), Rep K σ O (cs.getD (i * sz + j) undef) (xs ++ ys)[i][j] := by
  intro i hi j hj
  rcases Nat.lt_or_ge i xs.length with h | h
  · have e : (xs ++ ys)[i] = xs[i] := List.getElem_append_left h
    have hj' : j < xs[i].length := by rw [← e]; exact hj
    have hjs : j < sz := by rw [← hxs _ (List.getElem_mem h)]; exact hj'
    have h4 : (i + 1) * sz ≤ xs.length * sz := Nat.mul_le_mul_right _ (by omega)
    rw [Nat.add_mul] at h4
    rw [hc1 _ (by omega)]
    have := h1 i h j hj'
    simpa [e] using this
  · have hi2 : i - xs.length < ys.length := by simp at hi; omega
    have e : (xs ++ ys)[i] = ys[i - xs.length] := List.getElem_append_right h
    have hj' : j < ys[i - xs.length].length := by rw [← e]; exact hj
    have hjs : j < sz := by rw [← hys _ (List.getElem_mem hi2)]; exact hj'
    have h4 : (i - xs.length + 1) * sz ≤ ys.length * sz := Nat.mul_le_mul_right _ (by omega)
    rw [Nat.add_mul] at h4
    have e2 : i * sz + j = xs.length * sz + ((i - xs.length) * sz + j) := by
      have : i = xs.length + (i - xs.length) := by omega
      conv => lhs; rw [this, Nat.add_mul]
      omega
    rw [e2, hc2 _ (by omega)]
    have := h2 _ hi2 j hj'
    simpa [e] using this

def isSrcK : TK → Bool | .slice _ | .str => true | _ => false
def appE (P : Program) (O : List AObj) (t t2 : TypeId) (s x : AV) : Ev (AV × List AObj) :=
  match tk P t with
  | some (.slice e) => match szT P e, byT P e, zeT P e, tk P t2 with
    | some sz, some by_, some zs, some k2 => (srcE O x).bind fun ys =>
      .need (zs.length = sz ∧ okRow sz ys ∧ isSrcK k2 = true ∧ by_ ≠ 0) (match s with
      | .own id len => match O[id]? with
        | some (.buf sz' xs) => .need (len = xs.length ∧ sz' = sz ∧ xs.length + ys.length ≤ LIM ∧ (xs.length + ys.length) * by_ ≤ LIM)
            (.ret (.own id (xs.length + ys.length), O.set id (.buf sz (xs ++ ys))))
        | _ => .bad
      | .lit (.slice none 0 0) => .need (ys ≠ [] ∧ ys.length ≤ LIM ∧ ys.length * by_ ≤ LIM) (.ret (.own O.length ys.length, O ++ [.buf sz ys]))
      | .full xs => .need (ys ≠ [] ∧ xs.length + ys.length ≤ LIM ∧ (xs.length + ys.length) * by_ ≤ LIM ∧ okRow sz xs) (.ret (.own O.length (xs.length + ys.length), O ++ [.buf sz (xs ++ ys)]))
      | _ => .bad)
    | _, _, _, _ => .bad
  | _ => .bad

theorem info_of {e sz by_ : Nat} {zs : List AV} (hsz : szT P e = some sz) (hby : byT P e = some by_) (hz : zeT P e = some zs) :
    ∃ i z, P.info? e = some i ∧ i.size = sz ∧ i.bytes = by_ ∧ i.zero = some z ∧ z.cells.size = zs.length := by
  unfold szT at hsz; unfold byT at hby; unfold zeT at hz
  cases hi : P.info? e with
  | none => rw [hi] at hsz; cases hsz
  | some i =>
    rw [hi] at hsz hby hz
    simp only [Option.map_some, Option.some.injEq, Option.bind_some, Option.map_eq_some_iff] at hsz hby hz
    obtain ⟨z, h1, h2⟩ := hz
    exact ⟨i, z, rfl, hsz, hby, h1, by rw [← h2]; simp⟩
/-- The append of the model where there is no room: a new row. -/
theorem append_grow {t t2 e ty : TypeId} {sz by_ : Nat} {zs : List AV} {d2 : TypeDesc} (hu : P.underlying t = some (.slice e)) (hu2 : P.underlying t2 = some d2) (hd2 : (∃ e2, d2 = .slice e2) ∨ d2 = .string)
    (hsz : szT P e = some sz) (hby : byT P e = some by_) (hz : zeT P e = some zs) (hzl : zs.length = sz) {a : Option Addr} {n cap : Nat} {x : Value} {m : Nat} {old new : Array Value}
    (hlen : ∀ w, (Builtin.lenOf x).run P w = .ok m w) (hcap : cap < n + m) (hfit : (n + m) * by_ ≤ LIM) (hlim : n + m ≤ LIM) (hby0 : by_ ≠ 0)
    (hold : (Builtin.firstCells sz n (.slice a n cap)).run P w.drew = .ok old w.drew) (hnew : (Builtin.firstCells sz m x).run P w.drew = .ok new w.drew) :
    ∃ (newCap : Nat) (rest : Array Value), n + m ≤ newCap ∧ rest.size = (newCap - (n + m)) * sz ∧
      (Builtin.append_ #[t, t2] ty #[.slice a n cap, x]).run P w = .ok (.slice (some ⟨w.heap.size, 0, none⟩) (n + m) newCap) (w.drew.alloc (.cells (old ++ new ++ rest) e)) := by
  obtain ⟨i, z, hi, hi1, hi2, hi3, hi4⟩ := info_of hsz hby hz
  have hge : n + m ≤ grownCap w (n + m) cap e := by simp only [grownCap, Question.cut]; omega
  refine ⟨grownCap w (n + m) cap e, Builtin.zeroCells z.cells (grownCap w (n + m) cap e - (n + m)), hge, by simp [Builtin.zeroCells, hi4, hzl], ?_⟩
  have h1 : ¬ (n + m ≤ cap) := by omega
  have h2 : ¬ (281474976710656 < Builtin.nextslicecap (n + m) cap * by_) := by
    have := growslice_fits (bytes := by_) hcap (by unfold LIM at hfit; exact hfit)
    omega
  have h3 : ¬ (9223372036854775807 < ((n : Int) + (m : Int))) := by unfold LIM at hlim; omega
  rcases hd2 with ⟨e2, rfl⟩ | rfl <;>
    (simp [Builtin.append_, Go.run_underlying hu, Go.run_underlying hu2, sizeOf, typeInfo, zeroValue, hi, hi3, hi1, hi2, hlen, h1, h2, h3, hby0, Question.forced, hold, hnew, newRow, grownCap])
/-- Where there is room: the new elements are written behind the old ones. -/
theorem append_room {t t2 e ty : TypeId} {sz : Nat} {d2 : TypeDesc} (hu : P.underlying t = some (.slice e)) (hu2 : P.underlying t2 = some d2) (hd2 : (∃ e2, d2 = .slice e2) ∨ d2 = .string)
    (hsz : szT P e = some sz) {b n cap : Nat} {x : Value} {m : Nat} {new : Array Value} (hlen : (Builtin.lenOf x).run P w = .ok m w) (hcap : n + m ≤ cap)
    (hnew : (Builtin.firstCells sz m x).run P w = .ok new w) {w' : World} (hst : (storeCells ⟨b, n * sz, none⟩ new.toList).run P w = .ok () w') :
    (Builtin.append_ #[t, t2] ty #[.slice (some ⟨b, 0, none⟩) n cap, x]).run P w = .ok (.slice (some ⟨b, 0, none⟩) (n + m) cap) w' := by
  rcases hd2 with ⟨e2, rfl⟩ | rfl <;>
    (simp [Builtin.append_, Go.run_underlying hu, Go.run_underlying hu2, run_sizeOf hsz, hlen, hcap, hnew, add_at, hst])

theorem src_of {t2 : TypeId} {k2 : TK} (h : tk P t2 = some k2) (hk : isSrcK k2 = true) :
    ∃ d2, P.underlying t2 = some d2 ∧ ((∃ e2, d2 = .slice e2) ∨ d2 = .string) := by
  cases k2 <;> first | (cases hk; done) | skip
  · exact ⟨_, slice_of h, .inl ⟨_, rfl⟩⟩
  · exact ⟨_, str_of h, .inr rfl⟩
/-- An append to a row of this call's own. -/
theorem app_own {c0 : Ctx} (h0 : RA c0 K σ O w) {t t2 e ty : TypeId} {sz by_ : Nat} {zs : List AV} {d2 : TypeDesc} (hu : P.underlying t = some (.slice e)) (hu2 : P.underlying t2 = some d2) (hd2 : (∃ e2, d2 = .slice e2) ∨ d2 = .string)
    (hsz : szT P e = some sz) (hby : byT P e = some by_) (hz : zeT P e = some zs) (hzl : zs.length = sz) (hby0 : by_ ≠ 0) {v x : Value} {id len : Nat} {xs ys : List (List AV)}
    (hv : Rep K σ O v (.own id len)) (ho : O[id]? = some (.buf sz xs)) (hl : len = xs.length) (hok : okRow sz ys) (hsrc : IsSrc P K σ O w x sz ys)
    (hlim : xs.length + ys.length ≤ LIM) (hfit : (xs.length + ys.length) * by_ ≤ LIM) :
    ∃ v' σ' w', (Builtin.append_ #[t, t2] ty #[v, x]).run P w = .ok v' w' ∧ (∀ c, RA c K σ O w → RA c K σ' (O.set id (.buf sz (xs ++ ys))) w') ∧
      (∀ v x, Rep K σ O v x → Rep K σ' (O.set id (.buf sz (xs ++ ys))) v x) ∧ Rep K σ' (O.set id (.buf sz (xs ++ ys))) v' (.own id (xs.length + ys.length)) := by
  obtain ⟨hlimy, hlen, cs, hcs, hcsz, hcr⟩ := hsrc
  have hlt : id < O.length := by
    rcases Nat.lt_or_ge id O.length with h1 | h1
    · exact h1
    · rw [List.getElem?_eq_none h1] at ho; cases ho
  have h1 := h0.objs id
  rw [ho] at h1
  obtain ⟨hk, arr, t0, fr, hb, hf, hs, hcap, hlimx, hszx, hr⟩ := h1
  have hva : v = .slice (some ⟨(σ id).1, 0, none⟩) xs.length (σ id).2 := by
    cases hv with
    | own _ _ _ g1 g2 g3 => rw [(g3 _ _ ho).2 hl, hl]
  have hszxy : ∀ z ∈ xs ++ ys, z.length = sz := fun z hz => by
    rcases List.mem_append.1 hz with h | h
    · exact hszx z h
    · exact (hok z h).1
  by_cases hroom : xs.length + ys.length ≤ (σ id).2
  · have hst := run_storeCells P (σ id).1 t0 fr cs.toList w arr (xs.length * sz) 0 hb hf
      (by
        have : (xs.length + ys.length) * sz ≤ (σ id).2 * sz := Nat.mul_le_mul_right _ hroom
        rw [Nat.add_mul] at this
        simp [hcsz]; omega) (src_one hok hcsz hcr)
    have hrun := append_room (P := P) (ty := ty) hu hu2 hd2 hsz (b := (σ id).1) (n := xs.length) (hlen w) hroom (hcs w rfl) hst
    have hspl : xs.length * sz + 0 + cs.toList.length ≤ arr.size := by
      have : (xs.length + ys.length) * sz ≤ (σ id).2 * sz := Nat.mul_le_mul_right _ hroom
      rw [Nat.add_mul] at this
      simp [hcsz]; omega
    have hset := fun (c : Ctx) (h : RA c K σ O w) => setBuf (c := c) (ys := xs ++ ys) ho (by simp; cases ys <;> simp) (by simpa using hroom) (by simpa using hlim) hszxy hb
      (arr' := (splice arr.toList (xs.length * sz + 0) cs.toList).toArray) (by simp [splice_length]) hf
      (two_rows (a := arr) (b := cs) hszx (fun y hy => (hok y hy).1) hr hcr _ (fun k hk => by rw [getD_splice hspl, if_neg (by omega)])
        (fun k hk => by rw [getD_splice hspl, if_pos (by simp [hcsz]; omega)]; have hk' : k < cs.size := by omega
                        have e : xs.length * sz + k - (xs.length * sz + 0) = k := by omega
                        rw [e]; simp [hk'])) h
    refine ⟨_, σ, _, by rw [hva]; exact hrun, fun c h => (hset c h).1, fun v x hx => hx.mono (fun _ _ h => h) (hset c0 h0).2, .own _ _ _ rfl (by simpa using hlt) fun s z hz => ?_⟩
    rw [List.getElem?_set] at hz
    simp [hlt] at hz
    obtain ⟨rfl, rfl⟩ := hz
    exact ⟨by simp, fun _ => rfl⟩
  · have hgrow : (σ id).2 < xs.length + ys.length := by omega
    have hrow : IsRow K σ O w v xs := IsRow.own h0 hv ho hl
    obtain ⟨_, _, as, has, hass, har⟩ := hrow.cells (P := P) hszx
    rw [hva] at has
    obtain ⟨nc, rest, hnc, hrs, hrun⟩ := append_grow (P := P) (ty := ty) (w := w) hu hu2 hd2 hsz hby hz hzl hlen hgrow hfit hlim hby0 (has w.drew rfl) (hcs w.drew rfl)
    have hc : Compat O σ (O.set id (.buf sz (xs ++ ys))) (σ.upd id (w.heap.size, nc)) := by
      refine Compat.set ho (fun j hj => by unfold Plc.upd; rw [if_neg hj]) (fun zs e => by cases e) (fun s2 z2 e => ?_) (fun _ e => by cases e)
      cases e
      exact ⟨xs, rfl, .inr (by simp; omega)⟩
    have hset : ∀ c, RA c K σ O w → RA c K (σ.upd id (w.heap.size, nc)) (O.set id (.buf sz (xs ++ ys))) (w.drew.alloc (.cells (as ++ cs ++ rest) e)) := fun c h => by
      refine h.set ho trivial (.inr rfl) rfl rfl rfl (by simp) (fun b hb _ => ?_) hc ?_
      · show (w.heap.push _)[b]? = _
        rw [Array.getElem?_push, if_neg (by omega)]
      · have sn : σ.upd id (w.heap.size, nc) id = (w.heap.size, nc) := by unfold Plc.upd; rw [if_pos rfl]
        refine ⟨?_, as ++ cs ++ rest, e, (0, 0), ?_, fun j _ => by omega, ?_, by rw [sn]; simpa using hnc, by simpa using hlim, hszxy, fun i hi j hj => ?_⟩
        · rw [sn]
          cases hk : K w.heap.size with
          | none => rfl
          | some o => have := h.cons _ _ hk; simp at this
        · rw [sn]
          show (w.heap.push _)[w.heap.size]? = _
          simp
        · rw [sn]; simp [hass, hcsz, hrs, ← Nat.add_mul]; congr 1; omega
        · refine Rep.mono (fun _ _ h => h) hc ?_
          refine two_rows (a := as) (b := cs) hszx (fun y hy => (hok y hy).1) har hcr _ (fun k hk => ?_) (fun k hk => ?_) i hi j hj
          · have h1 : k < as.size := by omega
            simp only [Array.getD_eq_getD_getElem?, Array.getElem?_append, Array.size_append]
            rw [if_pos (by omega), if_pos h1]
          · have h1 : k < cs.size := by omega
            have e1 : xs.length * sz + k - as.size = k := by omega
            simp only [Array.getD_eq_getD_getElem?, Array.getElem?_append, Array.size_append]
            rw [if_pos (by omega), if_neg (by omega), e1]
    refine ⟨_, _, _, by rw [hva]; exact hrun, hset, fun v x hx => hx.mono (fun _ _ h => h) hc, .own _ _ _ rfl (by simpa using hlt) fun s z hz => ?_⟩
    rw [List.getElem?_set] at hz
    simp [hlt] at hz
    obtain ⟨rfl, rfl⟩ := hz
    have sn : σ.upd id (w.heap.size, nc) id = (w.heap.size, nc) := by unfold Plc.upd; rw [if_pos rfl]
    exact ⟨by simp, fun _ => by rw [sn]⟩

/-- An append to what has no room: a new row. -/
theorem app_new {t t2 e ty : TypeId} {sz by_ : Nat} {zs : List AV} {d2 : TypeDesc} (hu : P.underlying t = some (.slice e)) (hu2 : P.underlying t2 = some d2) (hd2 : (∃ e2, d2 = .slice e2) ∨ d2 = .string)
    (hsz : szT P e = some sz) (hby : byT P e = some by_) (hz : zeT P e = some zs) (hzl : zs.length = sz) (hby0 : by_ ≠ 0) {a : Option Addr} {x : Value} {xs ys : List (List AV)}
    (hxs : IsSrc P K σ O w (.slice a xs.length xs.length) sz xs) (hszx : ∀ x ∈ xs, x.length = sz) (hne : ys ≠ []) (hok : okRow sz ys) (hsrc : IsSrc P K σ O w x sz ys)
    (hlim : xs.length + ys.length ≤ LIM) (hfit : (xs.length + ys.length) * by_ ≤ LIM) :
    ∃ v' σ' w', (Builtin.append_ #[t, t2] ty #[.slice a xs.length xs.length, x]).run P w = .ok v' w' ∧ (∀ c, RA c K σ O w → RA c K σ' (O ++ [.buf sz (xs ++ ys)]) w') ∧
      (∀ v x, Rep K σ O v x → Rep K σ' (O ++ [.buf sz (xs ++ ys)]) v x) ∧ Rep K σ' (O ++ [.buf sz (xs ++ ys)]) v' (.own O.length (xs.length + ys.length)) := by
  obtain ⟨hlimy, hlen, cs, hcs, hcsz, hcr⟩ := hsrc
  obtain ⟨_, _, as, has, hass, har⟩ := hxs
  have hpos : 0 < ys.length := by cases ys <;> simp_all
  obtain ⟨nc, rest, hnc, hrs, hrun⟩ := append_grow (P := P) (ty := ty) (w := w) (cap := xs.length) hu hu2 hd2 hsz hby hz hzl hlen (by omega) hfit hlim hby0 (has w.drew rfl) (hcs w.drew rfl)
  have hszxy : ∀ z ∈ xs ++ ys, z.length = sz := fun z hz => by
    rcases List.mem_append.1 hz with h | h
    · exact hszx z h
    · exact (hok z h).1
  have hset : ∀ c, RA c K σ O w → RA c K (σ.upd O.length (w.heap.size, nc)) (O ++ [.buf sz (xs ++ ys)]) (w.drew.alloc (.cells (as ++ cs ++ rest) e)) := fun c h =>
    newBuf (w := w.drew) e (0, 0) (fun j _ => by omega) (by simp [hass, hcsz, hrs, ← Nat.add_mul]; congr 1; omega) (by simpa using hnc) (by simpa using hlim) hszxy
      (two_rows (a := as) (b := cs) hszx (fun y hy => (hok y hy).1) har hcr _ (fun k hk => by
            have h1 : k < as.size := by omega
            simp only [Array.getD_eq_getD_getElem?, Array.getElem?_append, Array.size_append]
            rw [if_pos (by omega), if_pos h1]) (fun k hk => by
            have h1 : k < cs.size := by omega
            have e1 : xs.length * sz + k - as.size = k := by omega
            simp only [Array.getD_eq_getD_getElem?, Array.getElem?_append, Array.size_append]
            rw [if_pos (by omega), if_neg (by omega), e1])) (h.drawn _)
  have sn : σ.upd O.length (w.heap.size, nc) O.length = (w.heap.size, nc) := by unfold Plc.upd; rw [if_pos rfl]
  refine ⟨_, _, _, hrun, hset, fun v x hx => hx.mono (fun _ _ h => h) (Compat.append _ _ _ _), .own _ _ _ rfl (by simp) fun s z hz => ?_⟩
  simp at hz
  obtain ⟨rfl, rfl⟩ := hz
  exact ⟨by simp, fun _ => by rw [sn]⟩

theorem appE_ok {c0 : Ctx} (h0 : RA c0 K σ O w) {t t2 ty : TypeId} {v u : Value} {s x : AV} (hv : Rep K σ O v s) (hu : Rep K σ O u x) :
    DoesV P (Builtin.append_ #[t, t2] ty #[v, u]) K σ O w (appE P O t t2 s x) := by
  unfold appE
  split
  · rename_i e hk
    split
    · rename_i sz by_ zs k2 hsz hby hz hk2
      intro Q hq
      rw [Ev.holds_bind] at hq
      obtain ⟨ys, ⟨⟨hzl, hok, hkk, hby0⟩, hq⟩, hsrc⟩ := srcE_ok (P := P) (sz := sz) h0 hu hq
      have hsrc := hsrc fun y hy => (hok y hy).1
      obtain ⟨d2, hd, hd2⟩ := src_of hk2 hkk
      split at hq
      · rename_i id len
        split at hq
        · rename_i sz' xs ho
          obtain ⟨⟨hl, rfl, hlim, hfit⟩, hQ⟩ := hq
          obtain ⟨v', σ', w', h1, h2, h3, h4⟩ := app_own (ty := ty) h0 (slice_of hk) hd hd2 hsz hby hz hzl hby0 hv ho hl hok hsrc hlim hfit
          exact ⟨v', _, K, σ', _, w', hQ, h1, h2, h3, h4⟩
        · exact hq.elim
      · obtain ⟨⟨hne, hlim, hfit⟩, hQ⟩ := hq
        have := hv.litv
        subst this
        obtain ⟨v', σ', w', h1, h2, h3, h4⟩ := app_new (ty := ty) (K := K) (σ := σ) (O := O) (w := w) (xs := []) (a := none) (slice_of hk) hd hd2 hsz hby hz hzl hby0
          ⟨Nat.zero_le _, fun _ => rfl, #[], fun _ _ => rfl, by simp, fun i hi => by simp at hi⟩ (by simp) hne hok hsrc (by simpa using hlim) (by simpa using hfit)
        simp only [List.nil_append, List.length_nil, Nat.zero_add] at h2 h3 h4
        exact ⟨v', _, K, σ', _, w', hQ, h1, h2, h3, h4⟩
      · rename_i xs
        obtain ⟨⟨hne, hlim, hfit, hokx⟩, hQ⟩ := hq
        have hrow := (Rep.row h0 (.inr hv)).cells (P := P) (fun y hy => (hokx y hy).1)
        cases hv with
        | full _ a sz2 u2 g1 g2 g3 g4 =>
          obtain ⟨v', σ', w', h1, h2, h3, h4⟩ := app_new (ty := ty) (slice_of hk) hd hd2 hsz hby hz hzl hby0 hrow (fun y hy => (hokx y hy).1) hne hok hsrc hlim hfit
          exact ⟨v', _, K, σ', _, w', hQ, h1, h2, h3, h4⟩
      · exact hq.elim
    · exact .bad
  · exact .bad
end
end Go.Aw
