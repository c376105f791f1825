/- strings.Repeat, by the shelf's contract; the table of numbers was printed by the shelf's own tools (lay-shelf, lay-plain). primitive.Decode. primitive.Open. -/
import Derived.Shelf.Strings.Repeat
import Derived.Test.YtikllkldhnncnaaGreatDoorFb
set_option linter.all false
namespace Go.Proofs
section
open Go.Shelf
def Tryz.lays105_ren : Go.Shelf.Ren := ⟨fun | 105 => 50 | 212 => 61 | 99 => 60 | 165 => 62 | 166 => 63 | 170 => 64 | 169 => 65 | 263 => 72 | 264 => 73 | 206 => 71 | 240 => 74 | 241 => 75 | 276 => 80 | 277 => 81 | n => n, fun | 9 => 9 | 3 => 3 | 4 => 4 | 20 => 20 | 0 => 0 | 46 => 85 | 109 => 116 | 5 => 5 | 72 => 120 | 76 => 124 | 51 => 79 | 146 => 131 | 53 => 96 | 148 => 133 | 70 => 118 | 37 => 56 | 75 => 123 | 127 => 135 | 164 => 145 | 80 => 28 | n => n, fun | n => n⟩
theorem Tryz.lays105 : Go.Proofs.Lays.n105 Tryz.prog Tryz.lays105_ren := {
  mixed := by kernel_rfl
  f99 := Tryz.func60.trans (congrArg some (by kernel_rfl))
  f105 := Tryz.func50.trans (congrArg some (by kernel_rfl))
  f165 := Tryz.func62.trans (congrArg some (by kernel_rfl))
  f166 := Tryz.func63.trans (congrArg some (by kernel_rfl))
  f169 := Tryz.func65.trans (congrArg some (by kernel_rfl))
  f170 := Tryz.func64.trans (congrArg some (by kernel_rfl))
  f206 := Tryz.func71.trans (congrArg some (by kernel_rfl))
  f212 := Tryz.func61.trans (congrArg some (by kernel_rfl))
  f240 := Tryz.func74.trans (congrArg some (by kernel_rfl))
  f241 := Tryz.func75.trans (congrArg some (by kernel_rfl))
  f263 := Tryz.func72.trans (congrArg some (by kernel_rfl))
  f264 := Tryz.func73.trans (congrArg some (by kernel_rfl))
  f276 := Tryz.func80.trans (congrArg some (by kernel_rfl))
  f277 := Tryz.func81.trans (congrArg some (by kernel_rfl))
  t0 := Tryz.underlying0
  a0 := Tryz.isAgg0
  z0 := Tryz.sizeOf0
  v0 := Tryz.zeroValue0
  t3 := Tryz.underlying3
  a3 := Tryz.isAgg3
  z3 := Tryz.sizeOf3
  v3 := Tryz.zeroValue3
  t4 := Tryz.underlying4
  a4 := Tryz.isAgg4
  z4 := Tryz.sizeOf4
  v4 := Tryz.zeroValue4
  t5 := Tryz.underlying5
  a5 := Tryz.isAgg5
  z5 := Tryz.sizeOf5
  v5 := Tryz.zeroValue5
  t9 := Tryz.underlying9
  a9 := Tryz.isAgg9
  z9 := Tryz.sizeOf9
  v9 := Tryz.zeroValue9
  t20 := Tryz.underlying20
  a20 := Tryz.isAgg20
  z20 := Tryz.sizeOf20
  v20 := Tryz.zeroValue20
  t37 := Tryz.underlying56
  a37 := Tryz.isAgg56
  z37 := Tryz.sizeOf56
  v37 := Tryz.zeroValue56
  t46 := Tryz.underlying85
  a46 := Tryz.isAgg85
  z46 := Tryz.sizeOf85
  v46 := Tryz.zeroValue85
  t51 := Tryz.underlying79
  a51 := Tryz.isAgg79
  z51 := Tryz.sizeOf79
  v51 := Tryz.zeroValue79
  t53 := Tryz.underlying96
  a53 := Tryz.isAgg96
  z53 := Tryz.sizeOf96
  v53 := Tryz.zeroValue96
  t70 := Tryz.underlying118
  a70 := Tryz.isAgg118
  z70 := Tryz.sizeOf118
  v70 := Tryz.zeroValue118
  t72 := Tryz.underlying120
  a72 := Tryz.isAgg120
  z72 := Tryz.sizeOf120
  v72 := Tryz.zeroValue120
  t75 := Tryz.underlying123
  a75 := Tryz.isAgg123
  z75 := Tryz.sizeOf123
  v75 := Tryz.zeroValue123
  t76 := Tryz.underlying124
  a76 := Tryz.isAgg124
  z76 := Tryz.sizeOf124
  v76 := Tryz.zeroValue124
  t109 := Tryz.underlying116
  a109 := Tryz.isAgg116
  z109 := Tryz.sizeOf116
  v109 := Tryz.zeroValue116
  t127 := Tryz.underlying135
  a127 := Tryz.isAgg135
  z127 := Tryz.sizeOf135
  v127 := Tryz.zeroValue135
  t146 := Tryz.underlying131
  a146 := Tryz.isAgg131
  z146 := Tryz.sizeOf131
  v146 := Tryz.zeroValue131
  t148 := Tryz.underlying133
  a148 := Tryz.isAgg133
  z148 := Tryz.sizeOf133
  v148 := Tryz.zeroValue133
  t164 := Tryz.underlying145
  a164 := Tryz.isAgg145
  z164 := Tryz.sizeOf145
  v164 := Tryz.zeroValue145 }
theorem Tryz.Builder_Extra_105 : Builder.Extra Tryz.prog Tryz.lays105_ren := {
  sizeBuilder := by kernel_rfl
  liesBuilder := by kernel_rfl
  t5 := Tryz.underlying5
  a5 := Tryz.isAgg5
  z5 := Tryz.sizeOf5
  v5 := Tryz.zeroValue5
  infoByte := by kernel_rfl
  cellsByte := by kernel_rfl
  sizeByte := by kernel_rfl
  neB5 := by decide }
open Go.RowKit Go.Lib in
/-- **strings.Repeat: count ≥ 0, the result within one allocation: count copies of s.** (LAID: no walk: one application.) -/
theorem Tryz.strings_Repeat (s : ByteArray) (c : Nat) (w : World) (hc : c ≤ 9223372036854775807) (hlen : s.size * c ≤ 140737488355328) :
    Calls Tryz.prog 50 #[.string s, .int .i64 c] w fun e w' => e = .returned (.string ⟨(Lib.repeatL s.data.toList c).toArray⟩) ∧ Below w.heap.size w w' := Any.strings_Repeat Tryz.lays105 Tryz.Builder_Extra_105 s c w hc hlen
end
open Go Go.Aw
theorem repeatL_one_byte (c : UInt8) : ∀ n, Lib.repeatL [c] n = List.replicate n c
  | 0 => rfl
  | n + 1 => by rw [Lib.repeatL, repeatL_one_byte c n]; rfl
theorem repeat_spec (c : UInt8) (n : Nat) (hn : n ≤ 2) : Go.Aw.Pure Tryz.prog 50 [.str [c], .lit (.int .i64 n)] (.str (List.replicate n c)) := by
  refine ⟨⟨_, Tryz.func50, by kernel_rfl, by kernel_rfl⟩, fun K w vs hK hs hv => ?_⟩
  have h0 := hv 0 (by simp)
  have h1 := hv 1 (by simp)
  have e : vs = #[.string ⟨[c].toArray⟩, .int .i64 n] := by
    simp only [List.length_cons, List.length_nil] at hs
    obtain ⟨l⟩ := vs
    match l, hs with
    | [a, b], _ =>
      simp only [List.getElem_cons_zero, List.getElem_cons_succ] at h0 h1
      have h0 : Rep K σ0 [] a (.str [c]) := h0
      have h1 : Rep K σ0 [] b (.lit (.int .i64 n)) := h1
      cases h0
      cases h1
      rfl
  subst e
  refine (Tryz.strings_Repeat ⟨[c].toArray⟩ n w (by omega) (by show 1 * n ≤ _; omega)).mono fun e w' h => ?_
  obtain ⟨h1, h2⟩ := h
  refine ⟨_, h1, h2, ?_⟩
  have e : Lib.repeatL (ByteArray.data ⟨[c].toArray⟩).toList n = List.replicate n c := repeatL_one_byte c n
  rw [e]
  exact .str _ (by simp [LIM]; omega)
end Go.Proofs
namespace Go.Proofs
open Go Go.Aw
set_option maxRecDepth 100000
structure PD where
  code : Nat
  raw : List UInt8
  n : Nat
  err : Nat
def pdA (x : PD) : AV := .tup [.agg [.lit (.int .i64 x.code), .str x.raw], .lit (.int .i64 x.n), .lit (.int .i64 x.err)]
def zN (j : Nat) : Nat := (sizeN (formsL.getD j ([], 0)).1.length (formsL.getD j ([], 0)).2).toNat
/-- The signs that are decoded. -/
def bodyL (s : List UInt8) (j : Nat) : List UInt8 := List.replicate (leadN (formsL.getD j ([], 0)).2) 65 ++ (s.drop (formsL.getD j ([], 0)).1.length).take (zN j - (formsL.getD j ([], 0)).1.length)
def decP (s : List UInt8) : PD := match startJ s with
  | none => ⟨0, [], 0, 7⟩
  | some j => if s.length < zN j then ⟨0, [], 0, 8⟩
    else if decErr (bodyL s j) ≠ 0 then ⟨0, [], 0, 4⟩
    else if hasP ((dec64 (bodyL s j)).getD []) (List.replicate (leadN (formsL.getD j ([], 0)).2) 0) then ⟨j + 1, cutP ((dec64 (bodyL s j)).getD []) (List.replicate (leadN (formsL.getD j ([], 0)).2) 0), zN j, 0⟩
    else ⟨0, [], 0, 4⟩
theorem startJ_lt {s : List UInt8} {j : Nat} (h : startJ s = some j) : j < 8 := by
  have := List.mem_of_find?_eq_some h
  simpa using this
theorem form_facts : ∀ j < 8, (formsL.getD j ([], 0)).1.length ≤ 4 ∧ (formsL.getD j ([], 0)).2 ≤ 1000 ∧ leadN (formsL.getD j ([], 0)).2 ≤ 2 ∧ sizeN (formsL.getD j ([], 0)).1.length (formsL.getD j ([], 0)).2 = (zN j : Int) ∧
    (formsL.getD j ([], 0)).1.length ≤ zN j ∧ zN j ≤ 2000 := by decide
theorem decode_prim (s : List UInt8) : Go.Aw.Pure Tryz.prog 36 [.str s] (pdA (decP s)) := by
  refine Pure.ofS Tryz.func36 (c := Tryz.f36.body.getD .skip) rfl (by kernel_rfl) Tryz.ntmps36 (by simp) fun hs R hR => ?_
  have hs8 := small_str hs
  have hb := begins_spec s
  unfold startR at hb
  unfold decP at hR
  cases hj : startJ s with
  | none =>
    rw [hj] at hb hR
    refine S.run tab_ok Tryz.func36 rfl (.call (.tup [.lit (.int .i64 0), formA ([], 0), .lit (.bool false)]) .nil) _ _ fun P hP => ?_
    cbv
    exact ⟨.of hb hP, hR⟩
  | some j =>
    rw [hj] at hb hR
    dsimp only at hb hR
    obtain ⟨f1, f2, f3, f4, f5, f6⟩ := form_facts j (startJ_lt hj)
    unfold formA at hb
    unfold bodyL at hR
    generalize zN j = z at *
    generalize formsL.getD j ([], 0) = cr at *
    obtain ⟨c, r⟩ := cr
    dsimp only at *
    have hlead := lead_spec c r
    have hsize := size_spec c r f2
    rw [f4] at hsize
    have hr0 := repeat_spec 0 (leadN r) f3
    have hr65 := repeat_spec 65 (leadN r) f3
    generalize leadN r = l at *
    have hz0 : (List.replicate l (0 : UInt8)).length = l := List.length_replicate
    have hz65 : (List.replicate l (65 : UInt8)).length = l := List.length_replicate
    generalize List.replicate l (0 : UInt8) = zs at *
    generalize List.replicate l (65 : UInt8) = aa at *
    obtain ⟨k, hk⟩ : ∃ k, k = j + 1 := ⟨_, rfl⟩
    rw [← hk] at hb hR
    by_cases hlt : s.length < z
    · rw [if_pos hlt] at hR
      refine S.run tab_ok Tryz.func36 rfl (.call (.tup [.lit (.int .i64 k), .agg [.str c, .lit (.int .i64 r)], .lit (.bool true)]) (.call (.lit (.int .i64 z)) .nil)) _ _ fun P hP => ?_
      cbv
      refine ⟨.of hb hP, .of hsize hP, fk (fun h => ?_) (fun h => ?_)⟩ <;> simp only [fold, plain] at h
      · cbv; exact hR
      · simp at h; omega
    · rw [if_neg hlt] at hR
      have hdec := decode_spec (aa ++ (s.drop c.length).take (z - c.length))
      unfold decR at hdec
      generalize hbb : aa ++ (s.drop c.length).take (z - c.length) = b at *
      have hbl : b.length ≤ 3000 := by rw [← hbb]; simp; omega
      obtain ⟨e, he⟩ : ∃ e, e = decErr b := ⟨_, rfl⟩
      obtain ⟨all, hall⟩ : ∃ all, all = if decErr b = 0 then (dec64 b).getD [] else [] := ⟨_, rfl⟩
      rw [← he] at hR hall hdec
      rw [← hall] at hdec
      have hcut := cutPrefix_spec all zs
      obtain ⟨ok, hok⟩ : ∃ ok, ok = hasP all zs := ⟨_, rfl⟩
      obtain ⟨raw, hraw⟩ : ∃ raw, raw = cutP all zs := ⟨_, rfl⟩
      rw [← hok, ← hraw] at hcut
      refine S.run tab_ok Tryz.func36 rfl (.call (.tup [.lit (.int .i64 k), .agg [.str c, .lit (.int .i64 r)], .lit (.bool true)]) (.call (.lit (.int .i64 z)) (.call (.lit (.int .i64 l)) (.call (.str zs)
        (.call (.lit (.int .i64 l)) (.call (.str aa) (.call (.lit (.int .i64 z)) (.call (.tup [.str all, .lit (.int .i64 e)]) (.call (.tup [.str raw, .lit (.bool ok)]) (.call (.lit (.int .i64 z)) .nil)))))))))) _ _ fun P hP => ?_
      cbv
      refine ⟨.of hb hP, .of hsize hP, fk (fun h => ?_) (fun h => ?_)⟩ <;> simp only [fold, plain] at h
      · simp at h; omega
      clear h
      cbv
      refine ⟨.of hlead hP, .of hr0 hP, .of (by kernel_rfl) hP, ?_⟩
      have hc1 : cut s c.length z = (s.drop c.length).take (z - c.length) := rfl
      refine ⟨.of hlead hP, .of hr65 hP, .of hsize hP, ?_, ?_, ?_, ?_, .of hcut hP, fk (fun h => ?_) (fun h => ?_)⟩
      · simp only [fold, plain]; simp; omega
      · simp only [fold, plain]; simp; omega
      · simp only [fold, plain]; simp [cut]; omega
      · simp only [fold, plain, Int.ofNat_eq_natCast, Int.toNat_natCast, hc1, hbb]; exact .of hdec hP
      · simp only [fold, plain] at h
        cbv
        rw [if_pos (by simpa using h)] at hR
        exact hR
      · simp only [fold, plain] at h
        have he0 : e = 0 := by simpa using h
        rw [if_neg (by omega)] at hR
        rw [if_pos he0] at hall
        rw [← hall, ← hok, ← hraw] at hR
        clear h
        cbv
        refine fk (fun h => ?_) (fun h => ?_) <;> simp only [fold, plain] at h <;> cbv
        · rw [show ok = false by simpa using h] at hR
          exact hR
        · rw [show ok = true by simpa using h] at hR
          exact ⟨.of hsize hP, hR⟩
end Go.Proofs
namespace Go.Proofs
open Go Go.Aw
set_option maxRecDepth 100000
def openR (code : Nat) (s : List UInt8) : List UInt8 × Nat :=
  let p := decP s
  if p.err ≠ 0 then ([], p.err) else if p.code ≠ code then ([], 7) else if p.n ≠ s.length then ([], 8) else (p.raw, 0)
theorem open_spec (code : Nat) (s : List UInt8) : Go.Aw.Pure Tryz.prog 23 [.lit (.int .i64 code), .str s] (.tup [.str (openR code s).1, .lit (.int .i64 (openR code s).2)]) := by
  refine Pure.ofS Tryz.func23 (c := Tryz.f23.body.getD .skip) rfl (by kernel_rfl) Tryz.ntmps23 (by simp) fun hs R hR => ?_
  have hd := decode_prim s
  unfold openR at hR
  unfold pdA at hd
  generalize decP s = p at *
  obtain ⟨c, r, n, e⟩ := p
  dsimp only at hd hR
  refine S.run tab_ok Tryz.func23 rfl (.call (.tup [.agg [.lit (.int .i64 c), .str r], .lit (.int .i64 n), .lit (.int .i64 e)]) .nil) _ _ fun P hP => ?_
  cbv
  refine ⟨.of hd hP, fk (fun h => ?_) (fun h => ?_)⟩ <;> simp only [fold, plain] at h
  · rw [if_pos (by simpa using h)] at hR
    clear h; cbv; exact hR
  rw [if_neg (by simpa using h)] at hR
  clear h; cbv
  refine fk (fun h => ?_) (fun h => ?_) <;> simp only [fold, plain] at h
  · have h : c ≠ code := by simp at h; omega
    rw [if_pos h] at hR
    cbv; exact hR
  have h : c = code := by simp at h; omega
  rw [if_neg (by simpa using h)] at hR
  clear h; cbv
  refine fk (fun h => ?_) (fun h => ?_) <;> simp only [fold, plain] at h
  · have h : n ≠ s.length := by simp at h; omega
    rw [if_pos h] at hR
    cbv; exact hR
  have h : n = s.length := by simp at h; omega
  rw [if_neg (by simpa using h)] at hR
  clear h; cbv
  exact hR
end Go.Proofs
