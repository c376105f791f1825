/- strings.IndexByte, by the shelf's contract; the table of numbers was printed by the shelf's own tools (lay-shelf, lay-plain). resolver.Print. resolver.Parse. -/
import Derived.Shelf.Small.Strs
import Derived.Test.YtikllkldhnncnaaGreatDoorFc
set_option linter.all false
namespace Go.Proofs
section
open Go.Shelf
def Tryz.lays137_ren : Go.Shelf.Ren := ⟨fun | 137 => 27 | 217 => 38 | 266 => 55 | n => n, fun | 9 => 9 | 5 => 5 | 3 => 3 | n => n, fun | n => n⟩
theorem Tryz.lays137 : Go.Proofs.Lays.n137 Tryz.prog Tryz.lays137_ren := {
  mixed := by kernel_rfl
  f137 := Tryz.func27.trans (congrArg some (by kernel_rfl))
  f217 := Tryz.func38.trans (congrArg some (by kernel_rfl))
  f266 := Tryz.func55.trans (congrArg some (by kernel_rfl))
  t3 := Tryz.underlying3
  a3 := Tryz.isAgg3
  z3 := Tryz.sizeOf3
  v3 := Tryz.zeroValue3
  t5 := Tryz.underlying5
  a5 := Tryz.isAgg5
  z5 := Tryz.sizeOf5
  v5 := Tryz.zeroValue5
  t9 := Tryz.underlying9
  a9 := Tryz.isAgg9
  z9 := Tryz.sizeOf9
  v9 := Tryz.zeroValue9 }
open Go.RowKit in
theorem Tryz.strings_IndexByte (s : ByteArray) (c : Int) (w : World) :
    Calls Tryz.prog 27 #[.string s, .int .u8 c] w fun e w' => e = .returned (.int .i64 (Lib.indexByte s.data.toList c.toNat.toUInt8)) ∧ w' = w := Any.strings_IndexByte Tryz.lays137 s c w
end
open Go Go.Aw
theorem callable27 : callable Tryz.prog 27 := ⟨_, Tryz.func27, by kernel_rfl, by kernel_rfl⟩
theorem two_args {K : Sto} {vs : Array Value} {a b : AV} (hs : vs.size = [a, b].length) (hv : ∀ i (h : i < [a, b].length), Rep K σ0 [] (vs.getD i undef) [a, b][i]) :
    ∃ x y, vs = #[x, y] ∧ Rep K σ0 [] x a ∧ Rep K σ0 [] y b := by
  have h0 := hv 0 (by simp)
  have h1 := hv 1 (by simp)
  simp only [List.length_cons, List.length_nil] at hs
  obtain ⟨l⟩ := vs
  match l, hs with
  | [x, y], _ => exact ⟨x, y, rfl, h0, h1⟩
theorem index_spec (s : List UInt8) (c : Nat) : Go.Aw.Pure Tryz.prog 27 [.str s, .lit (.int .u8 c)] (.lit (.int .i64 (Lib.indexByte s c.toUInt8))) := by
  refine ⟨callable27, fun K w vs hK hs hv => ?_⟩
  obtain ⟨x, y, rfl, h0, h1⟩ := two_args hs hv
  cases h0
  cases h1
  refine (Tryz.strings_IndexByte ⟨s.toArray⟩ c w).mono fun e w' h => ?_
  obtain ⟨h1, rfl⟩ := h
  exact ⟨_, h1, .refl _ _, .lit _⟩
end Go.Proofs
namespace Go.Proofs
open Go Go.Aw
set_option maxRecDepth 100000
def printR (place pre : List UInt8) : List UInt8 × Nat :=
  if nameOK place = false then ([], 53) else if (openR 1 pre).2 ≠ 0 then ([], 17) else ([111, 111, 98, 105, 58] ++ place ++ [47] ++ pre, 0)
theorem nameOK_len {s : List UInt8} (h : nameOK s = true) : s.length ≤ 32 := by
  unfold nameOK at h
  simp only [Bool.and_eq_true, decide_eq_true_eq] at h
  exact h.1.2
theorem zN_le : ∀ j < 8, zN j ≤ 2000 := fun j h => (form_facts j h).2.2.2.2.2
theorem decP_n (s : List UInt8) : (decP s).n ≤ 2000 := by
  unfold decP
  split
  · simp
  · rename_i j hj
    have := zN_le j (startJ_lt hj)
    split
    · simp
    · split
      · simp
      · split
        · exact this
        · simp
theorem openR_len {c : Nat} {s : List UInt8} (h : (openR c s).2 = 0) : s.length ≤ 2000 := by
  unfold openR at h
  dsimp only at h
  have := decP_n s
  split at h
  · rename_i h2; exact (h2 h).elim
  · split at h
    · simp at h
    · split at h
      · simp at h
      · rename_i h3; omega
theorem print_spec (place pre : List UInt8) : Go.Aw.Pure Tryz.prog 10 [.str place, .str pre] (.tup [.str (printR place pre).1, .lit (.int .i64 (printR place pre).2)]) := by
  refine Pure.ofS Tryz.func10 (c := Tryz.f10.body.getD .skip) rfl (by kernel_rfl) Tryz.ntmps10 (by simp) fun hs R hR => ?_
  have hn := name_spec place
  have hl := @nameOK_len place
  unfold printR at hR
  cases hb : nameOK place
  · rw [hb] at hn
    rw [if_pos hb] at hR
    refine S.run tab_ok Tryz.func10 rfl (.call (.lit (.bool false)) .nil) _ _ fun P hP => ?_
    cbv
    exact ⟨.of hn hP, hR⟩
  · rw [hb] at hn
    have hl := hl hb
    rw [if_neg (by simp [hb])] at hR
    have ho := open_spec 1 pre
    have hl2 := @openR_len 1 pre
    generalize openR 1 pre = x at *
    obtain ⟨raw, e⟩ := x
    dsimp only at ho hR hl2
    refine S.run tab_ok Tryz.func10 rfl (.call (.lit (.bool true)) (.call (.tup [.str raw, .lit (.int .i64 e)]) .nil)) _ _ fun P hP => ?_
    cbv
    refine ⟨.of hn hP, .of ho hP, fk (fun h => ?_) (fun h => ?_)⟩ <;> simp only [fold, plain] at h
    · rw [if_pos (by simpa using h)] at hR
      clear h; cbv; exact hR
    · have he : e = 0 := by simpa using h
      have hl2 := hl2 he
      rw [if_neg (by omega)] at hR
      clear h
      cbv
      simp only [fold, plain, decide_eq_true_eq]
      refine ⟨by omega, by simp; omega, by simp; omega, ?_⟩
      simpa using hR
end Go.Proofs
namespace Go.Proofs
open Go Go.Aw
set_option maxRecDepth 100000
def cutAt (s : List UInt8) (i : Nat) : List UInt8 × List UInt8 := ((s.drop 5).take (i - 5), s.drop (i + 1))
def parseR (s : List UInt8) : List UInt8 × List UInt8 × Nat :=
  if Lib.indexByte s 47 < 5 then ([], [], 4)
  else if printR (cutAt s (Lib.indexByte s 47).toNat).1 (cutAt s (Lib.indexByte s 47).toNat).2 = (s, 0) then ((cutAt s (Lib.indexByte s 47).toNat).1, (cutAt s (Lib.indexByte s 47).toNat).2, 0)
  else ([], [], 4)
theorem indexByte_lt : ∀ (s : List UInt8) (c : UInt8), Lib.indexByte s c < s.length
  | [], c => by simp [Lib.indexByte]
  | b :: s, c => by
    have := indexByte_lt s c
    have h1 := Lib.indexByte_ge s c
    unfold Lib.indexByte
    simp only [List.length_cons]
    split
    · omega
    · split <;> omega
theorem parse_spec (s : List UInt8) : Go.Aw.Pure Tryz.prog 13 [.str s] (.tup [.str (parseR s).1, .str (parseR s).2.1, .lit (.int .i64 (parseR s).2.2)]) := by
  refine Pure.ofS Tryz.func13 (c := Tryz.f13.body.getD .skip) rfl (by kernel_rfl) Tryz.ntmps13 (by simp) fun hs R hR => ?_
  have hs8 := small_str hs
  have hi := index_spec s 47
  rw [show (47 : Nat).toUInt8 = 47 from rfl] at hi
  have hlt : 0 ≤ Lib.indexByte s 47 → (Lib.indexByte s 47).toNat < s.length := fun h => by have := indexByte_lt s 47; omega
  have hs9 : s.length ≤ 140737488355328 := hs8
  unfold parseR at hR
  generalize Lib.indexByte s 47 = at_ at *
  refine S.runM 7 tab_ok Tryz.func13 rfl (.call (.lit (.int .i64 at_)) .nil) _ _ fun P hP => ?_
  cbv
  refine ⟨.of hi hP, fk (fun h => ?_) (fun h => ?_)⟩ <;> simp only [fold, plain] at h
  · rw [if_pos (by simpa using h)] at hR
    clear h; cbv; exact hR
  rw [if_neg (by simpa using h)] at hR
  obtain ⟨i, rfl⟩ : ∃ i : Nat, at_ = i := ⟨at_.toNat, by simp at h; omega⟩
  have h5 : 5 ≤ i := by simp at h; omega
  have hil : i < s.length := by simpa using hlt (by omega)
  clear h hlt hs8
  cbv
  refine ⟨?_⟩
  subst hP
  refine W.sub (st' := ⟨[(0, .str s), (5, .lit (.int .i64 i)), (6, .own 0 (len s))], [.buf 1 (encs s)]⟩) (by cbv) ?_
  refine W.freeze 6 (xs := encs s) rfl rfl (by simp) (by rw [encs_eq]; exact enc_closed s) ?_
  have hp := print_spec (cutAt s i).1 (cutAt s i).2
  have hcut1 : cut s 5 i = (cutAt s i).1 := rfl
  have hcut2 : cut s (i + 1) s.length = (cutAt s i).2 := by simp only [cut, cutAt]; rw [List.take_of_length_le (by simp)]
  have hw : IntKind.i64.wrap ((i : Int) + 1) = ((i + 1 : Nat) : Int) := w64 (by omega) (by omega)
  have hti : (i : Int).toNat = i := by omega
  simp only [hti] at hR
  generalize cutAt s i = c at *
  obtain ⟨place, pre⟩ := c
  dsimp only at hp hcut1 hcut2 hR
  generalize printR place pre = pr at *
  obtain ⟨again, e⟩ := pr
  dsimp only at hp
  refine S.run tab_ok Tryz.func13 rfl (.call (.tup [.str again, .lit (.int .i64 e)]) .nil) _ _ fun P hP => ?_
  cbv
  have hin : ∀ a b : Nat, a ≤ b → decide (0 ≤ (a : Int) ∧ (a : Int).toNat ≤ b) = true := fun a b h => by simp; omega
  refine ⟨.of (by kernel_rfl) hP, ?_, ?_, ?_, ?_, ?_, ?_, ?_, ?_, ?_, ?_⟩
  iterate 9
    focus
      (simp only [fold, plain, decide_eq_true_eq] <;> (try simp only [rows, Int.ofNat_eq_natCast, hw, Int.toNat_natCast, hcut1, hcut2]) <;> first | exact .of hp hP | omega | exact ⟨Int.natCast_nonneg _, hil⟩ | exact ⟨Nat.le_refl _, trivial⟩ | exact ⟨trivial, trivial⟩ | trivial)
  refine fk (fun h => ?_) (fun h => ?_) <;> simp only [fold, plain] at h
  · have he : e ≠ 0 := by simpa using h
    rw [if_neg (by simp; intro _; exact he)] at hR
    clear h; cbv; exact hR
  have he : e = 0 := by simpa using h
  subst he
  clear h; cbv
  refine fk (fun h => ?_) (fun h => ?_) <;> simp only [fold, plain] at h
  · rw [if_neg (by simpa using h)] at hR
    clear h; cbv; exact hR
  · rw [if_pos (by simpa using h)] at hR
    clear h; cbv
    simp only [fold, plain, rows, Int.ofNat_eq_natCast, hw, Int.toNat_natCast, hcut1, hcut2]
    exact hR
end Go.Proofs
