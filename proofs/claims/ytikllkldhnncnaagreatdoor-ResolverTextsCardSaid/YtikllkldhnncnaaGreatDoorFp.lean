/- The law ResolverTexts of the keyevent program: for every input the call returns true, and each argument reads afterwards as it read before; the row and its tied card. -/
import Derived.Test.YtikllkldhnncnaaGreatDoorCards
import Derived.Test.YtikllkldhnncnaaGreatDoorTie
import Derived.ProofKit
import Derived.Handy
import Derived.Lay
import Derived.SevenTiedAt
import Derived.SizedLaws
import Derived.Carry
import Derived.Test.YtikllkldhnncnaaGreatDoorFo
set_option linter.all false
namespace Go.Proofs.YtikllkldhnncnaaGreatDoor
open Go.ChangeShapes Go.WideShapes Go.ChangeAt Go.RowKit
open Go.ChangeMaps (open_string shut_string)
set_option maxRecDepth 100000

theorem own : ownKnob Tryz.prog.godebug = none := by kernel_rfl
theorem laidOut : laidOutB Tryz.prog = true := by kernel_rfl
theorem cells3 : Tryz.prog.cellsOf 3 = 1 := by kernel_rfl
theorem bytes3 : Tryz.prog.bytesOf 3 = 8 := by kernel_rfl

/-- The slice of whole numbers, as the walk takes it. -/
theorem rep_ints {W : World} {a : Addr} {len cap : Nat} {zs : List Int} (hl : len ≤ cap) (hz : len ≤ zs.length) (hb : zs.length ≤ 140737488355328)
    (hc : ∀ i, i < zs.length → W.cell? (a.add i) = some (.int .i64 (zs.getD i 0))) :
    Go.Aw.Rep (fun b => W.heap[b]?) Go.Aw.σ0 [] (.slice (some a) len cap) (.seq ((zs.take len).map fun z => [.lit (.int .i64 z)])) := by
  have hlen : ((zs.take len).map fun z => [Go.Aw.AV.lit (.int .i64 z)]).length = len := by simp; omega
  have key := Go.Aw.Rep.seq (K := fun b => W.heap[b]?) (σ := Go.Aw.σ0) (O := []) ((zs.take len).map fun z => [Go.Aw.AV.lit (.int .i64 z)]) (some a) cap 1 (fun i _ => .int .i64 (zs.getD i 0))
    (by intro x hx; obtain ⟨z, _, rfl⟩ := List.mem_map.1 hx; rfl)
    (by
      intro hne
      have hpos : 0 < len := by
        rcases Nat.eq_zero_or_pos len with h | h
        · subst h; simp at hne
        · exact h
      have h0 := hc 0 (by omega)
      obtain ⟨b, o, sp⟩ := a
      have e0 : (Addr.mk b o sp).add 0 = ⟨b, o, sp⟩ := rfl
      rw [e0] at h0
      cases hh : W.heap[b]? with
      | none => simp [World.cell?, hh] at h0
      | some ob =>
        cases ob with
        | cells arr t fr =>
          have hsp : sp = none := by
            cases sp with
            | none => rfl
            | some x => simp [World.cell?, hh] at h0
          subst hsp
          refine ⟨b, o, arr, t, fr, rfl, hh, fun i j hi hj => ?_⟩
          obtain rfl : j = 0 := by omega
          have hi' : i < zs.length := by rw [hlen] at hi; omega
          have h1 := hc i hi'
          have e1 : (Addr.mk b o none).add i = ⟨b, o + i, none⟩ := by
            unfold Addr.add
            split
            · rename_i h; subst h; rfl
            · rfl
          rw [e1] at h1
          simpa [World.cell?, hh] using h1
        | _ => simp [World.cell?, hh] at h0)
    (by rw [hlen]; unfold Go.Aw.LIM; omega) (by rw [hlen]; exact hl)
    (by
      intro i hi j hj
      have hi2 : i < len := by rw [hlen] at hi; exact hi
      have hj1 : j = 0 := by simp at hj; exact hj
      subst hj1
      have e : (((zs.take len).map fun z => [Go.Aw.AV.lit (.int .i64 z)])[i]'hi)[0]'hj = .lit (.int .i64 (zs.getD i 0)) := by
        have : zs[i]'(by omega) = zs.getD i 0 := by rw [List.getD_eq_getElem?_getD, List.getElem?_eq_getElem (by omega)]; rfl
        simp [this]
      rw [e]
      exact .lit _)
  rw [hlen] at key
  exact key

set_option maxHeartbeats 1600000 in
theorem contract (H : Type) (enc : TypeId × Value → H) (W : World) (base : Nat) (args : Array Value) (ds gs : List (DataW H)) (before : List MemPlace)
    (hval : ∀ (j : Nat) t v, Tryz.f3.params[j]? = some t → args[j]? = some v → Value.okWide Tryz.prog W .any base t v)
    (hW : DataW.Whole enc Tryz.prog Tryz.f3.params.toList Rows.resolverTextsSpec.vars false W args.toList ds gs before)
    (hsz0 : (DataW.weightsEach Tryz.prog (Tryz.f3.params.toList ++ Rows.resolverTextsSpec.plain.varTypes Tryz.prog) (ds ++ gs)).all (· ≤ reachBytes) = true) :
    Calls Tryz.prog 3 args W fun e W' => ∃ v, e = .returned v ∧ Rows.resolverTextsSpec.post enc Tryz.prog Tryz.f3 false true false false W args v W' := by
  have hW' := hW
  obtain ⟨p, q, hA0, hV, rfl, hfz, hnd⟩ := hW
  have hA : DataW.TrodAll enc Tryz.prog W 0 (fun _ => true) true Tryz.f3.params.toList args.toList ds p := hA0
  have hsz : (DataW.weightsEach Tryz.prog (Tryz.f3.params.toList ++ Rows.resolverTextsSpec.plain.varTypes Tryz.prog) (ds ++ gs)).all (· ≤ reachBytes) = true := hsz0
  rw [Tryz.params3] at hA hval hsz
  obtain ⟨v0, vs0, d0, ds0, p0, q0, hargs, rfl, rfl, h0, r0⟩ := trodAll_cons hA
  obtain ⟨v1, vs1, d1, ds1, p1, q1, rfl, rfl, rfl, h1, r1⟩ := trodAll_cons r0
  obtain ⟨v2, vs2, d2, ds2, p2, q2, rfl, rfl, rfl, h2, r2⟩ := trodAll_cons r1
  obtain ⟨v3, vs3, d3, ds3, p3, q3, rfl, rfl, rfl, h3, r3⟩ := trodAll_cons r2
  obtain ⟨v4, vs4, d4, ds4, p4, q4, rfl, rfl, rfl, h4, r4⟩ := trodAll_cons r3
  obtain ⟨v5, vs5, d5, ds5, p5, q5, rfl, rfl, rfl, h5, r5⟩ := trodAll_cons r4
  obtain ⟨rfl, rfl, rfl⟩ := trodAll_nil r5
  obtain rfl : args = #[v0, v1, v2, v3, v4, v5] := by cases args; simp_all
  obtain ⟨rfl, rfl⟩ := trodVars_none hV
  obtain ⟨s1, rfl, rfl, rfl, w1⟩ := open_string Tryz.underlying9 (hval 1 9 v1 rfl rfl) h1
  obtain ⟨s2, rfl, rfl, rfl, w2⟩ := open_string Tryz.underlying9 (hval 2 9 v2 rfl rfl) h2
  obtain ⟨s3, rfl, rfl, rfl, w3⟩ := open_string Tryz.underlying9 (hval 3 9 v3 rfl rfl) h3
  obtain ⟨n4, rfl, rfl, rfl, w4⟩ := open_int Tryz.underlying5 (hval 4 5 v4 rfl rfl) h4
  obtain ⟨n5, rfl, rfl, rfl, w5⟩ := open_int Tryz.underlying5 (hval 5 5 v5 rfl rfl) h5
  have b1 := sized_string hsz (j := 1) (t := 9) rfl rfl
  have b2 := sized_string hsz (j := 2) (t := 9) rfl rfl
  have b3 := sized_string hsz (j := 3) (t := 9) rfl rfl
  have h0k := h0
  have hrep : ∃ ts, Go.Proofs.Ints ts ∧ Go.Aw.Rep (fun b => W.heap[b]?) Go.Aw.σ0 [] v0 (.seq ts) := by
    obtain ⟨a0, len, cap, rfl⟩ := okWide_slice Tryz.underlying22 (hval 0 22 v0 rfl rfl)
    obtain ⟨fuel, hf⟩ := h0
    rcases open_ints Tryz.underlying22 Tryz.underlying3 cells3 hf with ⟨hcs, hx⟩ | ⟨a, len', cap', zs, hcs, _, hl, hm, hz, hx, hcell, hwz⟩
    · simp [Value.cells] at hcs
      obtain ⟨rfl, rfl, rfl⟩ := hcs
      exact ⟨[], ⟨fun _ h => absurd h (List.not_mem_nil), Go.Aw.Rep.norm (.lit (.slice none 0 0))⟩⟩
    · simp [Value.cells] at hcs
      obtain ⟨rfl, rfl, rfl⟩ := hcs
      simp only [if_true] at hz
      simp only [Prod.mk.injEq] at hx
      obtain ⟨rfl, rfl⟩ := hx
      have := sized_slice hsz (j := 0) (t := 22) (e := 3) rfl rfl Tryz.underlying22
      rw [bytes3] at this
      simp only [ChangeShapes.lits, List.length_map, List.length_take, List.length_drop, reachBytes] at this
      exact ⟨_, fun x hx => by obtain ⟨z, _, rfl⟩ := List.mem_map.1 hx; exact ⟨z, rfl⟩, rep_ints hl (by omega) (by omega) hcell⟩
  obtain ⟨ts, hts, hr0⟩ := hrep
  have lim : reachBytes ≤ Go.Aw.LIM := by decide
  have hs (s : ByteArray) (hb : s.data.toList.length ≤ reachBytes) : Go.Aw.Rep (fun b => W.heap[b]?) Go.Aw.σ0 [] (.string s) (.str s.data.toList) := by
    have h := Go.Aw.Rep.str (K := fun b => W.heap[b]?) (σ := Go.Aw.σ0) (O := []) s.data.toList (Nat.le_trans hb lim)
    rwa [Array.toArray_toList] at h
  have walk := (law_spec ts s1.data.toList s2.data.toList s3.data.toList n4 n5 hts).2 (fun b => W.heap[b]?) W #[v0, .string s1, .string s2, .string s3, .int .u8 n4, .int .u8 n5] (fun _ _ h => h) rfl (by
    intro i hi
    have hi6 : i < 6 := hi
    rcases (by omega : i = 0 ∨ i = 1 ∨ i = 2 ∨ i = 3 ∨ i = 4 ∨ i = 5) with rfl | rfl | rfl | rfl | rfl | rfl
    · exact hr0
    · exact hs s1 b1
    · exact hs s2 b2
    · exact hs s3 b3
    · exact .lit _
    · exact .lit _)
  refine walk.mono fun e W' ⟨v, he, hb, hv⟩ => ?_
  obtain rfl := hv.litv
  have hlt : ∀ x ∈ p0, x.block < W.heap.size := fun x hx => hW'.lt x (by simp [hx])
  have ha : DataW.TrodAll enc Tryz.prog W' 0 (fun b => decide (b < W.heap.size)) true Tryz.f3.params.toList [v0, .string s1, .string s2, .string s3, .int .u8 n4, .int .u8 n5] [d0, .lit (.string s1.data.toList), .lit (.string s2.data.toList), .lit (.string s3.data.toList), .lit (.int .u8 n4), .lit (.int .u8 n5)] (p0 ++ ([] ++ ([] ++ ([] ++ ([] ++ ([] ++ [])))))) := by
    rw [Tryz.params3]
    exact trodAll_cons_mk (Below.trod laidOut (by kernel_rfl) (of_decide_eq_true (by kernel_rfl)) h0k hb hlt) (trodAll_cons_mk (shut_string Tryz.underlying9 w1) (trodAll_cons_mk (shut_string Tryz.underlying9 w2) (trodAll_cons_mk (shut_string Tryz.underlying9 w3)
      (trodAll_cons_mk (shut_int Tryz.underlying5 w4) (trodAll_cons_mk (shut_int Tryz.underlying5 w5) trodAll_mk0)))))
  refine ⟨_, he, _, _, _, [], p0 ++ ([] ++ ([] ++ ([] ++ ([] ++ ([] ++ []))))), [], hW', trodAll_mk1 (shut_bool Tryz.underlying4 _), ?_, rfl, hb.frame _, fun h => by cases h⟩
  exact ha
end Go.Proofs.YtikllkldhnncnaaGreatDoor
