/- runnellaw5's own functions over trees. -/
import Derived.Test.YtgfnodmghaghpaaGreatDoorZSpParLQ
import Derived.Test.YtgfnodmghaghpaaGreatDoorZPuParseB
import Derived.Test.YtgfnodmghaghpaaGreatDoorS1

section
/- runnellaw5's own functions over trees. -/
set_option linter.unusedSimpArgs false
set_option linter.unusedVariables false
namespace Go.Proofs.YtgfnodmghaghpaaGreatDoor
open Go Go.Abs

attribute [local irreducible] Abs.Fn

theorem SameE_refl : ∀ (e : Ex) (_ : RgE e), Abs.Fn Tryz.prog runnellaw5_SameExpr_i [] [.p (encE e), .p (encE e)] (.p (.bool true)) []
  | .mk op v n a, hr => by
    obtain ⟨_, _, _, _, hop, hv, hn64, ha, hro⟩ := hr
    have hs := SameR_spec v v
    rw [show cmpV v v = 0 from (cmpV_zero v v).2 rfl] at hs
    simp only [decide_true, encV_eta] at hs
    simp only [encE_eta]
    apply runnellaw5_SameExpr_fn
    simp [runnellaw5_SameExpr]
    refine aMerge_intro false (fun _ => ?_) ?_
    · refine aCallQ_of [] hs rfl (by simp [renF, treeQ, AV.toT, AV.cellT]) (by simp) (by simp [framed, renF]) (by simp [AV.under, AV.under1]) (by simp [Ob.below, AV.under1]) ?_
      simp [renF, frameH, setAll]
    simp
    refine loop_by (σ := Nat) (n := 2) (fun j => [.p (.int .i64 j)]) (fun _ => [.box [.p (.str op), .p (.int .i64 v.k), .p (.int .i64 v.i), .p (.bool v.b), .p (.str v.s), .p (.slice (v.t.map encV)), .p (.int .i64 n), .p (.slice (a.map encE))], .box [.p (.str op), .p (.int .i64 v.k), .p (.int .i64 v.i), .p (.bool v.b), .p (.str v.s), .p (.slice (v.t.map encV)), .p (.int .i64 n), .p (.slice (a.map encE))]]) (fun j => j ≤ a.length) (fun j => a.length - j) [] 0 (fun _ => rfl) (by simp [ghosts]) (by simp) (fun j B hj hB => ?_)
    simp [runnellaw5_SameExpr_L1]
    refine fun hml => ⟨fun hlt => ?_, fun hge => gives_p rfl⟩
    have hm : a[j] ∈ a := by simp
    have hi := SameE_refl a[j] (hro _ hm)
    simp only [encE_eta] at hi
    simp [hlt]
    refine aCallT_of rfl hi rfl ?_
    simp
    rw [IntWalk.i64_in _ (by unfold maxLen at hml; omega)]
    exact hB (j + 1) _ (by omega) (by omega) (by simp) (by simp [Ob.below, AV.under1]) (by simp) (by simp [AV.under, AV.under1])
termination_by e => SizeOf.sizeOf e
decreasing_by
  have := List.sizeOf_lt_of_mem hm
  simp
  omega

theorem typeR0_spec (k i : Int) (b : Bool) (s : List UInt8) : Abs.Fn Tryz.prog runnelref6_TypeOf_i [] [.p (encV (.mk k i b s []))] (.p (encT (.mk k []))) [] := by
  apply runnelref6_TypeOf_fn
  simp [runnelref6_TypeOf]
  refine loop_by (σ := Nat) (n := 4) (fun j => [.p (.int .i64 0)]) (fun j => [.box [.p (.int .i64 k), .p (.int .i64 i), .p (.bool b), .p (.str s), .p (.slice [])], .box [.p (.int .i64 0), .full []], .box [.p (.int .i64 k), .own 3 []], .row 0 2])
    (fun j => True) (fun j => 0) [.cell 2 1 2] 0 (fun _ => rfl) ⟨rfl, rfl⟩ trivial (fun j B hj hB => ?_)
  simp [runnelref6_TypeOf_L1]
  exact gives_pure (by simp [AV.pur])

theorem right_spec (e : Ex) (v : Va) (he : We 1000000000 e) (hs : sizeE e ≤ 1000000000) : ∃ t, Abs.Fn Tryz.prog runnellaw5_right_i [] [.p (encE e), .p (encV v)] (.p (.bool (decide ((checkE e t).num = 0) || decide ((checkE e (plainT 1)).num = 0)))) [] := by
  obtain ⟨k, i, b, s, l⟩ := v
  refine ⟨.mk k [], ?_⟩
  have h1 := typeR0_spec k i b s
  have h2 := CheckExprR_spec e (.mk k []) he hs
  have h3 := Plain_spec 1
  have h4 := CheckExprR_spec e (plainT 1) he hs
  simp only [plainT] at h3 h4 ⊢
  simp only [encE_eta, encV_mk, encT_mk, List.map_nil] at *
  simp only [tyR] at h2 h4
  apply runnellaw5_right_fn
  simp [runnellaw5_right]
  refine aCallT_of rfl h1 rfl ?_
  simp
  refine aCallT_of rfl h2 (by simp [AV.pur, toTs]; rfl) ?_
  simp
  refine aCallT_of rfl h3 rfl ?_
  simp
  refine aCallT_of rfl h4 (by simp [AV.pur, toTs]; rfl) ?_
  simp
  exact gives_p rfl

def gP (x : Va) : Bool := decide (x.t.length = 0) && !decide (300 < x.s.length)
def gV (v : Va) : Bool := !decide (10 < v.t.length) && !decide (300 < v.s.length) && v.t.all gP && decide (checkV v 0 = 0)
theorem gV_mk (k i : Int) (b : Bool) (s : List UInt8) (t : List Va) : gV (.mk k i b s t) = (!decide (10 < t.length) && !decide (300 < s.length) && t.all gP && decide (checkV (.mk k i b s t) 0 = 0)) := rfl

theorem valGood_spec (v : Va) : Abs.Fn Tryz.prog runnellaw5_valGood_i [] [.p (encV v)] (.p (.bool (gV v))) [] := by
  have hck := Checkv_spec v
  obtain ⟨k, i, b, s, t⟩ := v
  simp only [encV_mk] at *
  apply runnellaw5_valGood_fn
  simp [runnellaw5_valGood]
  intro hml
  refine ⟨fun h => gives_p (by
    have : gV (.mk k i b s t) = false := by
      rw [gV_mk]
      rcases h with h | h
      · rw [decide_eq_true (by omega : 10 < t.length)]; rfl
      · rw [decide_eq_true (by omega : 300 < s.length)]; simp
    rw [this]), fun h1 h2 => ?_⟩
  have hg : gV (.mk k i b s t) = (t.all gP && decide (checkV (.mk k i b s t) 0 = 0)) := by
    rw [gV_mk]
    rw [decide_eq_false (by omega : ¬ 10 < t.length), decide_eq_false (by omega : ¬ 300 < s.length)]
    simp
  rw [hg]
  refine loop_by (σ := Nat) (n := 1) (fun j => [.p (.int .i64 j)]) (fun _ => [.box [.p (.int .i64 k), .p (.int .i64 i), .p (.bool b), .p (.str s), .p (.slice (t.map encV))]]) (fun j => j ≤ t.length ∧ (t.drop j).all gP = t.all gP) (fun j => t.length - j) [] 0 (fun _ => rfl) (by simp [ghosts]) (by simp) (fun j B hj hB => ?_)
  obtain ⟨hj, ha⟩ := hj
  simp only [runnellaw5_valGood_L1]
  simp
  refine fun _ => ⟨fun hlt => ?_, fun hge => ?_⟩
  · rw [all_drop _ t j hlt] at ha
    simp [hlt]
    refine fun _ => ⟨fun h => gives_p ?_, fun h3 h4 => ?_⟩
    · have : gP t[j] = false := by
        unfold gP
        rcases h with h | h
        · rw [decide_eq_false (by omega)]; rfl
        · rw [decide_eq_true (by omega : 300 < t[j].s.length)]; simp
      rw [← ha, this]
      rfl
    · have : gP t[j] = true := by
        unfold gP
        rw [h3, decide_eq_false (by omega : ¬ 300 < t[j].s.length)]
        rfl
      rw [this] at ha
      rw [IntWalk.i64_in _ (by omega)]
      exact hB (j + 1) _ ⟨by omega, by simpa using ha⟩ (by omega) (by simp) (by simp [Ob.below, AV.under1]) (by simp) (by simp [AV.under, AV.under1])
  · have : j = t.length := by omega
    subst this
    rw [← ha]
    refine aCallQ_of [] hck rfl (by simp [renF, treeQ, AV.toT, AV.cellT]) (by simp) (by simp [framed, renF]) (by simp [AV.under, AV.under1]) (by simp [Ob.below, AV.under1]) ?_
    simp [renF, frameH, setAll]
    exact gives_p rfl

end Go.Proofs.YtgfnodmghaghpaaGreatDoor
end

section
/- runnellaw5.known over trees. -/
set_option linter.unusedSimpArgs false
set_option linter.unusedVariables false
namespace Go.Proofs.YtgfnodmghaghpaaGreatDoor
open Go Go.Abs

attribute [local irreducible] Abs.Fn

/-- The expression of the document's example. -/
def knE : Ex := .mk oIf zeroV 0 [.mk oLt zeroV 0 [xE, litE (intV (-5))], .mk oCat zeroV 0 [litE (strV [97, 34]), litE (strV [98])], .mk oAt zeroV 1 [litE (.mk 4 0 false [] [intV 1, strV [99]])]]
def knT : List UInt8 := [40, 105, 102, 32, 40, 108, 116, 32, 120, 32, 45, 53, 41, 32, 40, 99, 97, 116, 32, 34, 97, 92, 50, 50, 34, 32, 34, 98, 34, 41, 32, 40, 97, 116, 32, 49, 32, 40, 108, 105, 116, 32, 40, 49, 44, 34, 99, 34, 41, 41, 41, 41]

theorem knE_text : textE knE = knT := by decide +kernel

theorem rgV_int (n : Int) (h : I64 n) : RgV (intV n) := .mk _ _ _ _ _ ⟨by omega, by omega⟩ h (by simp) (by simp) (by simp)
theorem rgV_str (s : List UInt8) (h : s.length ≤ 255) : RgV (strV s) := .mk _ _ _ _ _ ⟨by omega, by omega⟩ ⟨by omega, by omega⟩ (by unfold maxLen; omega) (by simp) (by simp)
theorem okP_int (d n : Int) (hd : d ≤ 12) (h : I64 n) : OkP d (litE (intV n)) := by
  have hc : checkV (intV n) 0 = 0 := by simp [intV, checkV, spareV]
  have hf := textV_fits hc (rgV_int n h) (by simp [intV, Va.t])
  exact .lit d _ hd hc (rgV_int n h) (by omega) hf.2
theorem okP_str (d : Int) (s : List UInt8) (hd : d ≤ 12) (h : s.length ≤ 255) : OkP d (litE (strV s)) := by
  have hc : checkV (strV s) 0 = 0 := by simp [strV, checkV, spareV]; omega
  have hf := textV_fits hc (rgV_str s h) (by simp [strV, Va.t])
  exact .lit d _ hd hc (rgV_str s h) (by omega) hf.2

theorem knE_ok : OkP 0 knE := by
  refine .op 0 oIf 0 _ (by omega) (by decide) (by decide) (by decide) (by decide) (fun _ => rfl) (by decide) (fun e he => ?_)
  simp only [List.mem_cons, List.not_mem_nil, or_false] at he
  rcases he with rfl | rfl | rfl
  · refine .op _ oLt 0 _ (by omega) (by decide) (by decide) (by decide) (by decide) (fun _ => rfl) (by decide) (fun e he => ?_)
    simp only [List.mem_cons, List.not_mem_nil, or_false] at he
    rcases he with rfl | rfl
    · exact .x _ (by omega)
    · exact okP_int _ _ (by omega) ⟨by omega, by omega⟩
  · refine .op _ oCat 0 _ (by omega) (by decide) (by decide) (by decide) (by decide) (fun _ => rfl) (by decide) (fun e he => ?_)
    simp only [List.mem_cons, List.not_mem_nil, or_false] at he
    rcases he with rfl | rfl
    · exact okP_str _ _ (by omega) (by decide)
    · exact okP_str _ _ (by omega) (by decide)
  · refine .op _ oAt 1 _ (by omega) (by decide) (by decide) (by decide) (fun _ => ⟨by omega, by omega⟩) (fun h => absurd rfl h) (by decide) (fun e he => ?_)
    simp only [List.mem_cons, List.not_mem_nil, or_false] at he
    subst he
    have hc : checkV (.mk 4 0 false [] [intV 1, strV [99]]) 0 = 0 := by decide +kernel
    have hr : RgV (.mk 4 0 false [] [intV 1, strV [99]]) := .mk _ _ _ _ _ ⟨by omega, by omega⟩ ⟨by omega, by omega⟩ (by simp) (by decide) (fun v hv => by
      simp only [List.mem_cons, List.not_mem_nil, or_false] at hv
      rcases hv with rfl | rfl
      · exact rgV_int _ ⟨by omega, by omega⟩
      · exact rgV_str _ (by decide))
    have hf := textV_fits hc hr (fun v hv => by
      have hv : v ∈ [intV 1, strV [99]] := hv
      simp only [List.mem_cons, List.not_mem_nil, or_false] at hv
      rcases hv with rfl | rfl <;> rfl)
    exact .lit _ _ (by omega) hc hr (by omega) hf.2

theorem known_A : Abs.Fn Tryz.prog parse_Parse_i [] [.p (.str knT)] (.tup [.p (encE knE), .p (.int .i64 0), .p (.int .i64 0)]) [] := by
  have := Parse_back knE knE_ok (by rw [knE_text]; decide)
  rwa [knE_text] at this

theorem known_C : Abs.Fn Tryz.prog parse_Parse_i [] [.p (.str [120, 32, 120])] (.tup [.p (encE zeroE), .p (.int .i64 1), .p (.int .i64 2)]) [] := by
  have := Parse_more xE [32, 120] (.x 0 (by omega)) (by decide) (by decide) ⟨fun h => absurd h (by decide), fun _ => headNot_c (by decide)⟩
  have e : textE xE = [120] := by decide +kernel
  rw [e] at this
  exact this

/-- (add x 05). -/
def knB : List UInt8 := [40, 97, 100, 100, 32, 120, 32, 48, 53, 41]
theorem known_B1 : Abs.Fn Tryz.prog parse_reader_expr_i (pR knB 7 0 0) [.bptr 0 0, .p (.int .i64 1)] (.p (encE (litE (intV 5)))) (pR knB 9 2 7) := by
  have hw : NumW [48, 53] 5 := ⟨⟨[48, 53], .inl rfl, by decide, by decide⟩, by decide +kernel, ⟨by omega, by omega⟩, by decide⟩
  have h := pSimple_num knB [48, 53] [41] 5 7 0 (by decide) hw (by decide) (headNot_c (by decide))
  have e : decide (Lib.itoa 5 = [48, 53]) = false := by decide +kernel
  rw [e] at h
  exact pExpr_bare knB 7 9 0 2 7 (litE (intV 5)) 1 (by omega) (by decide) 48 (by decide) (by decide) (pBare_lit knB 7 9 0 2 7 (intV 5) h)

/-- The two arguments as trees. -/
def LX : T := .agg [.str oX, .int .i64 0, .int .i64 0, .bool false, .str [], .slice [], .int .i64 0, .slice []]
def LI : T := .agg [.str oLit, .int .i64 1, .int .i64 5, .bool false, .str [], .slice [], .int .i64 0, .slice []]
theorem known_B : Abs.Fn Tryz.prog parse_Parse_i [] [.p (.str knB)] (.tup [.p (encE zeroE), .p (.int .i64 7), .p (.int .i64 2)]) [] := by
  refine pParse_er knB (.mk oAdd zeroV 0 [xE, litE (intV 5)]) 9 2 7 (by decide) (by decide) ?_ (by decide)
  have htk := pTakes knB 0 0 40 (by decide)
  rw [show nextB knB 0 40 = true by decide] at htk
  have hop := pOp knB oAdd [32, 120, 32, 48, 53, 41] 1 0 (by decide) (by decide) (by decide) (by decide) (by decide) (headNot_c (by decide))
  have hx := pExpr xE 1 knB [32, 48, 53, 41] 5 0 (.x 1 (by omega)) (by omega) (by decide) (by decide) (by decide +kernel) ⟨fun h => absurd h (by decide), fun _ => headNot_c (by decide)⟩
  have hB1 := known_B1
  have t4 := pTakes knB 4 0 32 (by decide)
  rw [show nextB knB 4 32 = true by decide] at t4
  have t6 := pTakes knB 6 0 32 (by decide)
  rw [show nextB knB 6 32 = true by decide] at t6
  have t9 := pTakes1 knB 9 2 7 32 (by decide)
  have m9 := pMust1 knB 9 2 7 41 (by decide)
  have eop : (oAdd : List UInt8).length = 3 := by decide
  have ex : (textE xE).length = 1 := by decide +kernel
  rw [eop] at hop
  rw [ex] at hx
  simp only [if_true] at htk t4 t6
  have hne1 : ¬ oAdd = [108, 105, 116] := by decide
  rw [show encE xE = LX by simp [LX, xE]] at hx
  rw [show encE (litE (intV 5)) = LI by simp [LI, litE, intV]] at hB1
  rw [show encE (.mk oAdd zeroV 0 [xE, litE (intV 5)]) = .agg [.str oAdd, .int .i64 0, .int .i64 0, .bool false, .str [], .slice [], .int .i64 0, .slice [LX, LI]] by simp [LX, LI, xE, litE, intV]]
  generalize knB = s at *
  apply parse_reader_expr_fnH
  simp [parse_reader_expr, parse_reader_expr_J1]
  refine aCallF_of [0] htk rfl (by simp [renF]) (by simp) (by simp [framed, renF]) (by simp [AV.under, AV.under1]) (by simp [Ob.below, AV.under1]) ?_
  simp [renF, frameH, setAll]
  refine aCallF_of [0] hop rfl (by simp [renF]) (by simp) (by simp [framed, renF]) (by simp [AV.under, AV.under1]) (by simp [Ob.below, AV.under1]) ?_
  simp [renF, frameH, setAll, hne1]
  have w1 : IntKind.i64.wrap 1 = 1 := by rfl
  have hap1 : appendable 8 112 [] [LX] := ⟨by simp, by simp [LX], by simp⟩
  have hap2 : appendable 8 112 [LX] [LI] := ⟨by simp [LX], by simp [LI], by simp⟩
  refine loop_by (σ := Nat × Nat × Int × Int × List T) (n := 4) (fun q => []) (fun q => pR s q.2.1 q.2.2.1 q.2.2.2.1 ++ [.box [.p (.str []), .p (.int .i64 0), .p (.int .i64 0), .p (.bool false), .p (.str []), .full [], .p (.int .i64 0), .full []], .box [.p (.str oAdd), .p (.int .i64 0), .p (.int .i64 0), .p (.bool false), .p (.str []), .full [], .p (.int .i64 0), .own 3 q.2.2.2.2], .row q.1 8])
    (fun q => q = (0, 4, 0, 0, []) ∨ q = (1, 6, 0, 0, [LX]) ∨ q = (2, 9, 2, 7, [LX, LI])) (fun q => 2 - q.1) [.cell 2 7 8] (0, 4, 0, 0, []) (fun _ => rfl) (by simp [ghosts, ghost]) (.inl rfl) (fun q B hq hB => ?_)
  rcases hq with rfl | rfl | rfl
  · -- x
    simp [parse_reader_expr_L1]
    refine aCallF_of [0] t4 rfl (by simp [renF]) (by simp) (by simp [framed, renF]) (by simp [AV.under, AV.under1]) (by simp [Ob.below, AV.under1]) ?_
    simp [renF, frameH, setAll, w1]
    constructor
    · refine aCallF_of [0] hx rfl (by simp [renF]) (by simp) (by simp [framed, renF]) (by simp [AV.under, AV.under1]) (by simp [Ob.below, AV.under1]) ?_
      simp [renF, frameH, setAll]
      refine ⟨by simp [LX], hap1, ?_⟩
      refine hB (1, 6, 0, 0, [LX]) _ (.inr (.inl rfl)) (by decide) ?_ ?_ ?_ (by simp [AV.under, AV.under1])
      · simp [LX, LI]
      · simp [Ob.below, AV.under1]
      · simp
    · refine aCallF_of [0] hx rfl (by simp [renF]) (by simp) (by simp [framed, renF]) (by simp [AV.under, AV.under1]) (by simp [Ob.below, AV.under1]) ?_
      simp [renF, frameH, setAll]
      refine ⟨by simp [LX], hap1, ?_⟩
      refine hB (1, 6, 0, 0, [LX]) _ (.inr (.inl rfl)) (by decide) ?_ ?_ ?_ (by simp [AV.under, AV.under1])
      · simp [LX, LI]
      · simp [Ob.below, AV.under1]
      · simp
  · -- 05
    simp [parse_reader_expr_L1]
    refine aCallF_of [0] t6 rfl (by simp [renF]) (by simp) (by simp [framed, renF]) (by simp [AV.under, AV.under1]) (by simp [Ob.below, AV.under1]) ?_
    simp [renF, frameH, setAll, w1]
    constructor
    · refine aCallF_of [0] hB1 rfl (by simp [renF]) (by simp) (by simp [framed, renF]) (by simp [AV.under, AV.under1]) (by simp [Ob.below, AV.under1]) ?_
      simp [renF, frameH, setAll]
      refine ⟨by simp [LI], hap2, ?_⟩
      refine hB (2, 9, 2, 7, [LX, LI]) _ (.inr (.inr rfl)) (by decide) ?_ ?_ ?_ (by simp [AV.under, AV.under1])
      · simp [LX, LI]
      · simp [Ob.below, AV.under1]
      · simp
    · refine aCallF_of [0] hB1 rfl (by simp [renF]) (by simp) (by simp [framed, renF]) (by simp [AV.under, AV.under1]) (by simp [Ob.below, AV.under1]) ?_
      simp [renF, frameH, setAll]
      refine ⟨by simp [LI], hap2, ?_⟩
      refine hB (2, 9, 2, 7, [LX, LI]) _ (.inr (.inr rfl)) (by decide) ?_ ?_ ?_ (by simp [AV.under, AV.under1])
      · simp [LX, LI]
      · simp [Ob.below, AV.under1]
      · simp
  · simp [parse_reader_expr_L1]
    refine aCallF_of [0] t9 rfl (by simp [renF]) (by simp) (by simp [framed, renF]) (by simp [AV.under, AV.under1]) (by simp [Ob.below, AV.under1]) ?_
    simp [renF, frameH, setAll]
    refine aCallF_of [0] m9 rfl (by simp [renF]) (by simp) (by simp [framed, renF]) (by simp [AV.under, AV.under1]) (by simp [Ob.below, AV.under1]) ?_
    simp [renF, frameH, setAll]
    refine givesQ ?_
    exact gives_ids [0] (by simp [renF, treeQ, AV.toT, AV.cellT]) rfl (by simp) (by simp [framed, renF]) (by simp [AV.under, AV.under1]) (by simp [Ob.below, AV.under1])

theorem known5_spec : Abs.Fn Tryz.prog runnellaw5_known_i [] [] (.p (.bool true)) [] := by
  have hA := known_A
  have hB := known_B
  have hC := known_C
  have hT := Text5_spec knE 0 knE_ok (by rw [knE_text]; decide)
  rw [knE_text] at hT
  have h3 : knE.a.length = 3 := by rfl
  generalize knE = e at *
  have hz : encE zeroE = .agg [.str [], .int .i64 0, .int .i64 0, .bool false, .str [], .slice [], .int .i64 0, .slice []] := by simp [zeroE]
  rw [hz] at hB hC
  simp only [knT] at hA hT
  simp only [knB] at hB
  simp only [encE_eta] at hA hT
  apply runnellaw5_known_fn
  simp [runnellaw5_known]
  refine aCallF_of [] hA rfl (by simp [renF]) (by simp) (by simp [framed, renF]) (by simp [AV.under, AV.under1]) (by simp [Ob.below, AV.under1]) ?_
  simp [renF, frameH, setAll]
  refine aCallF_of [] hB rfl (by simp [renF]) (by simp) (by simp [framed, renF]) (by simp [AV.under, AV.under1]) (by simp [Ob.below, AV.under1]) ?_
  simp [renF, frameH, setAll]
  refine aCallF_of [] hC rfl (by simp [renF]) (by simp) (by simp [framed, renF]) (by simp [AV.under, AV.under1]) (by simp [Ob.below, AV.under1]) ?_
  simp [renF, frameH, setAll]
  refine aMerge_intro true (fun _ => ?_) ?_
  · refine aCallQ_of [] hT rfl (by simp [renF, treeQ, AV.toT, AV.cellT]) (by simp) (by simp [framed, renF]) (by simp [AV.under, AV.under1]) (by simp [Ob.below, AV.under1]) ?_
    simp [renF, frameH, setAll]
  simp [h3]
  exact gives_p rfl

end Go.Proofs.YtgfnodmghaghpaaGreatDoor
end

section
/- The laws of parse over trees. -/
set_option linter.unusedSimpArgs false
set_option linter.unusedVariables false
namespace Go.Proofs.YtgfnodmghaghpaaGreatDoor
open Go Go.Abs

attribute [local irreducible] Abs.Fn

theorem R.num_ok {α : Type} {r : R α} (h : r.num = 0) (hz : ∀ e, r = .er e → e ≠ 0) : ∃ a, r = .ok a := by
  cases r with
  | ok a => exact ⟨a, rfl⟩
  | er e => exact absurd h (hz e rfl)

theorem checkE_er {e : Ex} {t : Ty} {f : Int} (h : checkE e t = .er f) : f ≠ 0 := by
  unfold checkE at h
  split at h
  · injection h with h; omega
  split at h
  · injection h with h; omega
  · exact ckE_er e t 0 f h

theorem ParseBack_spec (e : Ex) (v : Va) (hre : RgE e) (hrv : RgV v) : Abs.Fn Tryz.prog runnellaw5_ParseBack_i [] [.p (encE e), .p (encV v)] (.p (.bool true)) [] := by
  have hf := few4_spec e
  apply runnellaw5_ParseBack_fn
  by_cases hfew : fewE e = true
  · obtain ⟨hwe, hsz⟩ := fewE_small hfew
    have hwe9 : We 1000000000 e := hwe.mono (by omega)
    have hof := of4_spec hwe9
    obtain ⟨t, hri⟩ := right_spec e v hwe9 (by omega)
    rw [hfew] at hf
    by_cases hr : (decide ((checkE e t).num = 0) || decide ((checkE e (plainT 1)).num = 0)) = true
    · rw [hr] at hri
      have hok : OkP 0 e := by
        simp only [Bool.or_eq_true, decide_eq_true_eq] at hr
        rcases hr with h | h
        · obtain ⟨u, hu⟩ := R.num_ok h (fun f hf => checkE_er hf)
          exact okP_check hu hfew hre
        · obtain ⟨u, hu⟩ := R.num_ok h (fun f hf => checkE_er hf)
          exact okP_check hu hfew hre
      have hlen : (textE e).length ≤ 1000000000 := by
        have := textE_len e 0 hok
        omega
      have hT := Text5_spec e 0 hok hlen
      have hP := Parse_back e hok hlen
      have hX := ExprText_spec e 0 hok hlen
      have hS := SameE_refl e hre
      have hK := known5_spec
      simp only [encE_eta, encV_eta] at *
      simp [runnellaw5_ParseBack]
      refine aCallQ_of [] hK rfl (by simp [renF, treeQ, AV.toT, AV.cellT]) (by simp) (by simp [framed, renF]) (by simp [AV.under, AV.under1]) (by simp [Ob.below, AV.under1]) ?_
      simp [renF, frameH, setAll]
      refine aCallQ_of [] hf rfl (by simp [renF, treeQ, AV.toT, AV.cellT]) (by simp) (by simp [framed, renF]) (by simp [AV.under, AV.under1]) (by simp [Ob.below, AV.under1]) ?_
      simp [renF, frameH, setAll]
      refine aCallQ_of [] hof rfl (by simp [renF, treeQ, AV.toT, AV.cellT]) (by simp) (by simp [framed, renF]) (by simp [AV.under, AV.under1]) (by simp [Ob.below, AV.under1]) ?_
      simp [renF, frameH, setAll]
      refine aCallQ_of [] hri rfl (by simp [renF, treeQ, AV.toT, AV.cellT]) (by simp) (by simp [framed, renF]) (by simp [AV.under, AV.under1]) (by simp [Ob.below, AV.under1]) ?_
      simp [renF, frameH, setAll]
      refine aCallQ_of [] hT rfl (by simp [renF, treeQ, AV.toT, AV.cellT]) (by simp) (by simp [framed, renF]) (by simp [AV.under, AV.under1]) (by simp [Ob.below, AV.under1]) ?_
      simp [renF, frameH, setAll]
      refine aCallQ_of [] hP rfl (by simp [renF, treeQ, AV.toT, AV.cellT]) (by simp) (by simp [framed, renF]) (by simp [AV.under, AV.under1]) (by simp [Ob.below, AV.under1]) ?_
      simp [renF, frameH, setAll]
      refine aCallT_of rfl hX rfl ?_
      simp [renF, frameH, setAll]
      refine aCallT_of rfl hof rfl ?_
      simp [renF, frameH, setAll]
      refine aCallT_of rfl hS rfl ?_
      simp [renF, frameH, setAll]
      exact gives_p rfl
    · have hr' : (decide ((checkE e t).num = 0) || decide ((checkE e (plainT 1)).num = 0)) = false := by simpa using hr
      rw [hr'] at hri
      have hK := known5_spec
      simp only [encE_eta, encV_eta] at *
      simp [runnellaw5_ParseBack]
      refine aCallQ_of [] hK rfl (by simp [renF, treeQ, AV.toT, AV.cellT]) (by simp) (by simp [framed, renF]) (by simp [AV.under, AV.under1]) (by simp [Ob.below, AV.under1]) ?_
      simp [renF, frameH, setAll]
      refine aCallQ_of [] hf rfl (by simp [renF, treeQ, AV.toT, AV.cellT]) (by simp) (by simp [framed, renF]) (by simp [AV.under, AV.under1]) (by simp [Ob.below, AV.under1]) ?_
      simp [renF, frameH, setAll]
      refine aCallQ_of [] hof rfl (by simp [renF, treeQ, AV.toT, AV.cellT]) (by simp) (by simp [framed, renF]) (by simp [AV.under, AV.under1]) (by simp [Ob.below, AV.under1]) ?_
      simp [renF, frameH, setAll]
      refine aCallQ_of [] hri rfl (by simp [renF, treeQ, AV.toT, AV.cellT]) (by simp) (by simp [framed, renF]) (by simp [AV.under, AV.under1]) (by simp [Ob.below, AV.under1]) ?_
      simp [renF, frameH, setAll]
      exact gives_p rfl
  · have hfew' : fewE e = false := by simpa using hfew
    rw [hfew'] at hf
    have hK := known5_spec
    simp only [encE_eta, encV_eta] at *
    simp [runnellaw5_ParseBack]
    refine aCallQ_of [] hK rfl (by simp [renF, treeQ, AV.toT, AV.cellT]) (by simp) (by simp [framed, renF]) (by simp [AV.under, AV.under1]) (by simp [Ob.below, AV.under1]) ?_
    simp [renF, frameH, setAll]
    refine aCallQ_of [] hf rfl (by simp [renF, treeQ, AV.toT, AV.cellT]) (by simp) (by simp [framed, renF]) (by simp [AV.under, AV.under1]) (by simp [Ob.below, AV.under1]) ?_
    simp [renF, frameH, setAll]
    exact gives_p rfl

end Go.Proofs.YtgfnodmghaghpaaGreatDoor
end

section
/- ParseValues over trees. -/
set_option linter.unusedSimpArgs false
set_option linter.unusedVariables false
namespace Go.Proofs.YtgfnodmghaghpaaGreatDoor
open Go Go.Abs

attribute [local irreducible] Abs.Fn

theorem rangeF {m a b : Nat} (h : a ≤ m → b < m) : (decide (a ≤ m) && decide (m ≤ b)) = false := by
  by_cases h1 : a ≤ m
  · rw [decide_eq_false (p := m ≤ b) (by have := h h1; omega)]; simp
  · rw [decide_eq_false h1]; rfl

theorem pv_join (v : Va) (q x : List UInt8) (hc : checkV v 0 = 0) (hr : RgV v) (hfit : (textV v).length ≤ 10000 ∧ Wv 1000000 v) (hq : q.length ≤ 100) (hx : x = textE (litE v)) :
    runnellaw5_ParseValues_J1 (.p (.str q)) (.bptr 0 0) (.p (.str x)) [.box [.p (.int .i64 v.k), .p (.int .i64 v.i), .p (.bool v.b), .p (.str v.s), .p (.slice (v.t.map encV))]] (fun v H' => Gives 0 v H' (.p (.bool true)) []) := by
  have hok : OkP 0 (litE v) := .lit 0 v (by omega) hc hr (by omega) hfit.2
  have hxl : x.length ≤ 20000 := by
    rw [hx]
    have h1 : oLit ≠ oX := by decide
    simp only [litE, textE, if_neg h1, if_pos]
    split <;> simp <;> omega
  have hP := Parse_back (litE v) hok (by rw [← hx]; omega)
  have hT := Text5_spec (litE v) 0 hok (by rw [← hx]; omega)
  have hS := Same_spec v v
  rw [show cmpV v v = 0 from (cmpV_zero v v).2 rfl] at hS
  have hM : q ≠ [] → okRest v q → Abs.Fn Tryz.prog parse_Parse_i [] [.p (.str (x ++ q))] (.tup [.p (encE zeroE), .p (.int .i64 x.length), .p (.int .i64 2)]) [] := fun h1 h2 => by
    rw [hx]
    exact Parse_more (litE v) q hok (by rw [← hx]; simp; omega) h1 ⟨fun _ => h2, fun h => absurd (show oLit = oX from h) (by decide)⟩
  rw [← hx] at hP hT
  have hz : encE zeroE = .agg [.str [], .int .i64 0, .int .i64 0, .bool false, .str [], .slice [], .int .i64 0, .slice []] := by simp [zeroE]
  have hl : encE (litE v) = .agg [.str [108, 105, 116], .int .i64 v.k, .int .i64 v.i, .bool v.b, .str v.s, .slice (v.t.map encV), .int .i64 0, .slice []] := by simp [litE, oLit]
  rw [hz] at hM
  rw [hl] at hP hT
  simp only [decide_true, encV_eta] at hS
  clear hx hok hfit
  simp [runnellaw5_ParseValues_J1]
  refine aCallQ_of [] hP rfl (by simp [renF, treeQ, AV.toT, AV.cellT]) (by simp) (by simp [framed, renF]) (by simp [AV.under, AV.under1]) (by simp [Ob.below, AV.under1]) ?_
  simp [renF, frameH, setAll]
  refine aMerge_intro false (fun _ => ?_) ?_
  · refine aCallQ_of [] hS rfl (by simp [renF, treeQ, AV.toT, AV.cellT]) (by simp) (by simp [framed, renF]) (by simp [AV.under, AV.under1]) (by simp [Ob.below, AV.under1]) ?_
    simp [renF, frameH, setAll]
  simp
  refine aMerge_intro false (fun _ => ?_) ?_
  · refine aCallQ_of [] hT rfl (by simp [renF, treeQ, AV.toT, AV.cellT]) (by simp) (by simp [framed, renF]) (by simp [AV.under, AV.under1]) (by simp [Ob.below, AV.under1]) ?_
    simp [renF, frameH, setAll]
  simp
  cases q with
  | nil =>
    refine ⟨fun h => absurd rfl h, ?_⟩
    refine aMerge_intro true (fun h => by simp at h) ?_
    refine aMerge_intro true (fun h => by simp at h) ?_
    simp
    exact gives_p rfl
  | cons c r =>
    simp [byteT]
    simp only [List.length_cons] at hq
    refine ⟨fun _ => gives_p rfl, fun h1 h2 => ⟨by unfold maxLen; omega, ?_⟩⟩
    have hm := hM (by simp) ⟨fun hk => headNot_c (rangeF (fun h => by have := h1 hk (by omega); omega)), fun hk => headNot_c (rangeF (fun h => by have := h2 hk (by omega); omega))⟩
    refine aCallQ_of [] hm rfl (by simp [renF, treeQ, AV.toT, AV.cellT]) (by simp) (by simp [framed, renF]) (by simp [AV.under, AV.under1]) (by simp [Ob.below, AV.under1]) ?_
    simp [renF, frameH, setAll]
    exact gives_p rfl

theorem ParseValues_spec (v : Va) (q : List UInt8) (hrv : RgV v) (hq : q.length ≤ maxLen) : Abs.Fn Tryz.prog runnellaw5_ParseValues_i [] [.p (encV v), .p (.str q)] (.p (.bool true)) [] := by
  have hK := known5_spec
  have hG := valGood_spec v
  apply runnellaw5_ParseValues_fn
  by_cases hg : gV v = true
  · have hqn := hg
    obtain ⟨k, i, b, s, t⟩ := v
    rw [gV_mk] at hqn
    simp only [Bool.and_eq_true, decide_eq_true_eq] at hqn
    obtain ⟨⟨_, hall⟩, hc⟩ := hqn
    have hfit := textV_fits hc hrv (fun x hx => by
      have hx : x ∈ t := hx
      have := List.all_eq_true.1 hall x hx
      simp only [gP, Bool.and_eq_true, decide_eq_true_eq] at this
      exact List.length_eq_zero_iff.1 this.1)
    have hT := text2_spec (.mk k i b s t) hrv hfit.2 (by omega)
    have hJ := fun (x : List UInt8) (hq' : q.length ≤ 100) (hx : x = textE (litE (.mk k i b s t))) => pv_join (.mk k i b s t) q x hc hrv hfit hq' hx
    have hxe : textE (litE (.mk k i b s t)) = if k = 4 then [40, 108, 105, 116, 32] ++ textV (.mk k i b s t) ++ [41] else textV (.mk k i b s t) := by
      have h1 : oLit ≠ oX := by decide
      simp only [litE, textE, if_neg h1, if_pos, Va.k]
      rfl
    have hl := hfit.1
    rw [hg] at hG
    generalize textV (.mk k i b s t) = x at *
    simp only [encV_mk] at *
    simp [runnellaw5_ParseValues]
    refine aCallQ_of [] hK rfl (by simp [renF, treeQ, AV.toT, AV.cellT]) (by simp) (by simp [framed, renF]) (by simp [AV.under, AV.under1]) (by simp [Ob.below, AV.under1]) ?_
    simp [renF, frameH, setAll]
    refine aCallQ_of [] hG rfl (by simp [renF, treeQ, AV.toT, AV.cellT]) (by simp) (by simp [framed, renF]) (by simp [AV.under, AV.under1]) (by simp [Ob.below, AV.under1]) ?_
    simp [renF, frameH, setAll]
    refine ⟨fun _ => gives_p rfl, fun hq2 => ?_⟩
    refine aCallQ_of [] hT rfl (by simp [renF, treeQ, AV.toT, AV.cellT]) (by simp) (by simp [framed, renF]) (by simp [AV.under, AV.under1]) (by simp [Ob.below, AV.under1]) ?_
    simp [renF, frameH, setAll]
    exact ⟨fun h4 => ⟨by unfold maxLen; omega, by unfold maxLen; omega, hJ _ (by omega) (by rw [hxe, if_pos h4]; simp)⟩, fun h4 => hJ _ (by omega) (by rw [hxe, if_neg h4])⟩
  · have hg' : gV v = false := by simpa using hg
    rw [hg'] at hG
    simp only [encV_eta] at *
    simp [runnellaw5_ParseValues]
    refine aCallQ_of [] hK rfl (by simp [renF, treeQ, AV.toT, AV.cellT]) (by simp) (by simp [framed, renF]) (by simp [AV.under, AV.under1]) (by simp [Ob.below, AV.under1]) ?_
    simp [renF, frameH, setAll]
    refine aCallQ_of [] hG rfl (by simp [renF, treeQ, AV.toT, AV.cellT]) (by simp) (by simp [framed, renF]) (by simp [AV.under, AV.under1]) (by simp [Ob.below, AV.under1]) ?_
    simp [renF, frameH, setAll]
    exact gives_p rfl

end Go.Proofs.YtgfnodmghaghpaaGreatDoor
end
