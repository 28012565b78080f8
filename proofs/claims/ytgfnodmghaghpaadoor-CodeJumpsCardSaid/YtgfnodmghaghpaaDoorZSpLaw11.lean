/- The laws of programs: CodeJumps, CodePush, over trees. -/
import Derived.Test.YtgfnodmghaghpaaDoorZSpCodeG
import Derived.Test.YtgfnodmghaghpaaDoorS1
set_option linter.unusedSimpArgs false
set_option linter.unusedVariables false
namespace Go.Proofs.YtgfnodmghaghpaaDoor
open Go Go.Abs

attribute [local irreducible] Abs.Fn

/-- A value is pushed, let out, and that is all. -/
def progV (v : Va) : List In := [⟨oPush, v, 0⟩, ⟨oEmit', zeroV, 1⟩, ⟨oRet', zeroV, 0⟩]

theorem progV_ok {v : Va} (h1 : checkV v 0 = 0) (h2 : V64 v) (h3 : RgV v) (h4 : Wv 1000000 v) (h5 : (textV v).length ≤ 1000000) : ∀ x ∈ progV v, OkI x := by
  intro x hx
  simp only [progV, List.mem_cons, List.not_mem_nil, or_false] at hx
  rcases hx with rfl | rfl | rfl
  · exact ⟨by simp [opsAll], fun _ => ⟨h1, h2, h3, h4, h5⟩, fun h => absurd (show formOf oPush = 1 by decide) h, fun h => absurd h (show ¬ formOf oPush = 2 by decide), fun _ => rfl⟩
  · exact ⟨by simp [opsAll], fun h => absurd h (show ¬ formOf oEmit' = 1 by decide), fun _ => rfl, fun _ => by simp, fun h => absurd (show formOf oEmit' = 2 by decide) h⟩
  · exact ⟨by simp [opsAll], fun h => absurd h (show ¬ formOf oRet' = 1 by decide), fun _ => rfl, fun h => absurd h (show ¬ formOf oRet' = 2 by decide), fun _ => rfl⟩

theorem progV_check {v : Va} (h : checkV v 0 = 0) : checkP (progV v) = (0, 0) := by
  have e1 : instE 3 0 ⟨oPush, v, 0⟩ = 0 := by
    unfold instE
    simp only [In.op_mk, In.v_mk, In.n_mk]
    rw [if_neg (show ¬ oPush ∉ opsAll by decide), if_neg (by rintro (⟨_, h⟩ | ⟨h, _⟩) <;> exact h rfl), if_pos trivial]
    exact h
  have e2 : instE 3 1 ⟨oEmit', zeroV, 1⟩ = 0 := by decide
  have e3 : instE 3 2 ⟨oRet', zeroV, 0⟩ = 0 := by decide
  have h0 : checkP (progV v) = ckI 3 0 (progV v) := by rw [checkP, if_neg (by simp [progV]), if_neg (by simp [progV])]; rfl
  rw [h0]
  unfold progV
  simp only [ckI, e1, e2, e3, ne_eq, not_true_eq_false, if_false, Nat.reduceAdd]

theorem progV_len {v : Va} : (codeB (progV v)).length = 5 + (putB v).length := by
  have h1 : instB ⟨oPush, v, 0⟩ = 1 :: putB v := by
    have : opN oPush = 0 := by decide
    have h : formOf oPush = 1 := by decide
    simp [instB, h, this]
  have h2 : instB ⟨oEmit', zeroV, 1⟩ = [18, 1] := by
    have : opN oEmit' = 17 := by decide
    have h : formOf oEmit' = 2 := by decide
    simp [instB, h, this]
    rw [numB]; simp
  have h3 : instB ⟨oRet', zeroV, 0⟩ = [19] := by
    have : opN oRet' = 18 := by decide
    have h : formOf oRet' = 0 := by decide
    simp [instB, h, this]
  have h4 : numB 3 = [3] := by rw [numB]; simp
  have h5 : codeB (progV v) = numB 3 ++ (instB ⟨oPush, v, 0⟩ ++ (instB ⟨oEmit', zeroV, 1⟩ ++ (instB ⟨oRet', zeroV, 0⟩ ++ []))) := rfl
  rw [h5, h1, h2, h3, h4]
  simp
  omega

theorem progV_text {v : Va} : textIs (progV v) = [[48, 32, 112, 117, 115, 104, 32] ++ textV v, [49, 32, 101, 109, 105, 116, 32, 49], [50, 32, 114, 101, 116]] := by
  have f1 : formOf oPush = 1 := by decide
  have f2 : formOf oEmit' = 2 := by decide
  have f3 : formOf oRet' = 0 := by decide
  have d0 : Lib.itoa 0 = [48] := by simp [Lib.itoa]; rw [Lib.decDigits]; decide
  have d1 : Lib.itoa 1 = [49] := by simp [Lib.itoa]; rw [Lib.decDigits]; decide
  have d2 : Lib.itoa 2 = [50] := by simp [Lib.itoa]; rw [Lib.decDigits]; decide
  simp [textIs, progV, textI, f1, f2, f3, d0, d1, d2]

theorem known11 : Abs.Fn Tryd.prog runnellaw11_known_i [] [] (.p (.bool true)) [] := by
  have hv1 : checkV (intV (-2)) 0 = 0 := by decide
  have hv2 : V64 (intV (-2)) := .mk _ _ _ _ _ ⟨by decide, by decide⟩ (by simp)
  have hv3 : RgV (intV (-2)) := by simp [intV]; exact .mk _ _ _ _ _ ⟨by decide, by decide⟩ ⟨by decide, by decide⟩ (by simp) (by simp) (by simp)
  have hv4 : Wv 1000000 (intV (-2)) := .mk _ _ _ _ _ (by simp) (by simp) (by simp)
  have hpb : putB (intV (-2)) = [1, 3] := by
    simp [intV, putB]
    rw [numB]; decide
  have htx : textV (intV (-2)) = [45, 50] := by
    simp [intV, textV, Lib.itoa]
    rw [Lib.decDigits]
    decide
  have hok := progV_ok hv1 hv2 hv3 hv4 (by rw [htx]; decide)
  have hcp := progV_check hv1
  have hln := progV_len (v := intV (-2))
  rw [hpb] at hln
  have hck := CheckC_spec (progV (intV (-2))) (by decide)
  rw [hcp] at hck
  have hjc := CheckC_spec [⟨oJmp, zeroV, 0⟩] (by decide)
  rw [show checkP [⟨oJmp, zeroV, 0⟩] = (0, 1) by decide] at hjc
  have htt := cText_ok _ hok (by decide)
  rw [progV_text, htx] at htt
  have hen := cEncode_ok _ hok hcp (by decide) (by rw [hln]; decide)
  have hde := cDecode_ok _ hok hcp (by decide) (by rw [hln]; decide)
  apply runnellaw11_known_fn
  simp [runnellaw11_known]
  refine aCallW_of rfl rfl (Int_spec (-2)) ?_
  simp [intV]
  refine aCallW_of rfl rfl hck ?_
  simp
  refine aCallW_of rfl rfl hjc ?_
  simp
  refine aCallW_of rfl rfl htt ?_
  simp
  refine aCallW_of rfl rfl hen ?_
  simp
  refine aCallW_of rfl rfl hde ?_
  have w0 : IntKind.i64.wrap 0 = 0 := by rfl
  have hln' : (codeB [In.mk oPush (Va.mk 1 (-2) false [] []) 0, In.mk oEmit' (Va.mk 0 0 false [] []) 1, In.mk oRet' (Va.mk 0 0 false [] []) 0]).length = 7 := hln
  simp [w0, progV, encI_eta, hln']
  exact gives_p rfl

theorem CodePush_spec (n : Int) (s : List UInt8) (hn : I64 n) : Abs.Fn Tryd.prog runnellaw11_CodePush_i [] [.p (.int .i64 n), .p (.str s)] (.p (.bool true)) [] := by
  have hkn := known11
  apply runnellaw11_CodePush_fn
  simp [runnellaw11_CodePush]
  refine aCallW_of rfl rfl hkn ?_
  simp
  intro _
  refine ⟨fun _ => gives_p rfl, fun hs => ?_⟩
  have hs : s.length ≤ 255 := by omega
  have hv : ∃ v : Va, v = tupV [intV n, strV s] := ⟨_, rfl⟩
  obtain ⟨v, hv⟩ := hv
  have hve : encV v = .agg [.int .i64 4, .int .i64 0, .bool false, .str [], .slice [.agg [.int .i64 1, .int .i64 n, .bool false, .str [], .slice []], .agg [.int .i64 3, .int .i64 0, .bool false, .str s, .slice []]]] := by rw [hv]; simp
  have hv1 : checkV v 0 = 0 := by
    rw [hv]
    simp [checkV, checkVs, spareV, rowE, hs]
  have hv2 : V64 v := by
    rw [hv]
    refine .mk _ _ _ _ _ (by omega) (fun u hu => ?_)
    simp at hu
    rcases hu with rfl | rfl
    · exact .mk _ _ _ _ _ ⟨hn.1, hn.2⟩ (by simp)
    · exact .mk _ _ _ _ _ (by omega) (by simp)
  have hv3 : RgV v := by
    rw [hv]
    refine .mk _ _ _ _ _ ⟨by omega, by omega⟩ ⟨by omega, by omega⟩ (by simp) (by simp [maxLen]) (fun u hu => ?_)
    simp at hu
    rcases hu with rfl | rfl
    · exact .mk _ _ _ _ _ ⟨by omega, by omega⟩ hn (by simp) (by simp) (by simp)
    · exact .mk _ _ _ _ _ ⟨by omega, by omega⟩ ⟨by omega, by omega⟩ (by simp [maxLen]; omega) (by simp) (by simp)
  have hv4 : Wv 1000000 v := by
    rw [hv]
    refine .mk _ _ _ _ _ (by simp) (by simp) (fun u hu => ?_)
    simp at hu
    rcases hu with rfl | rfl
    · exact .mk _ _ _ _ _ (by simp) (by simp) (by simp)
    · exact .mk _ _ _ _ _ (by omega) (by simp) (by simp)
  have hv5 : (textV v).length ≤ 1000000 := by
    have h1 := itoa_len hn
    have h2 := quote_len s
    rw [hv]
    simp [textV, textVs, TJ.join, TJ.tail]
    omega
  have hv6 : (putB v).length ≤ 1000 := by
    have h1 := numB_len64 (zig_lt ⟨hn.1, hn.2⟩)
    have h2 := numB_len64 (n := s.length) (by omega)
    rw [hv]
    simp [putB, putBs]
    omega
  have hok := progV_ok hv1 hv2 hv3 hv4 hv5
  have hcp := progV_check hv1
  have hln := progV_len (v := v)
  have htt := cText_ok _ hok (by simp [progV])
  rw [progV_text] at htt
  have hen := cEncode_ok _ hok hcp (by simp [progV]) (by rw [hln]; omega)
  have hde := cDecode_ok _ hok hcp (by simp [progV]) (by rw [hln]; omega)
  have hsm := Same_spec v v
  rw [show cmpV v v = 0 from cmpV_self v] at hsm
  have htx := text2_spec v hv3 hv4 (by omega)
  have htu := Tup_spec [intV n, strV s] (by simp)
  have hml : (textV v).length + 7 ≤ maxLen := by unfold maxLen; omega
  rw [← hv] at htu
  simp only [List.map_cons, List.map_nil, progV, encI_eta, In.op_mk, In.v_mk, In.n_mk] at htt hen hde
  rw [hve] at hsm htx htu
  generalize textV v = tx at *
  have e1 : v.k = 4 := by rw [hv]; rfl
  have e2 : v.i = 0 := by rw [hv]; rfl
  have e3 : v.b = false := by rw [hv]; rfl
  have e4 : v.s = [] := by rw [hv]; rfl
  have e5 : v.t.map encV = [.agg [.int .i64 1, .int .i64 n, .bool false, .str [], .slice []], .agg [.int .i64 3, .int .i64 0, .bool false, .str s, .slice []]] := by rw [hv]; simp
  rw [e1, e2, e3, e4, e5] at htt hen hde
  have w0 : IntKind.i64.wrap 0 = 0 := by rfl
  refine aCallW_of rfl rfl (Int_spec n) ?_
  simp
  refine aCallW_of rfl rfl (Str_spec s) ?_
  simp
  refine aCallW_of rfl rfl htu ?_
  simp
  refine aCallW_of rfl rfl hen ?_
  simp
  refine aCallW_of rfl rfl hde ?_
  simp
  refine aCallW_of rfl rfl htt ?_
  simp [w0]
  refine ⟨by unfold maxLen; omega, ?_⟩
  refine aCallT_of (ts := [.agg [.int .i64 4, .int .i64 0, .bool false, .str [], .slice [.agg [.int .i64 1, .int .i64 n, .bool false, .str [], .slice []], .agg [.int .i64 3, .int .i64 0, .bool false, .str s, .slice []]]], .agg [.int .i64 4, .int .i64 0, .bool false, .str [], .slice [.agg [.int .i64 1, .int .i64 n, .bool false, .str [], .slice []], .agg [.int .i64 3, .int .i64 0, .bool false, .str s, .slice []]]]]) (caps := []) (by simp) hsm rfl ?_
  simp
  refine ⟨by unfold maxLen; omega, ?_⟩
  refine aCallT_of (ts := [.agg [.int .i64 4, .int .i64 0, .bool false, .str [], .slice [.agg [.int .i64 1, .int .i64 n, .bool false, .str [], .slice []], .agg [.int .i64 3, .int .i64 0, .bool false, .str s, .slice []]]]]) (caps := []) (by simp) htx rfl ?_
  simp
  exact ⟨by omega, gives_p rfl⟩

end Go.Proofs.YtgfnodmghaghpaaDoor
