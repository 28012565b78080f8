/- The package gen over trees: operators' programs. -/
import Derived.Test.YtjendohiohhciaaZSpGenR
set_option linter.unusedSimpArgs false
set_option linter.unusedVariables false
namespace Go.Proofs.Ytjendohiohhciaa
open Go Go.Abs

attribute [local irreducible] Abs.Fn

def oEmit : List UInt8 := [101, 109, 105, 116]
def oRet : List UInt8 := [114, 101, 116]
def emitsI (n : Int) : List In := [oneI oEmit n, oneI oRet 0]

theorem join2 (p q : List In) (hl : p.length + q.length ≤ 1000000) (hp : ∀ x ∈ p, smallI x) (hq : ∀ x ∈ q, smallI x) : Abs.Fn Try.prog gen_join_i [] [.p (.slice [encPr p, encPr q])] (.p (encPr (p ++ q.map (mvI p.length)))) [] := by
  have := join_t [p, q] (by rw [joinI_length]; simp; omega) (by
    intro r hr
    simp only [List.mem_cons, List.not_mem_nil, or_false] at hr
    rcases hr with rfl | rfl
    · exact hp
    · exact hq) (by simp)
  rwa [joinI_two] at this

theorem emits_spec (n : Int) : Abs.Fn Try.prog gen_emits_i [] [.p (.int .i64 n)] (.p (encPr (emitsI n))) [] := by
  have hj := join2 [oneI oEmit n] [oneI oRet 0] (by simp) ((oneN_closed (by decide) (by decide)).small (by simp)) (one_closed.small (by simp))
  apply gen_emits_fn
  simp [gen_emits]
  refine aCallW_of rfl rfl (one_spec _ _) ?_
  simp
  refine aCallW_of rfl rfl (one_spec _ _) ?_
  simp
  refine aCallW_of rfl rfl hj ?_
  exact gives_p (by simp [emitsI, mvI_one (show oRet ≠ oJmp by decide) (show oRet ≠ oJf by decide)])

theorem emits_closed {n : Int} : closedI (emitsI n) := by
  intro x hx hj
  simp only [emitsI, List.mem_cons, List.not_mem_nil, or_false] at hx
  rcases hx with rfl | rfl <;> exact absurd hj (by simp [jumpI, oneI, oEmit, oRet, oJmp, oJf])

theorem emits_mv (n b : Int) : (emitsI n).map (mvI b) = emitsI n := by
  simp [emitsI, mvI_one (show oRet ≠ oJmp by decide) (show oRet ≠ oJf by decide), mvI_one (show oEmit ≠ oJmp by decide) (show oEmit ≠ oJf by decide)]

/-- An operator's key's program. -/
def genKey (e : Ex) : List In := genE e ++ emitsI 1

theorem Key_spec {e : Ex} (h : OkG e) (hs : sizeE e ≤ 100000) (k : Int) (name : List UInt8) (tk : Int) (tof es : List T) (f n : Int) :
    Abs.Fn Try.prog gen_Key_i [] [.p (.agg ([.int .i64 k, .str name, .int .i64 tk, .slice tof, .slice es] ++ (encE e).cells ++ [.int .i64 f, .int .i64 n]))] (.p (encPr (genKey e))) [] := by
  have hf := genExpr_spec h hs
  have hj := join2 (genE e) (emitsI 1) (by have := genE_len e; simp [emitsI]; omega) (genS hs) (emits_closed.small (by simp [emitsI]))
  simp only [encE_eta] at hf
  apply gen_Key_fn
  simp [gen_Key]
  refine aCallW_of rfl rfl hf ?_
  simp
  refine aCallW_of rfl rfl (emits_spec 1) ?_
  simp
  refine aCallW_of rfl rfl hj ?_
  exact gives_p (by simp [genKey, emits_mv])

/-- An operator's program. -/
def genOf (k : Int) (es : List Ex) : List In :=
  if k = 2 ∨ k = 4 ∨ k = 5 then joinI (genEs es) ++ emitsI es.length
  else if k = 3 then joinI (genEs es) ++ oneI oJf ((joinI (genEs es)).length + 3) :: oneI oX 0 :: emitsI 1
  else oneI oX 0 :: emitsI 1

theorem Of_spec (k : Int) (name : List UInt8) (tk : Int) (tof : List T) (es : List Ex) (key : Ex) (f n : Int) (hes : ∀ e ∈ es, OkG e) (hs : sizeEs es ≤ 100000) :
    Abs.Fn Try.prog gen_Of_i [] [.p (.agg ([.int .i64 k, .str name, .int .i64 tk, .slice tof, .slice (es.map encE)] ++ (encE key).cells ++ [.int .i64 f, .int .i64 n]))] (.p (encPr (genOf k es))) [] := by
  have hle := len_sizeEs es
  have hlen := genEs_len es
  have hjl : (joinI (genEs es)).length = ((genEs es).map List.length).sum := joinI_length _
  have heach := eachG_spec es hs (fun e he => genExpr_spec (hes e he) (by have := sizeEs_mem he; omega))
  have hsm : ∀ x ∈ joinI (genEs es), smallI x := (joinI_closed _ (genEs_closed es)).small (by omega)
  have hem : ∀ m : Int, ∀ x ∈ emitsI m, smallI x := fun m => emits_closed.small (by simp [emitsI])
  apply gen_Of_fn
  simp [gen_Of]
  refine ⟨fun h => ?_, fun a1 a2 a3 => ⟨fun h => ?_, fun h => ?_⟩⟩
  · have hj := join2 (joinI (genEs es)) (emitsI es.length) (by simp [emitsI]; omega) hsm (hem _)
    refine aCallT_of rfl heach rfl ?_
    simp
    refine ⟨by simp [maxLen]; omega, ?_⟩
    refine aCallT_of rfl (emits_spec _) rfl ?_
    simp
    refine aCallT_of rfl hj rfl ?_
    exact gives_p (by simp [genOf, h, emits_mv])
  · have hj : joinI [joinI (genEs es), [oneI oJf 0], [oneI oX 0], emitsI 1] = joinI (genEs es) ++ oneI oJf (joinI (genEs es)).length :: oneI oX 0 :: emitsI 1 := by
      have g1 : mvI (joinI (genEs es)).length (oneI oJf 0) = oneI oJf (joinI (genEs es)).length := by simp [mvI, jumpI, oneI]
      have g2 : ∀ b : Int, mvI b (oneI oX 0) = oneI oX 0 := fun b => mvI_one (by decide) (by decide)
      have g0 : (joinI (genEs es)).map (mvI 0) = joinI (genEs es) := by rw [List.map_congr_left (g := id) (fun x _ => mvI_zero x)]; simp
      generalize joinI (genEs es) = A at g0 g1 ⊢
      simp [joinI, g0, g1, g2, emits_mv]
    have hm := join_m [joinI (genEs es), [oneI oJf 0], [oneI oX 0], emitsI 1] (by rw [joinI_length]; simp [emitsI]; omega) (by
      intro p hp x hx
      simp only [List.mem_cons, List.not_mem_nil, or_false] at hp
      rcases hp with rfl | rfl | rfl | rfl
      · exact hsm x hx
      · exact (one_closed.small (by simp)) x hx
      · exact (one_closed.small (by simp)) x hx
      · exact hem _ x hx) (by simp)
    have hN : (joinI [joinI (genEs es), [oneI oJf 0], [oneI oX 0], emitsI 1]).length = (joinI (genEs es)).length + 4 := by rw [hj]; simp [emitsI]
    rw [hN, hj] at hm
    refine aCallW_of rfl rfl heach ?_
    simp
    refine aCallW_of rfl rfl (one_spec _ _) ?_
    simp
    refine aCallW_of rfl rfl (one_spec _ _) ?_
    simp
    refine aCallW_of rfl rfl (emits_spec _) ?_
    simp
    refine aCallW_of rfl rfl hm ?_
    simp
    intro _
    have v1 : IntKind.i64.wrap ((joinI (genEs es)).length : Int) = ((joinI (genEs es)).length : Int) := IntWalk.i64_in _ (by omega)
    have v2 : IntKind.i64.wrap (((joinI (genEs es)).length : Int) + 4 - 1) = ((joinI (genEs es)).length : Int) + 3 := by rw [IntWalk.i64_in _ (by omega)]; omega
    rw [v1, v2, Int.toNat_natCast]
    refine ⟨⟨by omega, by omega⟩, by omega, ?_⟩
    rw [get_at _ _ _ _ (by simp), set_at _ _ _ _ (by simp)]
    refine gives_freeze (id := 1) rfl ?_
    simp only [AV.unm, AV.unm1]
    rw [if_pos ⟨trivial, trivial, by simp [emitsI]⟩, List.drop_zero, List.take_of_length_le (by simp [emitsI])]
    exact gives_pure (by simp [AV.pur, encPr, genOf, h, encI_eta, oneI])
  · have hj := join2 [oneI oX 0] (emitsI 1) (by simp [emitsI]) (one_closed.small (by simp)) (hem _)
    refine aCallW_of rfl rfl (one_spec _ _) ?_
    simp
    refine aCallW_of rfl rfl (emits_spec _) ?_
    simp
    refine aCallW_of rfl rfl hj ?_
    refine gives_p ?_
    simp [genOf, emits_mv, a1, a2, a3, h]

end Go.Proofs.Ytjendohiohhciaa
