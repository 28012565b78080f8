/- The laws of sound programs: what is known, VerAny. -/
import Derived.Test.YtcdkdmjedkhpiaaDoorZSpVerR
import Derived.Test.YtcdkdmjedkhpiaaDoorZSpCodeB
import Derived.Test.YtcdkdmjedkhpiaaDoorZSpBudT
import Derived.Test.YtcdkdmjedkhpiaaDoorS3
set_option linter.unusedSimpArgs false
set_option linter.unusedVariables false
namespace Go.Proofs.YtcdkdmjedkhpiaaDoor
open Go Go.Abs

attribute [local irreducible] Abs.Fn

def intT : Ty := .mk 1 []
def kn1 : List In := [.mk oX zeroV 0, .mk oPush (intV 1) 0, .mk oLt zeroV 0, .mk oEmit' zeroV 1, .mk oRet' zeroV 0]
def kn2 : List In := [.mk oX zeroV 0, .mk oAdd zeroV 0, .mk oRet' zeroV 0]
def kn3 : List In := [.mk oX zeroV 0, .mk oRet' zeroV 0]

theorem kn1_r : verP kn1 intT = (.mk 2 [], 0, 0) := by rfl
theorem kn2_r : verP kn2 intT = (noTy, 1, 12) := by rfl
theorem kn3_r : verP kn3 intT = (noTy, 1, 12) := by rfl

theorem known13 : Abs.Fn Tryd.prog runnellaw13_known_i [] [] (.p (.bool true)) [] := by
  have r1 := VCheck_spec kn1 intT (by decide)
  have r2 := VCheck_spec kn2 intT (by decide)
  have r3 := VCheck_spec kn3 intT (by decide)
  rw [kn1_r] at r1
  rw [kn2_r] at r2
  rw [kn3_r] at r3
  apply runnellaw13_known_fn
  simp [runnellaw13_known]
  refine aCallT_of rfl (Int_spec 1) rfl ?_
  simp [intV]
  refine aCallT_of rfl r1 rfl ?_
  simp [verR]
  refine aCallW_of rfl rfl r2 ?_
  simp [verR]
  refine aCallW_of rfl rfl r3 ?_
  simp [verR]
  exact gives_p rfl

theorem few13_wv {p : List In} (h : fewP p = true) : p.length ≤ 300 ∧ ∀ x ∈ p, Wv 1000000000 x.v := by
  simp only [fewP, Bool.and_eq_true, decide_eq_true_eq, List.all_eq_true] at h
  exact ⟨h.1, fun x hx => (fewV_small (h.2 x hx).2).mono (by omega)⟩

mutual
theorem ty_wd : ∀ {t : Ty} {d : Int}, checkT t d = 0 → 0 ≤ d → Wd 1000000000 t
  | .mk k of, d, h, hd => by
    unfold checkT at h
    split at h
    · split at h
      · rename_i e
        subst e
        exact .mk _ _ (by simp) (by simp)
      · simp at h
    · split at h
      · split at h
        · rename_i _ _ e
          exact absurd h e
        · rename_i _ _ e
          have e : rowE of.length d = 0 := Classical.not_not.1 e
          refine .mk _ _ ?_ (tys_wd h (by omega))
          unfold rowE at e
          repeat' split at e
          all_goals first
            | omega
            | simp at e
      · simp at h
theorem tys_wd : ∀ {l : List Ty} {d : Int}, checkTs l d = 0 → 0 ≤ d → ∀ t ∈ l, Wd 1000000000 t
  | [], d, h, hd => by simp
  | t :: r, d, h, hd => by
    simp only [checkTs] at h
    split at h
    · rename_i e; exact absurd h e
    · rename_i e
      intro u hu
      rcases List.mem_cons.1 hu with e' | hu
      · rw [e']; exact ty_wd (Classical.not_not.1 e) hd
      · exact tys_wd h hd u hu
end

theorem verP_wd (p : List In) (inn : Ty) : Wd 1000000000 (verP p inn).1 := by
  rcases verP_valid p inn with h | h
  · rw [h]; exact .mk _ _ (by simp) (by simp)
  · exact ty_wd h (by omega)

theorem VerAny_spec (p : List In) (inn : Ty) : Abs.Fn Tryd.prog runnellaw13_VerAny_i [] [.p (.slice (p.map encI)), .p (encT inn)] (.p (.bool true)) [] := by
  have hfew := few11_spec p
  have hft := few1_spec inn
  apply runnellaw13_VerAny_fn
  simp only [encT_eta] at hft
  simp [runnellaw13_VerAny]
  refine aCallW_of rfl rfl known13 ?_
  simp
  refine aCallW_of rfl rfl hfew ?_
  simp
  refine aMerge_intro (!fewT inn) (fun _ => ?_) ?_
  · refine aCallW_of rfl rfl hft ?_
    simp
  simp
  refine ⟨fun _ => gives_p rfl, fun h1 h2 => ?_⟩
  obtain ⟨hl, hw⟩ := few13_wv h1
  have hT := fewT_small h2
  have hck := VCheck_spec p inn (by omega)
  have hof := of11_spec p (by omega) hw
  have hoft := of1_spec hT
  have hve := Verify_spec p inn (by omega)
  have hov := of1_spec (verP_wd p inn)
  have hsame := sameType_spec (verP p inn).1 (verP p inn).1
  rw [(sameT_iff _ _).2 rfl] at hsame
  generalize verP p inn = res at *
  obtain ⟨t, i, e⟩ := res
  simp only [encT_eta] at hck hoft hve hov hsame
  refine aCallN_of [] hck rfl (by simp [renF, treeA]) (by simp) (by simp [framed, renF]) (by simp [AV.under, AV.under1]) (by simp [Ob.below, AV.under1]) ?_
  simp [renF, frameH, setAll, verR]
  refine aCallT_of rfl hof rfl ?_
  simp [frameH, setAll]
  refine aCallT_of (ts := [.agg [.int .i64 inn.kind, .slice (inn.of.map encT)]]) (caps := []) (by simp) hoft rfl ?_
  simp
  refine aCallT_of (ts := [.slice (p.map encI), .agg [.int .i64 inn.kind, .slice (inn.of.map encT)]]) (caps := []) (by simp) hve (by simp [verR, AV.pur, toTs]; rfl) ?_
  simp
  refine aCallT_of (ts := [.agg [.int .i64 t.kind, .slice (t.of.map encT)]]) (caps := []) (by simp) hov rfl ?_
  simp
  refine aCallT_of (ts := [.agg [.int .i64 t.kind, .slice (t.of.map encT)], .agg [.int .i64 t.kind, .slice (t.of.map encT)]]) (caps := []) (by simp) hsame rfl ?_
  simp
  exact gives_p rfl

end Go.Proofs.YtcdkdmjedkhpiaaDoor
