/- Programs of pushes. -/
import Derived.Test.YtjendohiohhciaaZSpLaw14
import Derived.Test.YtjendohiohhciaaZSpVal
import Derived.Test.YtjendohiohhciaaZSpValB
import Derived.Test.YtjendohiohhciaaZSpRowV
set_option linter.unusedSimpArgs false
set_option linter.unusedVariables false
namespace Go.Proofs.Ytjendohiohhciaa
open Go Go.Abs

attribute [local irreducible] Abs.Fn

theorem wv_plain {v : Va} (ht : v.t = []) (hc : checkV v 0 = 0) : Wv 1000000000 v := by
  obtain ⟨k, i, b, s, t⟩ := v
  have ht : t = [] := ht
  subst ht
  refine .mk _ _ _ _ _ ?_ (by simp) (by simp)
  unfold checkV at hc
  repeat' split at hc
  all_goals first | omega | (exfalso; revert hc; decide) | skip

/-- A front of a program: what stands behind it goes on with this stack, with this out. -/
def FrontI (p : List In) (x : Va) (s out : List Va) : Prop := ∀ q r, RunI (p ++ q) x p.length s out r → RunI (p ++ q) x 0 [] [] r

theorem front_nil (x : Va) : FrontI [] x [] [] := fun q r h => h

theorem front_push {p : List In} {x : Va} {s out : List Va} (h : FrontI p x s out) (v : Va) (hs : s.length ≤ 100000) (ho : out.length ≤ 100000) (hw : ∀ y ∈ s, Wv 1000000000 y) : FrontI (p ++ [.mk oPush v 0]) x (s ++ [v]) out := by
  intro q r hr
  rw [List.append_assoc] at hr ⊢
  refine h _ _ (.go (i := .mk oPush v 0) (s' := s ++ [v]) (o := []) (by simp) (by constructor <;> simp [In.op, oJmp, oJf]) hs ho hw (by simp [doesI, In.op, In.v]) ?_)
  simpa using hr

theorem front_emit {p : List In} {x : Va} {s out : List Va} (h : FrontI p x s out) (hs : s.length ≤ 100000) (ho : out.length ≤ 100000) (hw : ∀ y ∈ s, Wv 1000000000 y) : FrontI (p ++ [.mk oEmit' zeroV s.length]) x [] (out ++ s) := by
  intro q r hr
  rw [List.append_assoc] at hr ⊢
  refine h _ _ (.go (i := .mk oEmit' zeroV s.length) (s' := []) (o := s) (by simp) (by constructor <;> simp [In.op, oJmp, oJf]) hs ho hw (by simp [doesI, In.op, In.n, oX]) ?_)
  simpa using hr

theorem front_ret {p : List In} {x : Va} {s out : List Va} (h : FrontI p x s out) (hs : s.length ≤ 100000) : RunI (p ++ [.mk oRet' zeroV 0]) x 0 [] [] (.ok out) :=
  h _ _ (.ret (i := .mk oRet' zeroV 0) (by simp) rfl hs)

def plainH (p : List In) : List Ob := [.row p.length 7]

theorem encI7 (l : List In) : ∀ e ∈ l.map encI, e.cells.length = 7 := fun e he => by
  obtain ⟨y, _, rfl⟩ := List.mem_map.1 he
  simp [encI_eta]

/-- One part: its pushes, and what lets them out. -/
theorem plain_part (l : List Va) (hl : l.length ≤ 30) (hT : ∀ v ∈ l, v.t.length ≤ maxLen) (i k0 n : Nat) (hn : k0 + n ≤ l.length) (hi : i ≤ 40) (p : List In) (hp : p.length ≤ k0 + i) (hf : FrontI p (intV 0) [] (l.take k0)) (hw : ∀ y ∈ l.take k0, Wv 1000000000 y) (B : List AV → List Ob → Prop)
    (hB : ∀ p k H2, p.length ≤ k + (i + 1) → k ≤ l.length → FrontI p (intV 0) [] (l.take k) → (∀ y ∈ l.take k, Wv 1000000000 y) → H2.take 1 = plainH p → 1 ≤ H2.length → B [.own 0 (p.map encI), .p (.int .i64 k), .p (.int .i64 ((i : Int) + 1))] H2) :
    runnellaw14_VmPlain_J1 (.p (.slice (l.map encV))) (.own 0 (p.map encI)) (.p (.int .i64 k0)) (.p (.int .i64 i)) (.p (.int .i64 n)) (plainH p) B (fun v H' => Gives 0 v H' (.p (.bool true)) []) := by
  simp [runnellaw14_VmPlain_J1]
  refine loop_by (n := 1) (fun q : List In × Nat => [.own 0 (q.1.map encI), .p (.int .i64 (k0 + q.2 : Nat)), .p (.int .i64 q.2)]) (fun q => plainH q.1) (fun q => q.2 ≤ n ∧ q.1.length ≤ k0 + q.2 + i ∧ FrontI q.1 (intV 0) ((l.take (k0 + q.2)).drop k0) (l.take k0) ∧ (∀ y ∈ l.take (k0 + q.2), Wv 1000000000 y)) (fun q => n - q.2) [] (p, 0) (fun q => rfl) ?_ ⟨by simp, by simpa using hp, by simpa [List.drop_take] using hf, by simpa using hw⟩ ?_
  · simp [ghosts]
  · rintro ⟨p, j⟩ B2 ⟨hj, hp, hf, hw⟩ hB2
    simp only at hj hp hf hw
    simp [runnellaw14_VmPlain_L2, plainH]
    have lm : ∀ m, m ≤ 30 → m ≤ maxLen := fun m h => Nat.le_trans h (by simp only [maxLen]; omega)
    constructor
    · intro hjn
      have hlt : k0 + j < l.length := by omega
      have h0 : 0 < l.length := by omega
      have tn : ((k0 : Int) + j).toNat = k0 + j := by omega
      have li : (k0 : Int) + j < l.length := by omega
      have w1 : IntKind.i64.wrap ((k0 : Int) + j + 1) = (k0 : Int) + j + 1 := IntWalk.i64_in _ (by omega)
      have w2 : IntKind.i64.wrap ((j : Int) + 1) = (j : Int) + 1 := IntWalk.i64_in _ (by omega)
      have hc := Checkv_spec l[k0 + j]
      simp at hc
      simp [tn, li, List.getElem?_eq_getElem hlt]
      refine ⟨by omega, hT _ (List.getElem_mem _), fun _ => gives_p rfl, fun ht => ⟨by omega, ?_⟩⟩
      refine aCallT_of rfl hc rfl ?_
      simp [tn, li, List.getElem?_eq_getElem hlt, List.getElem?_eq_getElem h0, h0, plainH, appendable, w1, w2]
      have et : l.take (k0 + (j + 1)) = l.take (k0 + j) ++ [l[k0 + j]] := List.take_succ_eq_append_getElem hlt
      have ed : (l.take (k0 + (j + 1))).drop k0 = (l.take (k0 + j)).drop k0 ++ [l[k0 + j]] := by rw [et, List.drop_append_of_le_length (by simp; omega)]
      refine ⟨fun _ => gives_p rfl, fun hck => ⟨by omega, fun _ => gives_p rfl, fun _ => ⟨by omega, by omega, ?_⟩⟩⟩
      have := hB2 (p ++ [.mk oPush l[k0 + j] 0], j + 1) [.row (p.length + 1) 7] ⟨hjn, by simp; omega, by
        simp only
        rw [ed]
        exact front_push hf _ (by simp; omega) (by simp; omega) (fun y hy => hw y (List.mem_of_mem_drop hy)), by
        simp only
        rw [et]
        intro y hy
        rcases List.mem_append.1 hy with hy | hy
        · exact hw y hy
        · simp at hy; subst hy; exact wv_plain ht hck⟩ (by simp only; omega) (by simp [plainH]) (by simp [Ob.below]) (by simp) (by simp [AV.under, AV.under1])
      simpa [encI_eta, In.op, In.v, In.n, Int.add_assoc] using this
    · intro hnj
      have hj : j = n := by omega
      subst hj
      have w3 : IntKind.i64.wrap ((i : Int) + 1) = (i : Int) + 1 := IntWalk.i64_in _ (by omega)
      simp [appendable, w3]
      refine ⟨by omega, ?_⟩
      have hlen : ((l.take (k0 + j)).drop k0).length = j := by simp; omega
      have hfe := front_emit hf (by simp; omega) (by simp; omega) (fun y hy => hw y (List.mem_of_mem_drop hy))
      rw [hlen] at hfe
      have htk : l.take k0 ++ (l.take (k0 + j)).drop k0 = l.take (k0 + j) := by
        have := List.take_append_drop k0 (l.take (k0 + j))
        rwa [List.take_take, Nat.min_eq_left (by omega)] at this
      rw [htk] at hfe
      have := hB (p ++ [.mk oEmit' zeroV j]) (k0 + j) [.row (p.length + 1) 7] (by simp; omega) hn hfe hw (by simp [plainH]) (by simp)
      simpa [encI_eta, In.op, In.v, In.n, zeroV] using this

/-- A program of pushes lets out what it pushed. -/
theorem VmPlain_law (l : List Va) (parts : List Int) (hT : ∀ v ∈ l, v.t.length ≤ maxLen) (hL : l.length ≤ maxLen) (hp : ∀ x ∈ parts, 0 ≤ x ∧ x ≤ 255) :
    Abs.Fn Try.prog runnellaw14_VmPlain_i [] [.p (.slice (l.map encV)), .p (.slice (parts.map (.int .u8)))] (.p (.bool true)) [] := by
  apply runnellaw14_VmPlain_fn
  simp [runnellaw14_VmPlain, hL]
  refine aCallW_of rfl rfl known14 ?_
  simp [hL]
  refine ⟨fun _ => gives_p rfl, fun h30 h40 => ?_⟩
  have h30 : l.length ≤ 30 := by omega
  have h40 : parts.length ≤ 40 := by omega
  have hpl : parts.length ≤ maxLen := Nat.le_trans h40 (by simp only [maxLen]; omega)
  refine loop_by (n := 1) (fun q : List In × Nat × Nat => [.own 0 (q.1.map encI), .p (.int .i64 q.2.1), .p (.int .i64 q.2.2)]) (fun q => plainH q.1) (fun q => q.1.length ≤ q.2.1 + q.2.2 ∧ q.2.1 ≤ l.length ∧ q.2.2 ≤ parts.length ∧ FrontI q.1 (intV 0) [] (l.take q.2.1) ∧ (∀ y ∈ l.take q.2.1, Wv 1000000000 y)) (fun q => parts.length - q.2.2) [.slot 0 7] ([], 0, 0) (fun q => rfl) ?_ ⟨by simp, by simp, by simp, by simpa using front_nil _, by simp⟩ ?_
  · simp [ghosts, ghost, plainH]
  · rintro ⟨p, k, i⟩ B ⟨h1, h2, h3, hf, hw⟩ hB
    simp only at h1 h2 h3 hf hw
    simp [runnellaw14_VmPlain_L1, hL, hpl]
    have wk : IntKind.i64.wrap ((l.length : Int) - k) = ((l.length - k : Nat) : Int) := by rw [IntWalk.i64_in _ (by omega)]; omega
    have onB : ∀ p k' H2, p.length ≤ k' + (i + 1) → k' ≤ l.length → FrontI p (intV 0) [] (l.take k') → (∀ y ∈ l.take k', Wv 1000000000 y) → i < parts.length → H2.take 1 = plainH p → 1 ≤ H2.length → B [.own 0 (p.map encI), .p (.int .i64 k'), .p (.int .i64 ((i : Int) + 1))] H2 := fun p k' H2 a1 a2 a3 a4 a5 a6 a7 => by
      have := hB (p, k', i + 1) H2 ⟨a1, a2, a5, a3, a4⟩ (by simp only; omega) a6 (by rw [a6]; simp [plainH, Ob.below]) a7 (by simp [AV.under, AV.under1])
      simpa using this
    refine ⟨fun hi hk => ?_, fun hx => ?_⟩
    · have hc := hp _ (List.getElem_mem hi)
      simp [List.getElem?_eq_getElem hi]
      generalize parts[i] = c at hc
      obtain ⟨d, hd, hd3⟩ : ∃ d : Nat, c.tmod 4 = d ∧ d ≤ 3 := ⟨(c.tmod 4).toNat, by rw [Int.tmod_eq_emod_of_nonneg hc.1]; omega, by rw [Int.tmod_eq_emod_of_nonneg hc.1]; omega⟩
      have u1 : IntKind.i64.wrap (d : Int) = d := IntWalk.i64_in _ (by omega)
      have u2 : IntKind.i64.wrap (1 + (d : Int)) = ((1 + d : Nat) : Int) := by rw [IntWalk.i64_in _ (by omega)]; omega
      have u3 : IntKind.u8.wrap (d : Int) = d := IntWalk.u8_in _ (by omega)
      simp [hd, u1, u2, u3, wk]
      have key := fun n hn => plain_part l h30 hT i k n hn (by omega) p h1 hf hw B (fun p k' H2 a1 a2 a3 a4 a5 a6 => onB p k' H2 a1 a2 a3 a4 hi a5 a6)
      refine ⟨hi, fun _ => key _ (by omega), fun hle => by simpa using key (1 + d) (by omega)⟩
    · simp [plainH, appendable, In.op]
      refine ⟨by omega, ?_⟩
      have hrun := vmRun_spec (p ++ [.mk oRet' zeroV 0]) (intV 0) _ (front_ret hf (by simp)) (by simp; omega)
      refine aCallW_of rfl rfl (Int_spec 0) ?_
      simp [intV]
      simp [encI_eta, In.op, In.v, In.n, zeroV, runR, intV] at hrun
      refine aCallW_of rfl rfl hrun ?_
      simp [hL, h2]
      clear hB onB hrun
      refine loop_by (n := 1) (fun j : Nat => [.p (.int .i64 j)]) (fun j => [.row (p.length + 1) 7]) (fun j => j ≤ k) (fun j => k - j) [] 0 (fun q => rfl) ?_ (Nat.zero_le _) ?_
      · simp [ghosts]
      · intro j B3 hj hB3
        simp [runnellaw14_VmPlain_L3]
        refine ⟨fun hjk => ?_, fun hjk => gives_p rfl⟩
        have hlt : j < l.length := by omega
        have hs := Same_spec l[j] l[j]
        have w1 : IntKind.i64.wrap ((j : Int) + 1) = (j : Int) + 1 := IntWalk.i64_in _ (by omega)
        simp [cmpV_self] at hs
        simp [hlt, List.getElem?_eq_getElem hlt, List.getElem?_take, hjk]
        refine ⟨by omega, ?_⟩
        refine aCallT_of rfl hs rfl ?_
        simp [w1]
        have := hB3 (j + 1) [.row (p.length + 1) 7] hjk (by omega) (by simp) (by simp [Ob.below]) (by simp) (by simp [AV.under, AV.under1])
        simpa using this

theorem VmPlain_row (l : List Va) (parts : List Int) (w : l.length ≤ maxLen ∧ ∀ v ∈ l, RgV v) (hp : ∀ x ∈ parts, 0 ≤ x ∧ x ≤ 255) :
    Abs.Fn Try.prog runnellaw14_VmPlain_i [] [.p (.slice (l.map encV)), .p (.slice (parts.map (.int .u8)))] (.p (.bool true)) [] :=
  VmPlain_law l parts (fun v hv => by obtain ⟨k, i, b, s, t, hk, hi, hs, ht, ho⟩ := w.2 v hv; exact ht) w.1 hp

end Go.Proofs.Ytjendohiohhciaa
