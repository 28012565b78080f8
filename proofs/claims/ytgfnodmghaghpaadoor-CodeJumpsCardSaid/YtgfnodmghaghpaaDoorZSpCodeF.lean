/- The package code over trees: a program out of bytes, into bytes, into words. -/
import Derived.Test.YtgfnodmghaghpaaDoorZSpCodeE
import Derived.Test.YtgfnodmghaghpaaDoorZSpWireO
import Derived.Test.YtgfnodmghaghpaaDoorZSpItoa
set_option linter.unusedSimpArgs false
set_option linter.unusedVariables false
namespace Go.Proofs.YtgfnodmghaghpaaDoor
open Go Go.Abs

attribute [local irreducible] Abs.Fn

theorem cInst_ok (l : List Nat) (at' : Nat) (bad : Int) (x : In) (rest : List Nat) (h : l.drop at' = instB x ++ rest) (hx : OkI x) (hb : ∀ c ∈ l, c < 256) (hl : l.length ≤ 100000000) :
    Abs.Fn Tryd.prog code_reader_inst_i (rC l at' 0 bad) [.bptr 0 0, .p (.slice (formsL.map encF))] (.p (encI x)) (rC l (at' + (instB x).length) 0 bad) := by
  obtain ⟨k19, kp, kf⟩ := opN_lt hx.op
  have hlen : formsL.length = 19 := rfl
  have hk : opN x.op < formsL.length := by omega
  have kf2 : formsL[opN x.op] = (x.op, formOf x.op) := by rw [List.getElem?_eq_getElem hk, Option.some.injEq] at kf; exact kf
  have h' := h
  rw [instB, List.cons_append] at h'
  have hd1 := drop_next h'
  have hf := cFieldInt code_reader_inst_1_i [(1, 0), (2, 0)] l at' (at' + 1) bad (opN x.op) [.box [.bptr 0 0], .box [.p (.slice (formsL.map encF))]] (cInst1_ok l at' (opN x.op) bad _ h' k19 hb hl)
  have hnv := hx.noval
  have hnn := hx.nonum
  have w1 : ((1 : Int) = 2) = False := by simp
  apply code_reader_inst_fnH
  simp [code_reader_inst]
  simp only [List.cons_append, List.nil_append] at hf
  refine aCallF_of [0, 1, 2] hf rfl (by simp [renF]) (by simp) (by simp [framed, renF]) (by simp [AV.under, AV.under1]) (by simp [Ob.below, AV.under1]) ?_
  simp [renF, frameH, setAll, hlen, k19, kf, kf2, encF, encI_eta]
  refine ⟨by omega, ⟨fun h1 => ?_, fun h1 => ⟨fun h2 => ?_, fun h2 => ?_⟩⟩⟩
  · obtain ⟨v1, v2, v3, v4, v5⟩ := hx.val h1
    rw [if_pos h1] at hd1
    have hn0 := hnn (by omega)
    have hv := cFieldVal l (at' + 1) bad x.v rest hd1 v1 v2 hb hl
    have hpos : at' + (instB x).length = at' + 1 + (putB x.v).length := by rw [instB, if_pos h1]; simp; omega
    simp only [encV_eta] at hv
    rw [hpos]
    refine aCallF_of [0] hv rfl (by simp [renF]) (by simp) (by simp [framed, renF]) (by simp [AV.under, AV.under1]) (by simp [Ob.below, AV.under1]) ?_
    simp [renF, frameH, setAll]
    refine gives_norm ?_
    exact gives_ids [0] (by simp [renF, AV.norm, hn0, encI_eta]) rfl (by simp) (by simp [framed, renF]) (by simp [AV.under, AV.under1]) (by simp [Ob.below, AV.under1])
  · rw [if_neg (by omega), if_pos h2] at hd1
    obtain ⟨n1, n2⟩ := hx.num h2
    have hv0 := hnv (by omega)
    have hn := cNum_ok l (at' + 1) x.n.toNat 2147483647 bad 1 rest hd1 (by omega) (by omega) hb hl
    have hpos : at' + (instB x).length = at' + 1 + (numB x.n.toNat).length := by rw [instB, if_neg (by omega), if_pos h2]; simp; omega
    have hnn' : ((x.n.toNat : Nat) : Int) = x.n := by omega
    rw [hpos]
    refine aCallF_of [0] hn rfl (by simp [renF]) (by simp) (by simp [framed, renF]) (by simp [AV.under, AV.under1]) (by simp [Ob.below, AV.under1]) ?_
    simp [renF, frameH, setAll]
    refine gives_norm ?_
    exact gives_ids [0] (by simp [renF, AV.norm, hv0, hnn', encI_eta]; omega) rfl (by simp) (by simp [framed, renF]) (by simp [AV.under, AV.under1]) (by simp [Ob.below, AV.under1])
  · have hv0 := hnv h1
    have hn0 := hnn h2
    have hpos : at' + (instB x).length = at' + 1 := by rw [instB, if_neg h1, if_neg h2]; simp
    rw [hpos]
    refine gives_norm ?_
    exact gives_ids [0] (by simp [renF, AV.norm, hv0, hn0, encI_eta]) rfl (by simp) (by simp [framed, renF]) (by simp [AV.under, AV.under1]) (by simp [Ob.below, AV.under1])

theorem cDecode_ok (p : List In) (hp : ∀ x ∈ p, OkI x) (hc : checkP p = (0, 0)) (hlen : p.length ≤ 4096) (hl : (codeB p).length ≤ 100000000) :
    Abs.Fn Tryd.prog code_Decode_i [] [.p (.slice (byT (codeB p)))] (.tup [.p (.slice (p.map encI)), .p (.int .i64 0), .p (.int .i64 0)]) [] := by
  have hb : ∀ c ∈ codeB p, c < 256 := by
    intro c h
    rcases List.mem_append.1 h with h | h
    · exact numB_lt _ c h
    · exact instBs_lt hp c h
  have hops := ops_spec
  have hnum := cNum_ok (codeB p) 0 p.length 4096 0 10 (instBs p) (by simp [codeB]) hlen (by omega) hb hl
  have hck := CheckC_spec p (by omega)
  rw [hc] at hck
  generalize hL : codeB p = L at *
  have hL2 : L.length = (numB p.length).length + (instBs p).length := by rw [← hL, codeB]; simp
  have hd0 : L.drop (numB p.length).length = instBs p := by rw [← hL, codeB]; simp
  apply code_Decode_fn
  simp [code_Decode]
  refine aCallW_of rfl rfl hops ?_
  simp
  refine aCallF_of [0] hnum rfl (by simp [renF]) (by simp) (by simp [framed, renF]) (by simp [AV.under, AV.under1]) (by simp [Ob.below, AV.under1]) ?_
  simp [renF, frameH, setAll]
  refine loop_by (σ := Nat × Nat) (n := 2) (fun q => [.own 1 ((p.take q.1).map encI), .p (.int .i64 (p.length - q.1))]) (fun q => rC L q.2 0 0 ++ [.row q.1 7]) (fun q => q.1 ≤ p.length ∧ L.drop q.2 = instBs (p.drop q.1) ∧ q.2 + (instBs (p.drop q.1)).length = L.length) (fun q => p.length - q.1) [.slot 0 7] (0, (numB p.length).length) (fun _ => rfl) (by simp [ghosts, ghost]) ⟨by simp, by simpa using hd0, by simp; omega⟩ (fun q B hq hB => ?_)
  obtain ⟨i, pos⟩ := q
  obtain ⟨g1, g2, g3⟩ := hq
  simp only at g1 g2 g3
  simp [code_Decode_L1]
  refine ⟨fun hlt => ?_, fun hge => ?_⟩
  · have hi : i < p.length := by omega
    rw [instBs_drop p i hi] at g2 g3
    have hx := cInst_ok L pos 0 p[i] _ g2 (hp _ (by simp)) hb hl
    simp only [encI_eta] at hx
    simp at g3
    refine aCallF_of [0] hx rfl (by simp [renF]) (by simp) (by simp [framed, renF]) (by simp [AV.under, AV.under1]) (by simp [Ob.below, AV.under1]) ?_
    simp [renF, frameH, setAll]
    have hmin : min i p.length = i := by omega
    have hmin1 : min (i + 1) p.length = i + 1 := by omega
    have tk : List.take (i + 1) (List.map encI p) = List.take i (List.map encI p) ++ [encI p[i]] := by
      rw [List.take_succ_eq_append_getElem (by simpa using hi)]; simp
    have w : IntKind.i64.wrap ((p.length : Int) - i - 1) = (p.length : Int) - (i + 1 : Nat) := by rw [IntWalk.i64_in _ (by omega)]; omega
    refine ⟨by omega, ⟨fun e he => by obtain ⟨x, hx, rfl⟩ := List.mem_map.1 (List.mem_of_mem_take he); rfl, by simp, by simp; omega⟩, ?_⟩
    rw [w]
    refine cast (congrArg (fun x => B x _) ?_) (hB (i + 1, pos + (instB p[i]).length) _ ⟨by simp only; omega, drop_app g2, by simp only; omega⟩ (by simp only; omega) ?_ ?_ ?_ (by simp [AV.under, AV.under1]))
    · simp [tk, encI_eta]
    · simp [tk, hmin1]
    · simp [Ob.below, AV.under1]
    · simp
  · have hi : i = p.length := by omega
    subst hi
    simp [instBs] at g3
    subst g3
    have tkl : List.take p.length (List.map encI p) = List.map encI p := List.take_of_length_le (by simp)
    simp [tkl]
    simp [code_Decode_J1]
    refine aCallW_of rfl (by simp [toTs, AV.toT, AV.cellT]; rfl) (by simpa using hck) ?_
    simp
    exact gives_pure (by simp [AV.pur, toTs])

theorem cEncode_ok (p : List In) (hp : ∀ x ∈ p, OkI x) (hc : checkP p = (0, 0)) (hlen : p.length ≤ 4096) (hl : (codeB p).length ≤ 10000000) :
    Abs.Fn Tryd.prog code_Encode_i [] [.p (.slice (p.map encI))] (.tup [.p (.slice (byT (codeB p))), .p (.int .i64 0)]) [] := by
  have hck := CheckC_spec p (by omega)
  rw [hc] at hck
  have hops := ops_spec
  have hpn : Abs.Fn Tryd.prog wire_PutNum_i [] [.full [], .p (.int .u64 p.length)] (.own 0 (byT (numB p.length))) (bO (numB p.length)) := fn_own_in (s := 1) (by simpa [bO] using wire_PutNum_own [] p.length (by omega) (by simp))
  have wu : IntKind.u64.wrap (p.length : Int) = (p.length : Int) := u64_nat (by omega)
  have hml : p.length ≤ maxLen := by simp only [maxLen]; omega
  generalize hL : codeB p = L at *
  have hLe : L = numB p.length ++ instBs p := by rw [← hL]; rfl
  apply code_Encode_fn
  simp [code_Encode]
  refine aCallW_of rfl rfl hck ?_
  simp
  refine aCallW_of rfl rfl hops ?_
  simp [wu, hml]
  refine aCallF_of [] hpn rfl (by simp [renF]) (by simp) (by simp [framed, renF]) (by simp [AV.under, AV.under1]) (by simp [Ob.below, AV.under1]) ?_
  simp [renF, frameH, setAll]
  intro _
  refine loop_by (σ := Nat × List Nat) (n := 1) (fun q => [.own 0 (byT q.2), .p (.int .i64 q.1)]) (fun q => bO q.2) (fun q => q.1 ≤ p.length ∧ q.2 ++ instBs (p.drop q.1) = L) (fun q => p.length - q.1) [] (0, numB p.length) (fun _ => rfl) (by simp [ghosts]) ⟨by simp, by simpa using hLe.symm⟩ (fun q B hq hB => ?_)
  obtain ⟨i, k⟩ := q
  obtain ⟨g1, g2⟩ := hq
  simp only at g1 g2
  simp [code_Encode_L1]
  refine ⟨fun hlt => ?_, fun hge => ?_⟩
  · have hx := hp p[i] (by simp)
    obtain ⟨k19, kp, kf⟩ := opN_lt hx.op
    have hfl : formsL.length = 19 := rfl
    have hk : opN p[i].op < formsL.length := by omega
    have kf2 : formsL[opN p[i].op] = (p[i].op, formOf p[i].op) := by rw [List.getElem?_eq_getElem hk, Option.some.injEq] at kf; exact kf
    have hpl := place_spec formsL p[i].op
    rw [kp] at hpl
    rw [instBs_drop p i hlt] at g2
    have hln : k.length + (instB p[i]).length + (instBs (p.drop (i + 1))).length = L.length := by rw [← g2]; simp; omega
    have w8 : IntKind.u8.wrap ((opN p[i].op : Int) + 1) = ((opN p[i].op + 1 : Nat) : Int) := by
      have := u8_nat (opN p[i].op + 1)
      rw [Nat.mod_eq_of_lt (by omega)] at this
      exact_mod_cast this
    have w1 : IntKind.i64.wrap ((opN p[i].op : Int) + 1) = (opN p[i].op : Int) + 1 := IntWalk.i64_in _ (by omega)
    have wi : IntKind.i64.wrap ((i : Int) + 1) = ((i + 1 : Nat) : Int) := by rw [IntWalk.i64_in _ (by omega)]; omega
    simp [hlt, encI_eta]
    refine aCallW_of rfl rfl hpl ?_
    simp [w1, w8, hfl, k19, kf, kf2, encF]
    have e1 : byT k ++ [T.int IntKind.u8 ((opN p[i].op : Int) + 1)] = byT (k ++ [opN p[i].op + 1]) := by simp
    refine ⟨⟨byT_size _, by simp, by simp; omega⟩, by omega, ?_⟩
    rw [e1]
    refine ⟨fun h1 => ?_, fun h1 => ⟨fun h2 => ?_, fun h2 => ?_⟩⟩
    · obtain ⟨v1, v2, v3, v4, v5⟩ := hx.val h1
      rw [instB, if_pos h1] at g2 hln
      simp at hln
      have hv := wire_Put_own p[i].v 0 (k ++ [opN p[i].op + 1]) v1 v2 (by simp; omega)
      simp only [encV_eta] at hv
      refine aCallG_of [0] hv rfl (by simp [renF, AV.norm]) (by simp) (by simp [framed, renF]) (by simp [AV.under, AV.under1]) (by simp [Ob.below]) ?_
      simp [renF, frameH, setAll, wi]
      refine cast (congrArg (fun x => B x _) ?_) (hB (i + 1, k ++ (opN p[i].op + 1) :: putB p[i].v) _ ⟨by simp only; omega, by simp only; rw [← g2]; simp⟩ (by simp only; omega) ?_ ?_ ?_ (by simp [AV.under, AV.under1]))
      · simp
      · simp
      · simp [Ob.below, AV.under1]
      · simp
    · obtain ⟨n1, n2⟩ := hx.num h2
      rw [instB, if_neg (by omega), if_pos h2] at g2 hln
      simp at hln
      have hv := wire_PutNum_own (k ++ [opN p[i].op + 1]) p[i].n.toNat (by omega) (by simp; omega)
      have wn : IntKind.u64.wrap p[i].n = ((p[i].n.toNat : Nat) : Int) := by
        have := u64_nat (n := p[i].n.toNat) (by omega)
        rw [show ((p[i].n.toNat : Nat) : Int) = p[i].n by omega] at this ⊢
        exact this
      rw [wn]
      refine aCallF_of [0] hv rfl (by simp [renF]) (by simp) (by simp [framed, renF]) (by simp [AV.under, AV.under1]) (by simp [Ob.below]) ?_
      simp [renF, frameH, setAll, wi]
      refine cast (congrArg (fun x => B x _) ?_) (hB (i + 1, k ++ (opN p[i].op + 1) :: numB p[i].n.toNat) _ ⟨by simp only; omega, by simp only; rw [← g2]; simp⟩ (by simp only; omega) ?_ ?_ ?_ (by simp [AV.under, AV.under1]))
      · simp
      · simp
      · simp [Ob.below, AV.under1]
      · simp
    · rw [instB, if_neg h1, if_neg h2] at g2 hln
      simp [wi]
      refine cast (congrArg (fun x => B x _) ?_) (hB (i + 1, k ++ [opN p[i].op + 1]) _ ⟨by simp only; omega, by simp only; rw [← g2]; simp⟩ (by simp only; omega) ?_ ?_ ?_ (by simp [AV.under, AV.under1]))
      · simp
      · simp
      · simp [Ob.below, AV.under1]
      · simp
  · have hi : i = p.length := by omega
    subst hi
    simp [instBs] at g2
    subst g2
    exact gives_pure (by simp [AV.pur, toTs])

end Go.Proofs.YtgfnodmghaghpaaDoor
