/- The law CodeJumps, over trees. -/
import Derived.Test.YtgfnodmghaghpaaDoorZSpLaw11
set_option linter.unusedSimpArgs false
set_option linter.unusedVariables false
namespace Go.Proofs.YtgfnodmghaghpaaDoor
open Go Go.Abs

attribute [local irreducible] Abs.Fn

def inX : In := ⟨oX, zeroV, 0⟩

theorem instE_at (m i : Nat) (op : List UInt8) (v : Va) (n : Int) : instE m i ⟨op, v, n⟩ = if op ∉ opsAll then 6
  else if (cntI op = false ∧ n ≠ 0) ∨ (op ≠ oPush ∧ cmpV v zeroV ≠ 0) then 1
  else if op = oPush then checkV v 0
  else if op = oAt then (if n < 0 then 1 else 0)
  else if op = oTup then (if n < 1 ∨ 8 < n then 1 else 0)
  else if op = oEmit' then (if n < 0 ∨ 4 < n then 1 else 0)
  else if op = oJmp ∨ op = oJf then (if n ≤ i ∨ m ≤ n then 1 else 0)
  else 0 := rfl

theorem inX_ok (m i : Nat) : instE m i inX = 0 := by
  rw [inX, instE_at, if_neg (show ¬ oX ∉ opsAll by decide), if_neg (by rintro (⟨_, h⟩ | ⟨_, h⟩); exact h rfl; exact h (cmpV_self zeroV)), if_neg (show ¬ oX = oPush by decide), if_neg (show ¬ oX = oAt by decide), if_neg (show ¬ oX = oTup by decide), if_neg (show ¬ oX = oEmit' by decide), if_neg (show ¬ (oX = oJmp ∨ oX = oJf) by decide)]

theorem instJ {op : List UInt8} (h : op = oJmp ∨ op = oJf) (m i : Nat) (n : Int) : instE m i ⟨op, zeroV, n⟩ = if n ≤ i ∨ m ≤ n then 1 else 0 := by
  have h0 : op ∈ opsAll := by rcases h with rfl | rfl <;> decide
  have h1 : cntI op = true := by rcases h with rfl | rfl <;> decide
  have h2 : ¬ op = oPush ∧ ¬ op = oAt ∧ ¬ op = oTup ∧ ¬ op = oEmit' := by rcases h with rfl | rfl <;> decide
  rw [instE_at, if_neg (by simpa using h0), if_neg (by rintro (⟨h, _⟩ | ⟨_, h⟩); rw [h1] at h; exact absurd h (by decide); exact h (cmpV_self zeroV)), if_neg h2.1, if_neg h2.2.1, if_neg h2.2.2.1, if_neg h2.2.2.2, if_pos h]

theorem ckI_x (m : Nat) : ∀ (n i : Nat) (r : List In), ckI m i (List.replicate n inX ++ r) = ckI m (i + n) r
  | 0, i, r => by simp
  | n + 1, i, r => by
    rw [List.replicate_succ, List.cons_append, ckI, if_neg (by rw [inX_ok]; simp), ckI_x m n (i + 1) r]
    congr 1
    omega

/-- Twenty, one of them a jump. -/
def progJ (k : Nat) (op : List UInt8) (n : Int) : List In := (List.replicate 20 inX).set k ⟨op, zeroV, n⟩

theorem progJ_len (k : Nat) (op : List UInt8) (n : Int) : (progJ k op n).length = 20 := by simp [progJ]

theorem progJ_check {op : List UInt8} (h : op = oJmp ∨ op = oJf) (k : Nat) (hk : k < 20) (n : Int) : checkP (progJ k op n) = if (k : Int) < n ∧ n < 20 then (0, 0) else (k, 1) := by
  have hp : progJ k op n = List.replicate k inX ++ ⟨op, zeroV, n⟩ :: (List.replicate (19 - k) inX ++ []) := by
    unfold progJ
    rw [List.set_eq_take_append_cons_drop, if_pos (by simpa using hk)]
    rw [List.take_replicate, List.drop_replicate, Nat.min_eq_left (by omega), show 20 - (k + 1) = 19 - k by omega, List.append_nil]
  rw [checkP, if_neg (by rw [progJ_len]; simp), if_neg (by rw [progJ_len]; simp), progJ_len, hp, ckI_x, ckI, instJ h]
  by_cases hc : (k : Int) < n ∧ n < 20
  · rw [if_neg (show ¬ (n ≤ ((0 + k : Nat) : Int) ∨ ((20 : Nat) : Int) ≤ n) by omega), if_neg (by simp), ckI_x, if_pos hc]
    rfl
  · rw [if_pos (show (n ≤ ((0 + k : Nat) : Int) ∨ ((20 : Nat) : Int) ≤ n) by omega), if_pos (by simp), if_neg hc]
    simp

theorem progJ_map (k : Nat) (hk : k < 20) (op : List UInt8) (n : Int) : (progJ k op n).map encI = (List.replicate 20 (encI inX)).set k (encI ⟨op, zeroV, n⟩) := by
  simp [progJ, List.map_set]

theorem CodeJumps_spec (a to' : Int) (c : Bool) (ha : 0 ≤ a ∧ a ≤ 255) (ht : -128 ≤ to' ∧ to' ≤ 127) : Abs.Fn Tryd.prog runnellaw11_CodeJumps_i [] [.p (.int .u8 a), .p (.int .i8 to'), .p (.bool c)] (.p (.bool true)) [] := by
  obtain ⟨k, hk, hk20⟩ : ∃ k : Nat, a.tmod 20 = (k : Int) ∧ k < 20 := ⟨(a.tmod 20).toNat, by rw [Int.tmod_eq_emod_of_nonneg ha.1]; omega, by rw [Int.tmod_eq_emod_of_nonneg ha.1]; omega⟩
  have wa : IntKind.i64.wrap a = a := IntWalk.i64_in _ (by omega)
  have wt : IntKind.i64.wrap to' = to' := IntWalk.i64_in _ (by omega)
  have hx : encI inX = .agg [.str oX, .int .i64 0, .int .i64 0, .bool false, .str [], .slice [], .int .i64 0] := by simp [encI_eta, inX]
  have hck : ∀ op : List UInt8, op = oJmp ∨ op = oJf → Abs.Fn Tryd.prog code_Check_i [] [.p (.slice ((List.replicate 20 (encI inX)).set k (.agg [.str op, .int .i64 0, .int .i64 0, .bool false, .str [], .slice [], .int .i64 to'])))] (.tup [.p (.int .i64 (if (k : Int) < to' ∧ to' < 20 then ((0 : Nat), (0 : Int)) else (k, 1)).1), .p (.int .i64 (if (k : Int) < to' ∧ to' < 20 then ((0 : Nat), (0 : Int)) else (k, 1)).2)]) [] := by
    intro op h
    have h1 := CheckC_spec (progJ k op to') (by rw [progJ_len]; omega)
    rw [progJ_check h k hk20 to', progJ_map k hk20] at h1
    simpa [encI_eta] using h1
  apply runnellaw11_CodeJumps_fn
  simp [runnellaw11_CodeJumps]
  refine aCallW_of rfl rfl known11 ?_
  simp [wa, hk]
  refine loop_by (σ := Nat) (n := 1) (fun i => [.msl 0 i 7 0 i, .p (.int .i64 i)]) (fun i => [.mrow i 7 (List.replicate i (encI inX))]) (fun i => i ≤ 20) (fun i => 20 - i) [.mslot 0 7] 0 (fun _ => rfl) (by simp [ghosts, ghost]) (by simp) (fun i B hi hB => ?_)
  simp [runnellaw11_CodeJumps_L1]
  refine ⟨fun hlt => ?_, fun hge => ?_⟩
  · have wi : IntKind.i64.wrap ((i : Int) + 1) = ((i + 1 : Nat) : Int) := by rw [IntWalk.i64_in _ (by omega)]; omega
    have tkr : List.take i (List.replicate i (encI inX)) = List.replicate i (encI inX) := List.take_of_length_le (by simp)
    have happ : appendable 7 88 (List.replicate i (encI inX)) [encI inX] := ⟨fun e he => by rw [List.eq_of_mem_replicate he]; rfl, by simp, by simp; omega⟩
    rw [hx] at happ
    simp [wi, tkr, happ]
    refine ⟨happ, ?_⟩
    refine cast (congrArg (fun x => B x _) ?_) (hB (i + 1) _ (by omega) (by omega) ?_ ?_ ?_ (by simp [AV.under, AV.under1]))
    · simp
    · simp only [List.replicate_succ']; rw [hx]; rfl
    · simp [Ob.below, AV.under1]
    · simp
  · have hi : i = 20 := by omega
    subst hi
    have e1 : ((List.replicate 20 (encI inX))[k]?.getD default) = encI inX := by rw [List.getElem?_replicate, if_pos hk20]; rfl
    have e2 : ∀ x : T, (((List.replicate 20 (encI inX)).set k x)[k]?.getD default) = x := fun x => by rw [List.getElem?_set_self (by simpa using hk20)]; rfl
    have hlen : (List.replicate 20 (encI inX)).length = 20 := List.length_replicate
    generalize List.replicate 20 (encI inX) = L at *
    have hJ : ∀ op : List UInt8, op = oJmp ∨ op = oJf → runnellaw11_CodeJumps_J1 (AV.p (T.int IntKind.i8 to')) (AV.p (T.int IntKind.i64 20)) (AV.p (T.int IntKind.i64 k)) (AV.msl 0 20 7 0 20)
        [Ob.mrow 20 7 (L.set k (.agg [.str op, .int .i64 0, .int .i64 0, .bool false, .str [], .slice [], .int .i64 0]))] fun v H' => Gives 0 v H' (AV.p (T.bool true)) [] := by
      intro op h
      have hc1 := hck op h
      simp [runnellaw11_CodeJumps_J1, wt, hk20, hlen, e2, putT_agg, put]
      refine ⟨by omega, ?_⟩
      refine aCallZ_of (id := 0) (ver := 20) (s := 7) (es := L.set k (.agg [.str op, .int .i64 0, .int .i64 0, .bool false, .str [], .slice [], .int .i64 to'])) ?_ ?_
      · simp
      · simp [AV.unm, AV.unm1, hlen]
        rw [List.take_of_length_le (by simp [hlen])]
        refine aCallW_of rfl rfl hc1 ?_
        by_cases hcc : (k : Int) < to' ∧ to' < 20
        · simp [hcc, wt]
          exact gives_p rfl
        · simp [hcc, wt]
          exact fun _ => gives_p rfl
    rw [e1, hx]
    simp only [putT_agg, put, List.take_zero, List.nil_append, List.length_cons, List.length_nil, List.drop_succ_cons, List.drop_zero, List.cons_append]
    rw [e2]
    refine ⟨hk20, fun _ => ⟨hk20, ?_⟩, fun _ => ?_⟩
    · have := hJ oJf (.inr rfl)
      simpa [putT_agg, put, oJf] using this
    · exact hJ oJmp (.inl rfl)

end Go.Proofs.YtgfnodmghaghpaaDoor
