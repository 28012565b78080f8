/- The package wire over trees: what writes, behind a row of its own, behind nothing. -/
import Derived.Test.YtgfnodmghaghpaaDoorZSpWire
set_option linter.unusedSimpArgs false
set_option linter.unusedVariables false
namespace Go.Proofs.YtgfnodmghaghpaaDoor
open Go Go.Abs

theorem fn_own_in {P : Program} {f : FuncId} {rs : List AV} {r : AV} {Ho : List Ob} {s : Nat} (h : Abs.Fn P f [.row 0 s] (.own 0 [] :: rs) r Ho) : Abs.Fn P f [] (.full [] :: rs) r Ho := by
  refine ⟨h.1, fun w G vs hi hv => ?_⟩
  have aux : ∀ u, RepA G (.full []) u → ∃ G', Inv w G' [.row 0 s] ∧ RepA G' (.own 0 []) u ∧ Step w G w G' := by
    intro u hr
    cases hr with
    | full _ a h =>
      obtain ⟨i1, s1⟩ := add_loc hi (.row a 0 0 s) (.row 0 s) (by cases a <;> simp [Loc.blk]) ⟨rfl, rfl, Nat.le_refl _, fun h => absurd h (Nat.lt_irrefl _)⟩
      exact ⟨_, i1, .own 0 [] a a 0 0 0 s h (by simp [Gh.withLoc]) (Nat.le_refl _) (fun _ => ⟨rfl, rfl⟩) (by simp), s1⟩
  obtain ⟨G', i', r', m⟩ := aux _ (hv.2 0 _ rfl)
  have hv' : RepL G' (.own 0 [] :: rs) vs := by
    refine ⟨by simpa using hv.1, fun j c hj => ?_⟩
    cases j with
    | zero => simp at hj; subst hj; exact r'
    | succ j => exact (hv.2 (j + 1) c (by simpa using hj)).mono m.grow
  refine (h.2 w G' vs i' hv').mono ?_
  rintro e w' ⟨u, G2, rfl, hr, hi2, hm⟩
  exact ⟨u, G2, rfl, hr, hi2, (m 0).trans { hm with loc := fun id hid => absurd hid (by simp) }⟩

theorem fn_own_out {P : Program} {f : FuncId} {rs : List AV} {es : List T} {n s : Nat} (h : Abs.Fn P f [] rs (.own 0 es) [.row n s]) : Abs.Fn P f [] rs (.p (.slice es)) [] := by
  refine ⟨h.1, fun w G vs hi hv => (h.2 w G vs hi hv).mono ?_⟩
  rintro e w' ⟨u, G', rfl, hr, hi', hm⟩
  obtain ⟨G2, i2, r2, m2⟩ := (gives_pure rfl : Gives 0 (.own 0 es) [.row n s] (.p (.slice es)) []) w' G' u hi' hr
  exact ⟨u, G2, rfl, r2, i2, hm.trans m2⟩

attribute [local irreducible] Abs.Fn

/-- A row of bytes of its own. -/
abbrev bO (l : List Nat) : List Ob := [.row l.length 1]

theorem wire_PutNum_own (l : List Nat) (n : Nat) (hn : n < 18446744073709551616) (hl : l.length ≤ 1000000000) :
    Abs.Fn Tryd.prog wire_PutNum_i (bO l) [.own 0 (byT l), .p (.int .u64 n)] (.own 0 (byT (l ++ numB n))) (bO (l ++ numB n)) := by
  have h10 := numB_len64 hn
  apply wire_PutNum_fnH
  simp only [wire_PutNum]
  refine loop_by (σ := Nat × List Nat) (n := 1) (fun q => [.own 0 (byT q.2), .p (.int .u64 q.1)]) (fun q => bO q.2) (fun q => q.1 ≤ n ∧ q.2 ++ numB q.1 = l ++ numB n) (fun q => q.1) [] (n, l) (fun _ => rfl) (by simp [ghosts]) ⟨Nat.le_refl _, rfl⟩ (fun q B hq hB => ?_)
  obtain ⟨m, k⟩ := q
  obtain ⟨g1, g2⟩ := hq
  simp only at g1 g2
  have g3 : k.length + (numB m).length = l.length + (numB n).length := by rw [← List.length_append, g2, List.length_append]
  have g4 := numB_pos m
  simp [wire_PutNum_L1]
  rw [lo_byte, shr7]
  refine ⟨fun hge => ?_, fun hlt => ?_⟩
  · have hst := num_step (n := m) (by omega)
    have hlen : (numB m).length = (numB (m / 128)).length + 1 := by rw [hst]; simp
    have := numB_pos (m / 128)
    refine ⟨⟨byT_size _, by simp, by simp; omega⟩, ?_⟩
    refine cast (congrArg (fun x => B x _) ?_) (hB (m / 128, k ++ [m % 128 + 128]) _ ⟨by simp only; omega, by simp only; rw [← g2, hst]; simp⟩ (by simp only; omega) ?_ ?_ ?_ (by simp [AV.under, AV.under1]))
    · simp
    · simp
    · simp [Ob.below]
    · simp
  · have hlt : m < 128 := by omega
    have hen := num_end hlt
    rw [hen] at g2 g3
    rw [hi_byte hlt, ← byT_append, ← g2]
    refine ⟨⟨byT_size _, by simp, by simp; simp at g3; omega⟩, ?_⟩
    exact gives_ids [0] (by simp [renF]) rfl (by simp) (by simp [framed]) (by simp [AV.under, AV.under1]) (by simp [Ob.below])

theorem wire_PutText_own (l : List Nat) (t : List UInt8) (ht : t.length ≤ 1000000) (hl : l.length ≤ 1000000000) :
    Abs.Fn Tryd.prog wire_PutText_i (bO l) [.own 0 (byT l), .p (.str t)] (.own 0 (byT (l ++ (numB t.length ++ t.map UInt8.toNat)))) (bO (l ++ (numB t.length ++ t.map UInt8.toNat))) := by
  have hp := wire_PutNum_own l t.length (by omega) hl
  have h10 := numB_len64 (n := t.length) (by omega)
  apply wire_PutText_fnH
  simp [wire_PutText]
  intro _
  rw [u64_nat (by omega)]
  refine aCallF_of [0] hp rfl (by simp [renF]) (by simp) (by simp [framed]) (by simp [AV.under, AV.under1]) (by simp [Ob.below]) ?_
  simp [renF, frameH, setAll]
  refine ⟨⟨?_, fun e he => by obtain ⟨x, _, rfl⟩ := List.mem_map.1 he; rfl, by simp; omega⟩, ?_⟩
  · rw [← byT_append]; exact byT_size _
  exact gives_ids [0] (by simp [renF, byT_str]) rfl (by simp) (by simp [framed]; try omega) (by simp [AV.under, AV.under1]) (by simp [Ob.below])

set_option maxHeartbeats 1000000 in
theorem wire_Put_own : ∀ (v : Va) (d : Int) (l : List Nat) (_ : checkV v d = 0) (_ : V64 v) (_ : l.length + (putB v).length ≤ 100000000),
    Abs.Fn Tryd.prog wire_Put_i (bO l) [.own 0 (byT l), .p (encV v)] (.own 0 (byT (l ++ putB v))) (bO (l ++ putB v))
  | .mk k i b s t, d, l, hc, hi, hl => by
    have hir := hi
    cases hi with
    | mk _ _ _ _ _ hr ho =>
    have z1 := zig_lt hr
    have w1 : IntKind.u8.wrap 1 = 1 := by rfl
    have w2 : IntKind.u8.wrap 2 = 2 := by rfl
    have w3 : IntKind.u8.wrap 3 = 3 := by rfl
    have w4 : IntKind.u8.wrap 4 = 4 := by rfl
    have ap : ∀ (l' : List Nat) (n : Int), l'.length ≤ 1000000000 → appendable 1 1 (byT l') [T.int .u8 n] := fun l' n h => ⟨byT_size _, by simp, by simp; omega⟩
    apply wire_Put_fnH
    simp [wire_Put]
    rcases good_cases hc with ⟨rfl, rfl, rfl, rfl⟩ | ⟨rfl, rfl, rfl, rfl⟩ | ⟨rfl, rfl, rfl, rfl, hsl⟩ | ⟨rfl, rfl, rfl, rfl, hrow, hck⟩
    · simp [w1]
      refine ⟨ap _ _ (by omega), ?_⟩
      rw [zigW hr]
      refine aCallF_of [0] (wire_PutNum_own (l ++ [1]) (zig i) z1 (by simp; omega)) rfl (by simp [renF, hr]) (by simp) (by simp [framed, renF]) (by simp [AV.under, AV.under1]) (by simp [Ob.below]) ?_
      simp [renF, frameH, setAll]
      exact gives_ids [0] (by simp [renF, putB]) rfl (by simp) (by simp [framed, renF, putB]; try omega) (by simp [AV.under, AV.under1]) (by simp [Ob.below])
    · simp [w2]
      have e2 : byT l ++ [T.int IntKind.u8 2] = byT (l ++ [2]) := by simp
      rw [e2]
      refine ⟨ap _ _ (by omega), fun hb => ⟨ap _ _ (by simp; omega), ?_⟩, fun hb => ⟨ap _ _ (by simp; omega), ?_⟩⟩
      · subst hb
        exact gives_ids [0] (by simp [renF, putB]) rfl (by simp) (by simp [framed, renF, putB]) (by simp [AV.under, AV.under1]) (by simp [Ob.below])
      · subst hb
        exact gives_ids [0] (by simp [renF, putB]) rfl (by simp) (by simp [framed, renF, putB]) (by simp [AV.under, AV.under1]) (by simp [Ob.below])
    · simp [w3]
      refine ⟨ap _ _ (by omega), ?_⟩
      have hs1 : s.length ≤ 1000000 := by omega
      refine aCallF_of [0] (wire_PutText_own (l ++ [3]) s hs1 (by simp; omega)) rfl (by simp [renF]) (by simp) (by simp [framed, renF]) (by simp [AV.under, AV.under1]) (by simp [Ob.below]) ?_
      simp [renF, frameH, setAll]
      exact gives_ids [0] (by simp [renF, putB]) rfl (by simp) (by simp [framed, renF, putB]; try omega) (by simp [AV.under, AV.under1]) (by simp [Ob.below])
    · have hlen := row_len hrow
      have wn : IntKind.u8.wrap (t.length : Int) = (t.length : Int) := by rw [u8_nat]; omega
      have e4 : byT l ++ [T.int IntKind.u8 4] = byT (l ++ [4]) := by simp
      have hml : t.length ≤ maxLen := by simp only [maxLen]; omega
      simp [w4, wn]
      rw [e4]
      refine ⟨ap _ _ (by omega), fun _ => ⟨ap _ _ (by simp; omega), ?_⟩⟩
      intro _
      refine loop_by (σ := Nat × List Nat) (n := 2) (fun q => [.own 0 (byT q.2), .p (.int .i64 q.1)]) (fun q => bO q.2 ++ [.box [.p (.int .i64 4), .p (.int .i64 0), .p (.bool false), .p (.str []), .p (.slice (t.map encV))]])
        (fun q => q.1 ≤ t.length ∧ q.2 ++ putBs (t.drop q.1) = l ++ 4 :: t.length :: putBs t) (fun q => t.length - q.1) [] (0, l ++ [4, t.length]) (fun _ => rfl) (by simp [ghosts]) ⟨by simp, by simp⟩ (fun q B hq hB => ?_)
      obtain ⟨jj, k⟩ := q
      obtain ⟨g1, g2⟩ := hq
      simp only at g1 g2
      have hpb : putB (.mk 4 0 false [] t) = 4 :: t.length :: putBs t := by simp [putB]
      have hln : k.length + (putBs (t.drop jj)).length = l.length + (putB (.mk 4 0 false [] t)).length := by
        rw [hpb, ← List.length_append, g2]; simp
      simp [wire_Put_L1, hml]
      refine ⟨fun hlt => ?_, fun hge => ?_⟩
      · have hm : t[jj] ∈ t := by simp
        have d1 := putBs_drop t jj hlt
        rw [d1] at g2 hln
        simp at hln
        have hrec := wire_Put_own t[jj] (d + 1) k (checkVs_zero.1 hck _ hm) (ho _ hm) (by omega)
        simp only [encV_eta] at hrec
        have w : IntKind.i64.wrap ((jj : Int) + 1) = (jj : Int) + 1 := IntWalk.i64_in _ (by omega)
        simp [hlt, List.getElem?_eq_getElem hlt, w]
        refine aCallG_of [0] hrec rfl (by simp [renF, AV.norm]) (by simp) (by simp [framed, renF]) (by simp [AV.under, AV.under1]) (by simp [Ob.below]) ?_
        simp [renF, frameH, setAll]
        refine cast (congrArg (fun x => B x _) ?_) (hB (jj + 1, k ++ putB t[jj]) _ ⟨by simp only; omega, by simp only; rw [List.append_assoc]; exact g2⟩ (by simp only; omega) ?_ ?_ ?_ (by simp [AV.under, AV.under1]))
        · simp [w]
        · simp
        · simp [Ob.below, AV.under1]
        · simp
      · rw [List.drop_of_length_le hge] at g2 hln
        simp only [putBs, List.append_nil, Nat.add_zero, List.length_nil] at g2 hln
        rw [hpb] at hln ⊢
        simp at hln
        have hln2 : l.length + ((putBs t).length + 1 + 1) = k.length := by omega
        have e5 : byT l ++ (T.int IntKind.u8 4 :: T.int IntKind.u8 t.length :: byT (putBs t)) = byT k := by rw [g2]; simp
        exact gives_ids [0] (by simp [renF]; try exact e5.symm) rfl (by simp) (by simp [framed, renF]; try omega) (by simp [AV.under, AV.under1]) (by simp [Ob.below])
termination_by v => SizeOf.sizeOf v
decreasing_by
  have := List.sizeOf_lt_of_mem hm
  simp
  omega

theorem wire_Put_nil (v : Va) (d : Int) (hc : checkV v d = 0) (hi : V64 v) (hl : (putB v).length ≤ 100000000) : Abs.Fn Tryd.prog wire_Put_i [] [.full [], .p (encV v)] (.p (.slice (byT (putB v)))) [] :=
  fn_own_out (n := (putB v).length) (s := 1) (fn_own_in (s := 1) (wire_Put_own v d [] hc hi (by simpa using hl)))

theorem wire_PutNum_nil (n : Nat) (hn : n < 18446744073709551616) : Abs.Fn Tryd.prog wire_PutNum_i [] [.full [], .p (.int .u64 n)] (.p (.slice (byT (numB n)))) [] :=
  fn_own_out (n := (numB n).length) (s := 1) (fn_own_in (s := 1) (wire_PutNum_own [] n hn (by simp)))
theorem wire_PutText_nil (t : List UInt8) (ht : t.length ≤ 1000000) : Abs.Fn Tryd.prog wire_PutText_i [] [.full [], .p (.str t)] (.p (.slice (byT (numB t.length ++ t.map UInt8.toNat)))) [] :=
  fn_own_out (n := (numB t.length ++ t.map UInt8.toNat).length) (s := 1) (fn_own_in (s := 1) (wire_PutText_own [] t ht (by simp)))

end Go.Proofs.YtgfnodmghaghpaaDoor
