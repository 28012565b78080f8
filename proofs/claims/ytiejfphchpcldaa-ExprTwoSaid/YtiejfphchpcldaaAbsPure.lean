/- The operations that only reckon: what each abstract one answers the model's one answers too. -/
import Derived.Test.YtiejfphchpcldaaAbsRep
import Derived.Laws.Sem
import Derived.Laws.Strings
namespace Go.Abs

variable {P : Program}

theorem repA_int {G : Gh} {k : IntKind} {n : Int} {v : Value} : RepA G (.p (.int k n)) v ↔ v = .int k n := repA_p.trans repT_int
theorem repA_bool {G : Gh} {b : Bool} {v : Value} : RepA G (.p (.bool b)) v ↔ v = .bool b := repA_p.trans repT_bool
theorem repA_str {G : Gh} {s : List UInt8} {v : Value} : RepA G (.p (.str s)) v ↔ v = .string ⟨s.toArray⟩ ∧ s.length ≤ maxLen := repA_p.trans repT_str
theorem repA_raw {G : Gh} {x v : Value} : RepA G (.p (.raw x)) v ↔ v = x ∧ scalar x = true := repA_p.trans repT_raw

theorem toList_mk (s : List UInt8) : (⟨s.toArray⟩ : ByteArray).toList = s := by rw [ByteArray.toList_eq]

theorem intBin_sound {op : BinOp} {k : IntKind} {a b : Int} {K : AV → Prop} {t : TypeId} (h : intBin op k a b K) :
    ∃ r, K r ∧ ∀ (w : World) (G : Gh) , ∃ v, (binOp op t (.int k a) (.int k b)).run P w = .ok v w ∧ RepA G r v := by
  cases op with
  | add => exact ⟨_, h, fun w G => ⟨_, by simp only [binOp, Op.intArith, ne_eq, not_true_eq_false, if_false]; rfl, .p _ _ (.int _ _)⟩⟩
  | sub => exact ⟨_, h, fun w G => ⟨_, by simp only [binOp, Op.intArith, ne_eq, not_true_eq_false, if_false]; rfl, .p _ _ (.int _ _)⟩⟩
  | mul => exact ⟨_, h, fun w G => ⟨_, by simp only [binOp, Op.intArith, ne_eq, not_true_eq_false, if_false]; rfl, .p _ _ (.int _ _)⟩⟩
  | quo => obtain ⟨h1, h2⟩ := h; exact ⟨_, h2, fun w G => ⟨_, by simp only [binOp, Op.intDiv, ne_eq, not_true_eq_false, if_false, if_neg h1]; rfl, .p _ _ (.int _ _)⟩⟩
  | rem => obtain ⟨h1, h2⟩ := h; exact ⟨_, h2, fun w G => ⟨_, by simp only [binOp, Op.intDiv, ne_eq, not_true_eq_false, if_false, if_neg h1]; rfl, .p _ _ (.int _ _)⟩⟩
  | and => exact ⟨_, h, fun w G => ⟨_, by simp only [binOp, Op.intBits, ne_eq, not_true_eq_false, if_false]; rfl, .p _ _ (.int _ _)⟩⟩
  | or => exact ⟨_, h, fun w G => ⟨_, by simp only [binOp, Op.intBits, ne_eq, not_true_eq_false, if_false]; rfl, .p _ _ (.int _ _)⟩⟩
  | xor => exact ⟨_, h, fun w G => ⟨_, by simp only [binOp, Op.intBits, ne_eq, not_true_eq_false, if_false]; rfl, .p _ _ (.int _ _)⟩⟩
  | andNot => exact ⟨_, h, fun w G => ⟨_, by simp only [binOp, Op.intBits, ne_eq, not_true_eq_false, if_false]; rfl, .p _ _ (.int _ _)⟩⟩
  | shl => obtain ⟨h1, h2⟩ := h; exact ⟨_, h2, fun w G => ⟨_, by simp only [binOp, Op.shift, if_neg (show ¬ b < 0 by omega)]; rfl, .p _ _ (.int _ _)⟩⟩
  | shr => obtain ⟨h1, h2⟩ := h; exact ⟨_, h2, fun w G => ⟨_, by simp only [binOp, Op.shift, if_neg (show ¬ b < 0 by omega)]; rfl, .p _ _ (.int _ _)⟩⟩
  | eql => exact ⟨_, h, fun w G => ⟨_, by simp only [binOp, Op.intCmp, ne_eq, not_true_eq_false, if_false]; rfl, .p _ _ (.bool _)⟩⟩
  | neq => exact ⟨_, h, fun w G => ⟨_, by simp only [binOp, Op.intCmp, ne_eq, not_true_eq_false, if_false]; rfl, .p _ _ (.bool _)⟩⟩
  | lss => exact ⟨_, h, fun w G => ⟨_, by simp only [binOp, Op.intCmp, ne_eq, not_true_eq_false, if_false]; rfl, .p _ _ (.bool _)⟩⟩
  | leq => exact ⟨_, h, fun w G => ⟨_, by simp only [binOp, Op.intCmp, ne_eq, not_true_eq_false, if_false]; rfl, .p _ _ (.bool _)⟩⟩
  | gtr => exact ⟨_, h, fun w G => ⟨_, by simp only [binOp, Op.intCmp, ne_eq, not_true_eq_false, if_false]; rfl, .p _ _ (.bool _)⟩⟩
  | geq => exact ⟨_, h, fun w G => ⟨_, by simp only [binOp, Op.intCmp, ne_eq, not_true_eq_false, if_false]; rfl, .p _ _ (.bool _)⟩⟩

theorem strBin_sound {op : BinOp} {a b : List UInt8} {K : AV → Prop} {t : TypeId} (h : strBin op a b K) :
    ∃ r, K r ∧ ∀ (w : World) (G : Gh) , ∃ v, (binOp op t (.string ⟨a.toArray⟩) (.string ⟨b.toArray⟩)).run P w = .ok v w ∧ RepA G r v := by
  cases op with
  | add =>
    obtain ⟨h1, h2⟩ := h
    refine ⟨_, h2, fun w G => ⟨_, ?_, .p _ _ (.str _ (by simpa using h1))⟩⟩
    have hm : maxLen = 9223372036854775807 := rfl
    have e : (⟨a.toArray⟩ : ByteArray) ++ ⟨b.toArray⟩ = ⟨(a ++ b).toArray⟩ := by
      apply ByteArray.ext; simp
    have hs : ¬ ((((⟨a.toArray⟩ : ByteArray).size + (⟨b.toArray⟩ : ByteArray).size : Nat) : Int) > IntKind.i64.max) := by
      have e1 : (⟨a.toArray⟩ : ByteArray).size = a.length := by simp [ByteArray.size]
      have e2 : (⟨b.toArray⟩ : ByteArray).size = b.length := by simp [ByteArray.size]
      have e3 : IntKind.i64.max = 9223372036854775807 := by decide
      rw [e1, e2, e3]; omega
    simp only [binOp, Op.stringOp, if_neg hs, e]; rfl
  | eql => exact ⟨_, h, fun w G => ⟨_, by simp only [binOp, Op.stringOp, toList_mk]; rfl, .p _ _ (.bool _)⟩⟩
  | neq => exact ⟨_, h, fun w G => ⟨_, by simp only [binOp, Op.stringOp, toList_mk]; rfl, .p _ _ (.bool _)⟩⟩
  | lss => exact ⟨_, h, fun w G => ⟨_, by simp only [binOp, Op.stringOp, toList_mk]; rfl, .p _ _ (.bool _)⟩⟩
  | leq => exact ⟨_, h, fun w G => ⟨_, by simp only [binOp, Op.stringOp, toList_mk]; rfl, .p _ _ (.bool _)⟩⟩
  | gtr => exact ⟨_, h, fun w G => ⟨_, by simp only [binOp, Op.stringOp, toList_mk]; rfl, .p _ _ (.bool _)⟩⟩
  | geq => exact ⟨_, h, fun w G => ⟨_, by simp only [binOp, Op.stringOp, toList_mk]; rfl, .p _ _ (.bool _)⟩⟩
  | _ => exact h.elim

theorem run_underlying' {t : TypeId} {d : TypeDesc} (h : P.underlying t = some d) (w : World) : (underlying t).run P w = .ok d w := by
  simp [underlying, h]

theorem equal_bool {t : TypeId} (h : P.underlying t = some .bool) (a b : Bool) (w : World) : (Op.equal t (.bool a) (.bool b)).run P w = .ok (a == b) w := by
  show (Op.equalIn (9999 + 1) t (.bool a) (.bool b)).run P w = _
  unfold Op.equalIn
  rw [Sem.run_bind, run_underlying' h]
  rfl

theorem equal_nil {t e : TypeId} (h : P.underlying t = some (.pointer e)) (w : World) : (Op.equal t (.pointer none) (.pointer none)).run P w = .ok true w := by
  show (Op.equalIn (9999 + 1) t (.pointer none) (.pointer none)).run P w = _
  unfold Op.equalIn
  rw [Sem.run_bind, run_underlying' h]
  rfl

theorem equal_some_nil {t e : TypeId} (h : P.underlying t = some (.pointer e)) (a : Addr) (w : World) : (Op.equal t (.pointer (some a)) (.pointer none)).run P w = .ok false w := by
  show (Op.equalIn (9999 + 1) t (.pointer (some a)) (.pointer none)).run P w = _
  unfold Op.equalIn
  rw [Sem.run_bind, run_underlying' h]
  rfl

theorem run_eql {t : TypeId} {x y : Value} {b : Bool} {w : World} (hx : binOp .eql t x y = (do pure (.bool (← Op.equal t x y)))) (h : (Op.equal t x y).run P w = .ok b w) :
    (binOp .eql t x y).run P w = .ok (.bool b) w := by
  rw [hx, Sem.run_bind, h]; rfl

theorem run_neq {t : TypeId} {x y : Value} {b : Bool} {w : World} (hx : binOp .neq t x y = (do pure (.bool (!(← Op.equal t x y))))) (h : (Op.equal t x y).run P w = .ok b w) :
    (binOp .neq t x y).run P w = .ok (.bool (!b)) w := by
  rw [hx, Sem.run_bind, h]; rfl

theorem eqBin_sound {t : TypeId} {op : BinOp} {x y : AV} {K : AV → Prop} (h : eqBin (isBoolT P t) (isPtrT P t) op x y K) :
    ∃ r, K r ∧ ∀ (w : World) (G : Gh) (vx vy : Value), RepA G x vx → RepA G y vy → ∃ v, (binOp op t vx vy).run P w = .ok v w ∧ RepA G r v ∧ (∀ ox oy, (eqGuard op t ox oy vx vy).run P w = .ok () w) := by
  have hb : isBoolT P t = true → P.underlying t = some .bool := by
    unfold isBoolT; split <;> simp_all
  have hp : isPtrT P t = true → ∃ e, P.underlying t = some (.pointer e) := by
    unfold isPtrT; split <;> simp_all
  unfold eqBin at h
  split at h
  · obtain ⟨h1, h2⟩ := h
    refine ⟨_, h2, fun w G vx vy rx ry => ?_⟩
    obtain rfl := repA_bool.1 rx
    obtain rfl := repA_bool.1 ry
    exact ⟨_, run_eql rfl (equal_bool (hb h1) _ _ w), .p _ _ (.bool _), fun ox oy => rfl⟩
  · obtain ⟨h1, h2⟩ := h
    refine ⟨_, h2, fun w G vx vy rx ry => ?_⟩
    obtain rfl := repA_bool.1 rx
    obtain rfl := repA_bool.1 ry
    exact ⟨_, run_neq rfl (equal_bool (hb h1) _ _ w), .p _ _ (.bool _), fun ox oy => rfl⟩
  · obtain ⟨h1, h2⟩ := h
    obtain ⟨e, h3⟩ := hp h1
    refine ⟨_, h2, fun w G vx vy rx ry => ?_⟩
    obtain ⟨rfl, _⟩ := repA_raw.1 rx
    obtain ⟨rfl, _⟩ := repA_raw.1 ry
    exact ⟨_, run_eql rfl (equal_nil h3 w), .p _ _ (.bool _), fun ox oy => rfl⟩
  · obtain ⟨h1, h2⟩ := h
    obtain ⟨e, h3⟩ := hp h1
    refine ⟨_, h2, fun w G vx vy rx ry => ?_⟩
    obtain ⟨rfl, _⟩ := repA_raw.1 rx
    obtain ⟨rfl, _⟩ := repA_raw.1 ry
    exact ⟨_, run_neq rfl (equal_nil h3 w), .p _ _ (.bool _), fun ox oy => rfl⟩
  · obtain ⟨h1, h2⟩ := h
    obtain ⟨e, h3⟩ := hp h1
    refine ⟨_, h2, fun w G vx vy rx ry => ?_⟩
    cases rx
    obtain ⟨rfl, _⟩ := repA_raw.1 ry
    exact ⟨_, run_eql rfl (equal_some_nil h3 _ w), .p _ _ (.bool _), fun ox oy => rfl⟩
  · obtain ⟨h1, h2⟩ := h
    obtain ⟨e, h3⟩ := hp h1
    refine ⟨_, h2, fun w G vx vy rx ry => ?_⟩
    cases rx
    obtain ⟨rfl, _⟩ := repA_raw.1 ry
    exact ⟨_, run_neq rfl (equal_some_nil h3 _ w), .p _ _ (.bool _), fun ox oy => rfl⟩
  · obtain ⟨h1, h2⟩ := h
    obtain ⟨e, h3⟩ := hp h1
    refine ⟨_, h2, fun w G vx vy rx ry => ?_⟩
    have rx := repA_p.1 rx
    cases rx
    obtain ⟨rfl, _⟩ := repA_raw.1 ry
    exact ⟨_, run_eql rfl (equal_some_nil h3 _ w), .p _ _ (.bool _), fun ox oy => rfl⟩
  · obtain ⟨h1, h2⟩ := h
    obtain ⟨e, h3⟩ := hp h1
    refine ⟨_, h2, fun w G vx vy rx ry => ?_⟩
    have rx := repA_p.1 rx
    cases rx
    obtain ⟨rfl, _⟩ := repA_raw.1 ry
    exact ⟨_, run_neq rfl (equal_some_nil h3 _ w), .p _ _ (.bool _), fun ox oy => rfl⟩
  · exact h.elim

theorem equal_nilS {t e : TypeId} (h : P.underlying t = some (.slice e)) (c : Nat) (w : World) : (Op.equal t (.slice none 0 c) (.slice none 0 0)).run P w = .ok true w := by
  show (Op.equalIn (9999 + 1) t (.slice none 0 c) (.slice none 0 0)).run P w = _
  unfold Op.equalIn
  rw [Sem.run_bind, run_underlying' h]
  rfl

theorem equal_someS {t e : TypeId} (h : P.underlying t = some (.slice e)) (a : Addr) (n c : Nat) (w : World) : (Op.equal t (.slice (some a) n c) (.slice none 0 0)).run P w = .ok false w := by
  show (Op.equalIn (9999 + 1) t (.slice (some a) n c) (.slice none 0 0)).run P w = _
  unfold Op.equalIn
  rw [Sem.run_bind, run_underlying' h]
  rfl

theorem nil_sound {t : TypeId} {op : BinOp} {x : AV} {K : AV → Prop} (h : aNil (isSlT P t) op x K) :
    ∃ r, K r ∧ ∀ (w : World) (G : Gh) (vx : Value), RepA G x vx → ∃ v, (binOp op t vx (.slice none 0 0)).run P w = .ok v w ∧ RepA G r v ∧ (∀ ox oy, (eqGuard op t ox oy vx (.slice none 0 0)).run P w = .ok () w) := by
  have hs : isSlT P t = true → ∃ e, P.underlying t = some (.slice e) := by
    unfold isSlT; split <;> simp_all
  unfold aNil at h
  split at h
  · obtain ⟨h1, h2⟩ := h
    obtain ⟨e, h3⟩ := hs h1
    refine ⟨_, h2, fun w G vx rx => ?_⟩
    cases rx
    exact ⟨_, run_eql rfl (equal_nilS h3 _ w), .p _ _ (.bool _), fun ox oy => rfl⟩
  · obtain ⟨h1, h2⟩ := h
    obtain ⟨e, h3⟩ := hs h1
    refine ⟨_, h2, fun w G vx rx => ?_⟩
    cases rx
    exact ⟨_, run_neq rfl (equal_nilS h3 _ w), .p _ _ (.bool _), fun ox oy => rfl⟩
  · obtain ⟨h1, h2⟩ := h
    obtain ⟨e, h3⟩ := hs h1
    refine ⟨_, h2, fun w G vx rx => ?_⟩
    cases rx
    exact ⟨_, run_eql rfl (equal_someS h3 _ _ _ w), .p _ _ (.bool _), fun ox oy => rfl⟩
  · obtain ⟨h1, h2⟩ := h
    obtain ⟨e, h3⟩ := hs h1
    refine ⟨_, h2, fun w G vx rx => ?_⟩
    cases rx
    exact ⟨_, run_neq rfl (equal_someS h3 _ _ _ w), .p _ _ (.bool _), fun ox oy => rfl⟩
  · exact h.elim

theorem bin_sound {t : TypeId} {op : BinOp} {x y : AV} {K : AV → Prop} (h : aBin (isBoolT P t) (isPtrT P t) op x y K) :
    ∃ r, K r ∧ ∀ (w : World) (G : Gh) (vx vy : Value), RepA G x vx → RepA G y vy → ∃ v, (binOp op t vx vy).run P w = .ok v w ∧ RepA G r v ∧ (∀ ox oy, (eqGuard op t ox oy vx vy).run P w = .ok () w) := by
  have int : ∀ {op k k' a b}, (op = .shl ∨ op = .shr ∨ k = k') → intBin op k a b K → ∃ r, K r ∧ ∀ (w : World) (G : Gh) (vx vy : Value), RepA G (.p (.int k a)) vx → RepA G (.p (.int k' b)) vy →
      ∃ v, (binOp op t vx vy).run P w = .ok v w ∧ RepA G r v ∧ (∀ ox oy, (eqGuard op t ox oy vx vy).run P w = .ok () w) := by
    intro op k k' a b hk hi
    obtain ⟨r, hr, hrun⟩ := intBin_sound (P := P) (t := t) hi
    refine ⟨r, hr, fun w G vx vy rx ry => ?_⟩
    obtain rfl := repA_int.1 rx
    obtain rfl := repA_int.1 ry
    obtain ⟨v, h1, h2⟩ := hrun w G
    refine ⟨v, ?_, h2, fun ox oy => by cases op <;> simp [eqGuard]⟩
    rcases hk with rfl | rfl | rfl
    · simp only [binOp, Op.shift] at h1 ⊢; exact h1
    · simp only [binOp, Op.shift] at h1 ⊢; exact h1
    · exact h1
  unfold aBin at h
  split at h
  · split at h
    · exact int (.inl rfl) h
    · exact int (.inr (.inl rfl)) h
    · exact int (.inr (.inr h.1)) h.2
  · obtain ⟨r, hr, hrun⟩ := strBin_sound (P := P) (t := t) h
    refine ⟨r, hr, fun w G vx vy rx ry => ?_⟩
    obtain ⟨rfl, _⟩ := repA_str.1 rx
    obtain ⟨rfl, _⟩ := repA_str.1 ry
    obtain ⟨v, h1, h2⟩ := hrun w G
    exact ⟨v, h1, h2, fun ox oy => by cases op <;> simp [eqGuard]⟩
  · exact eqBin_sound h

theorem un_sound {op : UnOp} {x : AV} {K : AV → Prop} (h : aUn op x K) :
    ∃ r, K r ∧ ∀ (w : World) (G : Gh) (vx : Value), RepA G x vx → ∃ v, (Op.unary op vx).run P w = .ok v w ∧ RepA G r v := by
  unfold aUn at h
  split at h
  · exact ⟨_, h, fun w G vx rx => by obtain rfl := repA_int.1 rx; exact ⟨_, rfl, .p _ _ (.int _ _)⟩⟩
  · exact ⟨_, h, fun w G vx rx => by obtain rfl := repA_int.1 rx; exact ⟨_, rfl, .p _ _ (.int _ _)⟩⟩
  · exact ⟨_, h, fun w G vx rx => by obtain rfl := repA_bool.1 rx; exact ⟨_, rfl, .p _ _ (.bool _)⟩⟩
  · exact h.elim

end Go.Abs
