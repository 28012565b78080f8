/- The names that last, of a job's nodes; whose are alike. No program in sight. -/
import Derived.Test.YtijnpcociedigaaGreatDoorZPuUidQ
import Derived.Test.YtijnpcociedigaaGreatDoorZSpRowGQ
set_option linter.unusedSimpArgs false
set_option linter.unusedVariables false
namespace Go.Proofs.YtijnpcociedigaaGreatDoor
open Go Go.Abs

theorem dec_dig (u : Nat) : ∀ c ∈ Lib.decDigits u, 48 ≤ c.toNat ∧ c.toNat ≤ 57 := by
  induction u using Nat.strongRecOn with
  | ind u ih =>
    intro c hc
    rw [Lib.decDigits] at hc
    split at hc
    · rename_i h
      simp at hc; subst hc
      have : (48 + u) % 256 = 48 + u := by omega
      simp [this]; omega
    · rename_i h
      rw [List.mem_append] at hc
      rcases hc with hc | hc
      · exact ih (u / 10) (by omega) c hc
      · simp at hc; subst hc
        have : (48 + u % 10) % 256 = 48 + u % 10 := by omega
        simp [this]; omega

theorem dec_ne (u : Nat) : Lib.decDigits u ≠ [] := by
  rw [Lib.decDigits]; split <;> simp

theorem dec_inj : ∀ u v : Nat, Lib.decDigits u = Lib.decDigits v → u = v := by
  intro u
  induction u using Nat.strongRecOn with
  | ind u ih =>
    intro v h
    have hd : ∀ a b : Nat, a < 10 → b < 10 → UInt8.ofNat (48 + a) = UInt8.ofNat (48 + b) → a = b := by
      intro a b ha hb e
      have := congrArg UInt8.toNat e
      have h1 : (48 + a) % 256 = 48 + a := by omega
      have h2 : (48 + b) % 256 = 48 + b := by omega
      simp [h1, h2] at this
      exact this
    rw [Lib.decDigits] at h
    conv at h => rhs; rw [Lib.decDigits]
    split at h <;> split at h
    · rename_i a b
      simp only [List.cons.injEq, and_true] at h
      exact hd _ _ a b h
    · exfalso
      have := congrArg List.length h
      have hn := List.length_pos_iff.2 (dec_ne (v / 10))
      simp only [List.length_append, List.length_cons, List.length_nil] at this; omega
    · exfalso
      have := congrArg List.length h
      have hn := List.length_pos_iff.2 (dec_ne (u / 10))
      simp only [List.length_append, List.length_cons, List.length_nil] at this; omega
    · rename_i a b
      obtain ⟨h1, h2⟩ := List.append_inj' h rfl
      simp only [List.cons.injEq, and_true] at h2
      have e1 := ih (u / 10) (by omega) (v / 10) h1
      have e2 := hd _ _ (by omega) (by omega) h2
      omega

/-- A node's name, without what tells it from alike ones, by the names of the nodes ahead. -/
def baseU (n : Nd) (out : List (List UInt8)) : List UInt8 :=
  if n.uid = [] then 97 :: 58 :: (Lib.itoa n.op.k ++ 58 :: (n.op.name ++ 40 :: (TJ.join [44] (n.ins.map fun i => out.getD i.toNat []) ++ [41]))) else 117 :: 58 :: n.uid
def sufU (k : Nat) : List UInt8 := if k = 0 then [] else 35 :: Lib.decDigits k
def fullU (s : List UInt8) (k : Nat) : List UInt8 := s ++ sufU k
def idsGo (out bare : List (List UInt8)) : List Nd → List (List UInt8) × List (List UInt8)
  | [] => (out, bare)
  | n :: r => idsGo (out ++ [fullU (baseU n out) (bare.count (baseU n out))]) (bare ++ [baseU n out]) r
/-- The names of all. -/
def idsU (g : List Nd) : List (List UInt8) := (idsGo [] [] g).1
def bareU (g : List Nd) : List (List UInt8) := (idsGo [] [] g).2

theorem idsGo_app : ∀ (a b : List Nd) (o r : List (List UInt8)), idsGo o r (a ++ b) = idsGo (idsGo o r a).1 (idsGo o r a).2 b
  | [], b, o, r => rfl
  | n :: a, b, o, r => by simp only [List.cons_append, idsGo]; exact idsGo_app a b _ _
theorem idsGo_len : ∀ (a : List Nd) (o r : List (List UInt8)), (idsGo o r a).1.length = o.length + a.length ∧ (idsGo o r a).2.length = r.length + a.length
  | [], o, r => ⟨rfl, rfl⟩
  | n :: a, o, r => by
    have := idsGo_len a (o ++ [fullU (baseU n o) (r.count (baseU n o))]) (r ++ [baseU n o])
    simp only [idsGo, List.length_append, List.length_cons, List.length_nil] at this ⊢
    omega
theorem idsGo_pre : ∀ (a : List Nd) (o r : List (List UInt8)), (∃ x, (idsGo o r a).1 = o ++ x) ∧ ∃ y, (idsGo o r a).2 = r ++ y
  | [], o, r => ⟨⟨[], by simp [idsGo]⟩, [], by simp [idsGo]⟩
  | n :: a, o, r => by
    obtain ⟨⟨x, hx⟩, y, hy⟩ := idsGo_pre a (o ++ [fullU (baseU n o) (r.count (baseU n o))]) (r ++ [baseU n o])
    exact ⟨⟨_, by rw [idsGo, hx, List.append_assoc]⟩, _, by rw [idsGo, hy, List.append_assoc]⟩
@[simp] theorem idsU_length (g : List Nd) : (idsU g).length = g.length := by simpa [idsU] using (idsGo_len g [] []).1
@[simp] theorem bareU_length (g : List Nd) : (bareU g).length = g.length := by simpa [bareU] using (idsGo_len g [] []).2
theorem idsU_take (g : List Nd) (i : Nat) : idsU (g.take i) = (idsU g).take i ∧ bareU (g.take i) = (bareU g).take i := by
  rcases Nat.le_total i g.length with hi | hi
  · have h := idsGo_app (g.take i) (g.drop i) [] []
    rw [List.take_append_drop] at h
    obtain ⟨⟨x, hx⟩, y, hy⟩ := idsGo_pre (g.drop i) (idsGo [] [] (g.take i)).1 (idsGo [] [] (g.take i)).2
    have l1 := (idsGo_len (g.take i) [] []).1
    have l2 := (idsGo_len (g.take i) [] []).2
    simp only [List.length_nil, Nat.zero_add, List.length_take, Nat.min_eq_left hi] at l1 l2
    unfold idsU bareU
    rw [h, hx, hy]
    exact ⟨(List.take_left' l1).symm, (List.take_left' l2).symm⟩
  · rw [List.take_of_length_le hi, List.take_of_length_le (by simpa using hi), List.take_of_length_le (by simpa using hi)]
    exact ⟨rfl, rfl⟩
/-- One name more. -/
theorem idsU_next {g : List Nd} {i : Nat} (h : i < g.length) :
    (idsU g).take (i + 1) = (idsU g).take i ++ [fullU (baseU g[i] ((idsU g).take i)) (((bareU g).take i).count (baseU g[i] ((idsU g).take i)))] ∧ (bareU g).take (i + 1) = (bareU g).take i ++ [baseU g[i] ((idsU g).take i)] := by
  rw [← (idsU_take g i).1, ← (idsU_take g i).2, ← (idsU_take g (i + 1)).1, ← (idsU_take g (i + 1)).2]
  rw [show g.take (i + 1) = g.take i ++ [g[i]] by rw [List.take_succ_eq_append_getElem h]]
  unfold idsU bareU
  rw [idsGo_app]
  exact ⟨rfl, rfl⟩

/-- Jobs whose names are told apart. -/
structure GoodU (g : List Nd) : Prop where
  ins : ∀ k (hk : k < g.length), ∀ i ∈ g[k].ins, 0 ≤ i ∧ i < k
  uid : ∀ i k (hi : i < k) (hk : k < g.length), g[k].uid ≠ [] → g[i].uid ≠ g[k].uid
  nam : ∀ k (hk : k < g.length), ∀ c ∈ g[k].op.name, plainB c = true
  uidp : ∀ k (hk : k < g.length), ∀ c ∈ g[k].uid, plainB c = true

/-- The name at a place; without its number. -/
abbrev idAt (g : List Nd) (k : Nat) : List UInt8 := (idsU g).getD k []
abbrev bareAt (g : List Nd) (k : Nat) : List UInt8 := (bareU g).getD k []

theorem baseU_congr {n m : Nd} {a b : List (List UInt8)} (hu : n.uid = m.uid) (hk : n.op.k = m.op.k) (hn : n.op.name = m.op.name) (hi : n.ins = m.ins) (h : ∀ i ∈ n.ins, a.getD i.toNat [] = b.getD i.toNat []) : baseU n a = baseU m b := by
  unfold baseU
  rw [hu, hk, hn, ← hi, List.map_congr_left h]
theorem getD_take {α : Type} {l : List α} {i j : Nat} {d : α} (h : j < i) : (l.take i).getD j d = l.getD j d := by
  simp [List.getD_eq_getElem?_getD, List.getElem?_take, h]

theorem bare_at {g : List Nd} (G : GoodU g) {k : Nat} (hk : k < g.length) : bareAt g k = baseU g[k] (idsU g) := by
  have h := (idsU_next hk).2
  have e : ((bareU g).take (k + 1)).getD k [] = bareAt g k := getD_take (Nat.lt_succ_self k)
  rw [h] at e
  have l : ((bareU g).take k).length = k := by simp; omega
  rw [← e]
  rw [List.getD_eq_getElem?_getD, List.getElem?_append_right (by omega), l]
  simp only [Nat.sub_self, List.getElem?_cons_zero, Option.getD_some]
  exact baseU_congr rfl rfl rfl rfl (fun i hi => getD_take (by have := G.ins k hk i hi; omega))
theorem id_at {g : List Nd} (G : GoodU g) {k : Nat} (hk : k < g.length) : idAt g k = fullU (bareAt g k) (((bareU g).take k).count (bareAt g k)) := by
  have h := (idsU_next hk).1
  have e : ((idsU g).take (k + 1)).getD k [] = idAt g k := getD_take (Nat.lt_succ_self k)
  have hb : baseU g[k] ((idsU g).take k) = bareAt g k := by
    rw [bare_at G hk]
    exact baseU_congr rfl rfl rfl rfl (fun i hi => getD_take (by have := G.ins k hk i hi; omega))
  rw [h, hb] at e
  have l : ((idsU g).take k).length = k := by simp; omega
  rw [← e]
  rw [List.getD_eq_getElem?_getD, List.getElem?_append_right (by omega), l]
  simp

theorem id_uid {g : List Nd} (G : GoodU g) {k : Nat} (hk : k < g.length) (hu : g[k].uid ≠ []) : idAt g k = 117 :: 58 :: g[k].uid := by
  have hb : bareAt g k = 117 :: 58 :: g[k].uid := by rw [bare_at G hk, baseU, if_neg hu]
  rw [id_at G hk, hb, fullU, sufU, if_pos, List.append_nil]
  rw [List.count_eq_zero]
  intro hm
  obtain ⟨j, hj, e⟩ := List.mem_iff_getElem.1 hm
  have hjk : j < k := by simp at hj; omega
  have e2 : bareAt g j = 117 :: 58 :: g[k].uid := by
    rw [← e]
    simp [bareAt, show j < g.length by omega]
  rw [bare_at G (by omega), baseU] at e2
  split at e2
  · simp at e2
  · simp at e2
    exact G.uid j k hjk hk hu e2

theorem sufU_plain (k : Nat) : ∀ c ∈ sufU k, plainB c = true := by
  intro c hc
  unfold sufU at hc
  split at hc
  · simp at hc
  · rcases List.mem_cons.1 hc with rfl | hc
    · decide
    · have := dec_dig k c hc
      simp only [plainB, Bool.and_eq_true, decide_eq_true_eq]
      refine ⟨⟨?_, ?_⟩, ?_⟩ <;> (rintro rfl; simp at this)
theorem sufU_inj {a b : Nat} (h : sufU a = sufU b) : a = b := by
  unfold sufU at h
  split at h <;> split at h
  · omega
  · simp at h
  · simp at h
  · simp only [List.cons.injEq, true_and] at h
    exact dec_inj _ _ h
theorem itoa_plain (n : Int) : ∀ c ∈ Lib.itoa n, plainB c = true := by
  have hd : ∀ u : Nat, ∀ c ∈ Lib.decDigits u, plainB c = true := by
    intro u c hc
    have := dec_dig u c hc
    simp only [plainB, Bool.and_eq_true, decide_eq_true_eq]
    refine ⟨⟨?_, ?_⟩, ?_⟩ <;> (rintro rfl; simp at this)
  intro c hc
  unfold Lib.itoa at hc
  split at hc
  · rcases List.mem_cons.1 hc with rfl | hc
    · decide
    · exact hd _ c hc
  · exact hd _ c hc

theorem cut_last : ∀ {x y p q : List UInt8}, x ++ 41 :: p = y ++ 41 :: q → 41 ∉ p → 41 ∉ q → x = y ∧ p = q
  | [], [], p, q, h, _, _ => by simpa using h
  | [], c :: y, p, q, h, hp, _ => by
    simp at h
    exact absurd (by rw [h.2]; simp) hp
  | c :: x, [], p, q, h, _, hq => by
    simp at h
    exact absurd (by rw [← h.2]; simp) hq
  | c :: x, d :: y, p, q, h, hp, hq => by
    simp only [List.cons_append, List.cons.injEq] at h
    obtain ⟨h1, h2⟩ := cut_last h.2 hp hq
    exact ⟨by rw [h.1, h1], h2⟩

theorem base_end {n : Nd} {out : List (List UInt8)} (h : n.uid = []) : ∃ x, baseU n out = 97 :: x ++ [41] := by
  refine ⟨58 :: (Lib.itoa n.op.k ++ 58 :: (n.op.name ++ 40 :: TJ.join [44] (n.ins.map fun i => out.getD i.toNat []))), ?_⟩
  rw [baseU, if_pos h]
  simp

theorem id_full {g : List Nd} (G : GoodU g) {k : Nat} (hk : k < g.length) (h : g[k].uid = []) : ∃ c, idAt g k = baseU g[k] (idsU g) ++ sufU c :=
  ⟨_, by rw [id_at G hk, fullU, bare_at G hk]⟩

theorem id_head {g : List Nd} (G : GoodU g) {k : Nat} (hk : k < g.length) : (g[k].uid = [] → ∃ x, idAt g k = 97 :: x) ∧ (g[k].uid ≠ [] → ∃ x, idAt g k = 117 :: x) := by
  refine ⟨fun h => ?_, fun h => ⟨_, id_uid G hk h⟩⟩
  obtain ⟨c, e⟩ := id_full G hk h
  obtain ⟨x, e2⟩ := base_end (out := idsU g) h
  exact ⟨_, by rw [e, e2]; rfl⟩

/-- No two are alike. -/
theorem ids_apart {g : List Nd} (G : GoodU g) {i k : Nat} (hik : i < k) (hk : k < g.length) : idAt g i ≠ idAt g k := by
  intro he
  have hi : i < g.length := by omega
  by_cases h1 : g[i].uid = []
  · by_cases h2 : g[k].uid = []
    · rw [id_at G hi, id_at G hk] at he
      obtain ⟨x, ex⟩ := base_end (out := idsU g) h1
      obtain ⟨y, ey⟩ := base_end (out := idsU g) h2
      rw [← bare_at G hi] at ex
      rw [← bare_at G hk] at ey
      have no : ∀ c, (41 : UInt8) ∉ sufU c := fun c hm => by have := sufU_plain c _ hm; simp [plainB] at this
      have hb : bareAt g i = bareAt g k ∧ ((bareU g).take i).count (bareAt g i) = ((bareU g).take k).count (bareAt g k) := by
        unfold fullU at he
        generalize ((bareU g).take i).count (bareAt g i) = a at *
        generalize ((bareU g).take k).count (bareAt g k) = b at *
        rw [ex, ey] at he ⊢
        simp only [List.append_assoc] at he
        obtain ⟨r1, r2⟩ := cut_last he (no _) (no _)
        exact ⟨by rw [r1], sufU_inj r2⟩
      obtain ⟨hb, hc⟩ := hb
      rw [← hb] at hc
      have hn : (bareU g).take (i + 1) = (bareU g).take i ++ [bareAt g i] := by
        rw [List.take_succ_eq_append_getElem (by simpa using hi)]
        simp [bareAt, hi]
      have hs : ((bareU g).take (i + 1)).count (bareAt g i) ≤ ((bareU g).take k).count (bareAt g i) := by
        have : (bareU g).take (i + 1) = ((bareU g).take k).take (i + 1) := by rw [List.take_take, Nat.min_eq_left (by omega)]
        rw [this]
        exact List.Sublist.count_le _ (List.take_sublist _ _)
      rw [hn, List.count_append, List.count_singleton_self] at hs
      omega
    · obtain ⟨x, ex⟩ := (id_head G hi).1 h1
      obtain ⟨y, ey⟩ := (id_head G hk).2 h2
      rw [ex, ey] at he
      simp at he
  · by_cases h2 : g[k].uid = []
    · obtain ⟨x, ex⟩ := (id_head G hi).2 h1
      obtain ⟨y, ey⟩ := (id_head G hk).1 h2
      rw [ex, ey] at he
      simp at he
    · rw [id_uid G hi h1, id_uid G hk h2] at he
      simp at he
      exact G.uid i k hik hk h2 he

/-- A name has its brackets closed. -/
theorem id_bal {g : List Nd} (G : GoodU g) : ∀ k, k < g.length → Bal (idAt g k) := by
  intro k
  induction k using Nat.strongRecOn with
  | ind k ih =>
    intro hk
    by_cases hu : g[k].uid = []
    · obtain ⟨c, e⟩ := id_full G hk hu
      rw [e]
      refine bal_app ?_ (bal_plain _ (sufU_plain c))
      rw [baseU, if_pos hu]
      have hj : BalC (TJ.join [44] (g[k].ins.map fun i => (idsU g).getD i.toNat [])) := by
        refine balC_join _ (fun w hw => ?_)
        obtain ⟨i, hi, rfl⟩ := List.mem_map.1 hw
        have := G.ins k hk i hi
        exact ih i.toNat (by omega) (by omega)
      have hb := bal_br hj
      have e1 : (97 : UInt8) :: 58 :: (Lib.itoa g[k].op.k ++ 58 :: (g[k].op.name ++ 40 :: (TJ.join [44] (g[k].ins.map fun i => (idsU g).getD i.toNat []) ++ [41]))) = (97 :: 58 :: (Lib.itoa g[k].op.k ++ 58 :: g[k].op.name)) ++ (40 :: (TJ.join [44] (g[k].ins.map fun i => (idsU g).getD i.toNat []) ++ [41])) := by simp
      rw [e1]
      refine bal_app (bal_plain _ (fun c hc => ?_)) hb
      simp only [List.mem_cons, List.mem_append] at hc
      rcases hc with rfl | rfl | hc | rfl | hc
      · decide
      · decide
      · exact itoa_plain _ c hc
      · decide
      · exact G.nam k hk c hc
    · rw [id_uid G hk hu]
      refine bal_plain _ (fun c hc => ?_)
      rcases List.mem_cons.1 hc with rfl | hc
      · decide
      rcases List.mem_cons.1 hc with rfl | hc
      · decide
      · exact G.uidp k hk c hc

/-- Who reads one that has another name has another name. -/
theorem id_differ {g h : List Nd} (G : GoodU g) (H : GoodU h) (hl : h.length = g.length) {j : Nat} (hj : j < g.length) (e : h[j] = g[j]) (hu : g[j].uid = []) {m : Int} (hm : m ∈ g[j].ins) (hne : idAt g m.toNat ≠ idAt h m.toNat) : idAt g j ≠ idAt h j := by
  intro he
  have hjh : j < h.length := by omega
  have hu2 : h[j].uid = [] := by rw [e]; exact hu
  obtain ⟨c, ec⟩ := id_full G hj hu
  obtain ⟨d, ed⟩ := id_full H hjh hu2
  rw [ec, ed, e, baseU, if_pos hu, baseU, if_pos hu] at he
  simp only [List.cons_append, List.append_assoc, List.cons.injEq, true_and, List.append_cancel_left_eq] at he
  have hj1 := join_inj _ _ _ _ (by simp) (fun w hw => ?_) (fun w hw => ?_) he
  · have h2 : ∀ i ∈ g[j].ins, (idsU g).getD i.toNat [] = (idsU h).getD i.toNat [] := List.map_inj_left.1 hj1
    exact hne (h2 m hm)
  · obtain ⟨i, hi, rfl⟩ := List.mem_map.1 hw
    have := G.ins j hj i hi
    exact id_bal G i.toNat (by omega)
  · obtain ⟨i, hi, rfl⟩ := List.mem_map.1 hw
    have := G.ins j hj i hi
    exact id_bal H i.toNat (by omega)

end Go.Proofs.YtijnpcociedigaaGreatDoor

