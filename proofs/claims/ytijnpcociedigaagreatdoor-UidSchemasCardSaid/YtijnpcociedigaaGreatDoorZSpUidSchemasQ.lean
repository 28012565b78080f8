/- The document's names that last, over trees; what it says of a node's state. -/
import Derived.Test.YtijnpcociedigaaGreatDoorZSpUidSQ
import Derived.Test.YtijnpcociedigaaGreatDoorZSpOutsQ
import Derived.Test.YtijnpcociedigaaGreatDoorZSpText
import Derived.Test.YtijnpcociedigaaGreatDoorZSpOutOQ
import Derived.Test.YtijnpcociedigaaGreatDoorZSpSmallRQ
import Derived.Test.YtijnpcociedigaaGreatDoorS1

section
/- The document's names that last, over trees; what it says of a node's state. -/
set_option linter.unusedSimpArgs false
set_option linter.unusedVariables false
namespace Go.Proofs.YtijnpcociedigaaGreatDoor
open Go Go.Abs

attribute [local irreducible] Abs.Fn

end Go.Proofs.YtijnpcociedigaaGreatDoor
end

section
/- Jobs that may be: their names, their types, alike in the program and in the document. -/
set_option linter.unusedSimpArgs false
set_option linter.unusedVariables false
namespace Go.Proofs.YtijnpcociedigaaGreatDoor
open Go Go.Abs

theorem ckO_valid {t : Ty} : ∀ {es : List Ex} {ts : List Ty}, ckO t es = .ok ts → ts.length = es.length ∧ ∀ u ∈ ts, checkT u 0 = 0
  | [], ts, h => by
    simp only [ckO, R.ok.injEq] at h
    subst h
    simp
  | e :: r, ts, h => by
    simp only [ckO] at h
    split at h
    · simp at h
    · rename_i u hu
      split at h
      · simp at h
      · rename_i l hl
        simp only [R.ok.injEq] at h
        subst h
        obtain ⟨h1, h2⟩ := ckO_valid hl
        refine ⟨by simp [h1], fun v hv => ?_⟩
        rcases List.mem_cons.1 hv with rfl | hv
        · exact checkE_valid hu
        · exact h2 v hv

theorem getD_valid {l : List Ty} (h : ∀ u ∈ l, checkT u 0 = 0) (hl : 0 < l.length) : checkT (l.getD 0 (.mk 0 [])) 0 = 0 := by
  cases l with
  | nil => simp at hl
  | cons a r => exact h a (by simp)

/-- What the document lets out the program lets out. -/
theorem outP_of {o : Opr} {ins : List Ty} {t : Ty} (h : outO o ins = .ok t) : outP o ins = .ok t := by
  unfold outO at h
  unfold outP
  by_cases h1 : o.k < 1 ∨ 9 < o.k
  · rw [if_pos h1] at h; simp at h
  rw [if_neg h1] at h ⊢
  by_cases h2 : (o.k = 1 ∨ o.k = 9) ∧ nameS o.name = false
  · rw [if_pos h2] at h; simp at h
  rw [if_neg h2] at h ⊢
  by_cases h3 : fieldsO o = false ∨ insO o.k ins.length = false
  · rw [if_pos h3] at h; simp at h
  rw [if_neg h3] at h ⊢
  have hf : fieldsO o = true := by cases hh : fieldsO o <;> simp_all
  have hi : insO o.k ins.length = true := by cases hh : insO o.k ins.length <;> simp_all
  by_cases h4 : ins.any (fun t => decide (checkT t 0 ≠ 0)) = true
  · rw [if_pos h4] at h; simp at h
  rw [if_neg h4] at h
  have hv : ∀ u ∈ ins, checkT u 0 = 0 := by
    intro u hu
    by_cases hz : checkT u 0 = 0
    · exact hz
    · exact absurd (List.any_eq_true.2 ⟨u, hu, by simpa using hz⟩) h4
  by_cases h5 : o.k = 1
  · rw [if_pos h5] at h
    split at h
    · simp at h
    · rename_i ht
      have ht := Classical.not_not.1 ht
      rw [if_neg (by simp only [not_or, not_and]; exact ⟨h4, fun _ => Classical.not_not.2 ht⟩)]
      have hk : keyedO o.k = false := by simp [keyedO, h5]
      have hes : o.es = [] := (fieldsO_len hf).2.2 (by omega) (by omega)
      simp only [hk, hes, ckO, Bool.false_eq_true, if_false]
      have hfit : fitsO o [] ins = true := by simp [fitsO, h5]
      have hg : goesO o noT [] ins = o.t := by simp [goesO, h5]
      rw [lastO, hfit, hg, if_neg (by simp), if_neg (by simpa using ht)]
      exact h
  · rw [if_neg h5] at h
    rw [if_neg (by simp only [not_or, not_and]; exact ⟨h4, fun e => absurd e h5⟩)]
    split at h
    · simp at h
    · rename_i key hkey
      have hkey' : (if keyedO o.k = true then checkE o.key (ins.getD 0 noT) else .ok noT) = R.ok key := hkey
      rw [hkey']
      simp only
      have hkv : keyedO o.k = true → checkT key 0 = 0 := by
        intro hk
        rw [if_pos hk] at hkey
        exact checkE_valid hkey
      split at h
      · simp at h
      · rename_i ts hts
        obtain ⟨hl, htv⟩ := ckO_valid hts
        have hts' : ckO (ins.getD 0 noT) o.es = .ok ts := hts
        rw [hts']
        simp only
        unfold madeO at h
        unfold lastO
        have hlen := fieldsO_len hf
        have fin : ∀ u, fitsO o ts ins = true → goesO o key ts ins = u → checkT u 0 = 0 → R.ok u = R.ok t → (if fitsO o ts ins = false then R.er 5 else if checkT (goesO o key ts ins) 0 ≠ 0 then .er (checkT (goesO o key ts ins) 0) else .ok (goesO o key ts ins)) = R.ok t := by
          intro u a b c d
          rw [a, b, if_neg (by simp), if_neg (by simpa using c)]
          exact d
        have hn : (∀ k, noT = Ty.mk k [] → k = 0) := fun k e => by simp only [noT, Ty.mk.injEq] at e; exact e.1.symm
        by_cases k2 : o.k = 2
        · rw [if_pos k2] at h
          exact fin _ (by simp [fitsO, k2]) (by simp only [goesO]; rw [if_neg h5, if_pos (.inl k2)]; rfl) (getD_valid htv (by have := hlen.1 (by omega); omega)) h
        rw [if_neg k2] at h
        by_cases k3 : o.k = 3
        · rw [if_pos k3] at h
          split at h
          · rename_i hb
            have hb' : (ts.getD 0 noT).kind = 2 := hb
            refine fin _ (by simp only [fitsO]; rw [if_pos k3]; simpa using hb') (by simp only [goesO]; rw [if_neg h5, if_neg (by omega), if_neg (by omega), if_neg (by omega)]; rfl) (getD_valid hv ?_) h
            simp [insO, k3] at hi
            omega
          · simp at h
        rw [if_neg k3] at h
        by_cases k4 : o.k = 4
        · rw [if_pos k4] at h
          split at h
          · rename_i hb
            have hb' : ts.all (fun t => sameT t (ts.getD 0 noT)) = true := hb
            exact fin _ (by simp only [fitsO]; rw [if_neg k3, if_pos k4]; exact hb') (by simp only [goesO]; rw [if_neg h5, if_pos (.inr k4)]; rfl) (getD_valid htv (by have := (hlen.2.1 k4).1; omega)) h
          · simp at h
        rw [if_neg k4] at h
        by_cases k56 : o.k = 5 ∨ o.k = 6
        · rw [if_pos k56] at h
          split at h
          · simp at h
          · rename_i hb
            split at h
            · simp at h
            · rename_i hc
              have hc := Classical.not_not.1 hc
              refine fin _ ?_ (by simp only [goesO]; rw [if_neg h5, if_neg (by omega), if_pos k56]) hc h
              simp only [fitsO]
              rw [if_neg k3, if_neg k4]
              by_cases k5 : o.k = 5
              · rw [if_pos k5]
                have : (ts.getD 0 noT).kind = 1 := Classical.not_not.1 fun hne => hb ⟨k5, hne⟩
                simpa using this
              · rw [if_neg k5, if_neg (by omega)]
        rw [if_neg k56] at h
        by_cases k7 : o.k = 7
        · rw [if_pos k7] at h
          exact fin _ (by simp only [fitsO]; rw [if_neg k3, if_neg k4, if_neg (by omega), if_neg (by omega)]) (by simp only [goesO]; rw [if_neg h5, if_neg (by omega), if_neg k56, if_pos k7]) (hkv (by simp [keyedO, k7])) h
        rw [if_neg k7] at h
        by_cases k8 : o.k = 8
        · rw [if_pos k8] at h
          split at h
          · rename_i hb
            have hb' : ins.all (fun t => sameT t (ins.getD 0 noT)) = true := hb
            refine fin _ (by simp only [fitsO]; rw [if_neg k3, if_neg k4, if_neg (by omega), if_pos k8]; exact hb') (by simp only [goesO]; rw [if_neg h5, if_neg (by omega), if_neg k56, if_neg k7]; rfl) (getD_valid hv ?_) h
            simp [insO, k8] at hi
            omega
          · simp at h
        rw [if_neg k8] at h
        refine fin _ (by simp only [fitsO]; rw [if_neg k3, if_neg k4, if_neg (by omega), if_neg k8]) (by simp only [goesO]; rw [if_neg h5, if_neg (by omega), if_neg k56, if_neg k7]; rfl) (getD_valid hv ?_) h
        simp [insO, h5, k8] at hi
        omega

/-- What a node has that may be. -/
structure OkG (ahead : List Nd) (ts : List Ty) (n : Nd) : Prop where
  uid : n.uid ≠ [] → nameS n.uid = true
  grp : nameS n.grp = true
  twice : n.uid ≠ [] → ahead.any (fun o => decide (o.uid = n.uid)) = false
  par : 1 ≤ n.par ∧ n.par ≤ 4 ∧ n.par ≤ n.mx ∧ n.mx ≤ 16
  seen : seenIn ahead [] n.ins = true
  wt : wtN (wtsG [] ahead) n ≤ 64
  out : ∃ t, outO n.op (n.ins.map (fun i => ts.getD i.toNat (.mk 0 []))) = .ok t
  name : (n.op.k = 1 ∨ n.op.k = 9) → ahead.any (fun o => decide (o.op.k = n.op.k) && decide (o.op.name = n.op.name)) = false

theorem okG_of {ahead : List Nd} {ts : List Ty} {n : Nd} (h : nodeG ahead ts n = 0) : OkG ahead ts n := by
  have hs := nodeG_seen h
  unfold nodeG at h
  split at h
  · simp at h
  rename_i h1
  split at h
  · simp at h
  rename_i h2
  split at h
  · simp at h
  rename_i h3
  split at h
  · simp at h
  rename_i h4
  cases ho : outO n.op (n.ins.map (fun i => ts.getD i.toNat (.mk 0 []))) with
  | er e =>
    rw [ho] at h
    exact absurd h (outO_er ho)
  | ok t =>
    rw [ho] at h
    simp only [lastG] at h
    split at h
    · simp at h
    rename_i h5
    split at h
    · simp at h
    rename_i h6
    refine ⟨fun hu => ?_, ?_, fun hu => ?_, by omega, hs, by omega, ⟨t, ho⟩, fun hk => ?_⟩
    · cases hh : nameS n.uid
      · exact absurd (.inl ⟨hu, hh⟩) h1
      · rfl
    · cases hh : nameS n.grp
      · exact absurd (.inr hh) h1
      · rfl
    · rw [Bool.eq_false_iff]; exact fun e => h2 ⟨hu, e⟩
    · rw [Bool.eq_false_iff]; exact fun e => h6 ⟨hk, e⟩

theorem goR_ok : ∀ (r ahead : List Nd), goR ahead r = none → ∀ k (hk : k < r.length), OkG (ahead ++ r.take k) (typesR [] (ahead ++ r.take k)) r[k]
  | [], ahead, h, k, hk => by simp at hk
  | n :: r, ahead, h, k, hk => by
    rw [goR] at h
    split at h
    · simp at h
    · rename_i h0
      have h1 : nodeG ahead (typesR [] ahead) n = 0 := by omega
      cases k with
      | zero => simpa using okG_of h1
      | succ k =>
        have := goR_ok r _ h k (by simpa using hk)
        simpa using this

theorem okG_all {g : List Nd} (h : (checkR g).2 = 0) : g ≠ [] ∧ goR [] g = none ∧ ∀ k (hk : k < g.length), OkG (g.take k) (typesR [] (g.take k)) g[k] := by
  have hn : goR [] g = none := by
    have G := h
    unfold checkR at G
    split at G
    · simp at G
    split at G
    · simp at G
    rename_i h1 h2
    cases hg : goR [] g with
    | none => rfl
    | some p =>
      obtain ⟨i, e⟩ := p
      rw [hg] at G
      simp only at G
      exfalso
      have : ∀ (r ahead : List Nd), goR ahead r = some (i, e) → e ≠ 0 := by
        intro r
        induction r with
        | nil => intro a h; simp [goR] at h
        | cons n r ih =>
          intro a h
          rw [goR] at h
          split at h
          · rename_i h0; simp at h; omega
          · exact ih _ h
      exact this g [] hg G
  refine ⟨fun e => ?_, hn, fun k hk => by simpa using goR_ok g [] hn k hk⟩
  subst e
  simp [checkR] at h

/-- What is wrong with a node of which nothing is. -/
theorem nodeN_of {ahead : List Nd} {ts : List Ty} {n : Nd} (h : OkG ahead ts n) : nodeN ahead ts n = ((outO n.op (n.ins.map (fun i => ts.getD i.toNat (.mk 0 [])))).get (.mk 0 []), 0) := by
  obtain ⟨t, ht⟩ := h.out
  have hf := (outO_ok ht).1
  unfold nodeN
  rw [if_neg (by rintro (⟨a, b⟩ | b)
                 · rw [h.uid a] at b; simp at b
                 · rw [h.grp] at b; simp at b), if_neg (by rintro ⟨a, b⟩; rw [h.twice a] at b; simp at b), if_neg (by
    have := h.par
    have := h.seen
    rintro (a | a | a | a | a)
    · omega
    · omega
    · omega
    · omega
    · rw [h.seen] at a; simp at a), outP_of ht, ht]
  simp only [R.get]
  have := h.wt
  rw [if_neg (by omega), if_neg]
  rintro ⟨a, b⟩
  by_cases hk : n.op.k = 1 ∨ n.op.k = 9
  · rw [h.name hk] at b; simp at b
  · simp only [fieldsO, Bool.and_eq_true, Bool.or_eq_true, decide_eq_true_eq] at hf
    rcases hf.1.1.1.1.1 with q | q
    · exact hk q
    · exact a q

theorem goG_of : ∀ (r ahead : List Nd), (∀ k (hk : k < r.length), OkG (ahead ++ r.take k) (typesR [] (ahead ++ r.take k)) r[k]) → goG ahead (typesR [] ahead) r = .ok (typesR [] (ahead ++ r))
  | [], ahead, h => by simp [goG]
  | n :: r, ahead, h => by
    have h0 := h 0 (by simp)
    simp only [List.take_zero, List.append_nil, List.getElem_cons_zero] at h0
    rw [goG, nodeN_of h0]
    simp only [ne_eq, not_true_eq_false, if_false]
    have := goG_of r (ahead ++ [n]) (fun k hk => by
      have := h (k + 1) (by simpa using hk)
      simpa using this)
    rw [typesR_snoc] at this
    rw [this]
    simp

/-- The types of a job that may be. -/
theorem typesG_of {g : List Nd} (h : (checkR g).2 = 0) : typesG g = typesR [] g := by
  have := goG_of g [] (fun k hk => by simpa using (okG_all h).2.2 k hk)
  unfold typesG
  have e : goG [] [] g = .ok (typesR [] g) := by simpa [typesR] using this
  rw [e]

end Go.Proofs.YtijnpcociedigaaGreatDoor
end

section
/- Jobs that may be: what their names and states ask for. -/
set_option linter.unusedSimpArgs false
set_option linter.unusedVariables false
namespace Go.Proofs.YtijnpcociedigaaGreatDoor
open Go Go.Abs

theorem sum_ints (f : Int → Nat) : ∀ (k : Nat) (l : List Int), l.Nodup → (∀ i ∈ l, 0 ≤ i ∧ i < k) → (l.map f).sum ≤ ((List.range k).map fun j : Nat => f (j : Int)).sum
  | 0, l, _, h => by
    cases l with
    | nil => simp
    | cons a l => have := h a (by simp); omega
  | k + 1, l, hn, h => by
    rw [List.range_succ, List.map_append, List.sum_append]
    by_cases hk : (k : Int) ∈ l
    · have hp := List.perm_cons_erase hk
      have e1 : (l.map f).sum = f k + ((l.erase (k : Int)).map f).sum := by
        have := (hp.map f).sum_nat
        simpa using this
      have := sum_ints f k (l.erase (k : Int)) (hn.erase _) (fun i hi => by
        have h1 := h i (List.mem_of_mem_erase hi)
        have h2 : i ≠ (k : Int) := fun e => by subst e; exact (List.Nodup.not_mem_erase hn) hi
        omega)
      simp
      omega
    · have := sum_ints f k l hn (fun i hi => by
        have h1 := h i hi
        have h2 : i ≠ (k : Int) := fun e => hk (e ▸ hi)
        omega)
      omega

theorem join_sum (l : List (List UInt8)) : (TJ.join [44] l).length ≤ (l.map fun x => x.length + 1).sum := by
  have ht : ∀ l : List (List UInt8), (TJ.tail [44] l).length ≤ (l.map fun x => x.length + 1).sum := by
    intro l
    induction l with
    | nil => simp [TJ.tail]
    | cons x r ih => simp only [TJ.tail, List.length_append, List.length_cons, List.length_nil, List.map_cons, List.sum_cons]; omega
  cases l with
  | nil => simp [TJ.join]
  | cons x r =>
    have := ht r
    simp only [TJ.join, List.length_append, List.map_cons, List.sum_cons]
    omega

/-- How long the names ahead are. -/
def idSum (g : List Nd) (k : Nat) : Nat := ((List.range k).map fun j => (idAt g j).length + 1).sum
/-- What a node's name is made of. -/
def SmN (n : Nd) : Prop := n.ins.Nodup ∧ n.uid.length ≤ 16 ∧ n.op.name.length ≤ 16 ∧ I64 n.op.k

theorem base_len {g : List Nd} (G : GoodU g) {k : Nat} (hk : k < g.length) (hd : SmN g[k]) : (baseU g[k] (idsU g)).length ≤ 58 + idSum g k := by
  obtain ⟨h1, h2, h3, h4⟩ := hd
  unfold baseU
  split
  · have hit := itoa_len h4
    have hj := join_sum (g[k].ins.map fun i => (idsU g).getD i.toNat [])
    rw [List.map_map] at hj
    have hs := sum_ints (fun i => (idAt g i.toNat).length + 1) k g[k].ins h1 (G.ins k hk)
    simp only [Int.toNat_natCast] at hs
    have e : ((fun x : List UInt8 => x.length + 1) ∘ fun i : Int => (idsU g).getD i.toNat []) = fun i => (idAt g i.toNat).length + 1 := rfl
    rw [e] at hj
    unfold idSum
    simp only [List.length_cons, List.length_append, List.length_nil]
    omega
  · simp only [List.length_cons]
    omega

/-- Names double in length from node to node at most. -/
theorem id_sum {g : List Nd} (G : GoodU g) (hl : g.length ≤ 1000) (hd : ∀ k (hk : k < g.length), SmN g[k]) : ∀ k, k ≤ g.length → idSum g k + 100 ≤ 100 * 2 ^ k
  | 0, _ => by simp [idSum]
  | k + 1, hk => by
    have ih := id_sum G hl hd k (by omega)
    have hb := base_len G (show k < g.length by omega) (hd k (by omega))
    have e : idSum g (k + 1) = idSum g k + ((idAt g k).length + 1) := by
      unfold idSum
      rw [List.range_succ, List.map_append, List.sum_append]
      simp
    have hi := id_at G (show k < g.length by omega)
    have hcnt : ((bareU g).take k).count (bareAt g k) ≤ 1000 := by
      have h2 : ((bareU g).take k).length ≤ 1000 := by rw [List.length_take, bareU_length]; omega
      exact Nat.le_trans List.count_le_length h2
    have hlen : (idAt g k).length ≤ (baseU g[k] (idsU g)).length + 21 := by
      rw [hi, fullU, bare_at G (show k < g.length by omega), List.length_append]
      have : (sufU (((bareU g).take k).count (bareAt g k))).length ≤ 21 := by
        generalize ((bareU g).take k).count (bareAt g k) = c at *
        unfold sufU
        split
        · simp
        · have hit := itoa_len (n := (c : Int)) (by constructor <;> omega)
          have hit2 : Lib.itoa (c : Int) = Lib.decDigits c := by unfold Lib.itoa; rw [if_neg (by omega)]; simp
          rw [hit2] at hit
          simp only [List.length_cons]
          omega
      rw [bare_at G (show k < g.length by omega)] at this
      omega
    rw [e, Nat.pow_succ]
    omega

theorem base_le {g : List Nd} (G : GoodU g) (hl : g.length ≤ 16) (hd : ∀ k (hk : k < g.length), SmN g[k]) {k : Nat} (hk : k < g.length) : (baseU g[k] (idsU g)).length ≤ 1000000000 := by
  have h1 := base_len G hk (hd k hk)
  have h2 := id_sum G (by omega) hd k (by omega)
  have h3 : 2 ^ k ≤ 2 ^ 16 := Nat.pow_le_pow_right (by omega) (by omega)
  have h4 : (2:Nat) ^ 16 = 65536 := by decide
  omega

theorem nameS_facts {s : List UInt8} (h : nameS s = true) : s.length ≤ 16 ∧ ∀ c ∈ s, plainB c = true := by
  unfold nameS at h
  split at h
  · simp at h
  · rename_i c r
    simp only [Bool.and_eq_true, decide_eq_true_eq, List.all_eq_true] at h
    refine ⟨by simp only [List.length_cons]; omega, fun x hx => ?_⟩
    have := h.2 x hx
    simp only [nameC, Bool.or_eq_true, Bool.and_eq_true, decide_eq_true_eq] at this
    simp only [plainB, Bool.and_eq_true, decide_eq_true_eq]
    refine ⟨⟨?_, ?_⟩, ?_⟩ <;> (rintro rfl; simp at this)

theorem out_name {o : Opr} {ins : List Ty} {t : Ty} (h : outO o ins = .ok t) : (nameS o.name = true ∨ o.name = []) ∧ (o.k = 1 → checkT o.t 0 = 0) := by
  have hf := (outO_ok h).1
  unfold outO at h
  split at h
  · simp at h
  split at h
  · simp at h
  rename_i h2
  split at h
  · simp at h
  split at h
  · simp at h
  refine ⟨?_, fun hk => ?_⟩
  · by_cases hk : o.k = 1 ∨ o.k = 9
    · left
      cases hh : nameS o.name
      · exact absurd ⟨hk, hh⟩ h2
      · rfl
    · right
      simp only [fieldsO, Bool.and_eq_true, Bool.or_eq_true, decide_eq_true_eq] at hf
      rcases hf.1.1.1.1.1 with q | q
      · exact absurd q hk
      · exact q
  · rw [if_pos hk] at h
    split at h
    · simp at h
    · rename_i q; exact Classical.not_not.1 q

theorem fieldsO_nums {o : Opr} (h : fieldsO o = true) : I64 o.f ∧ I64 o.n := by
  simp only [fieldsO, Bool.and_eq_true] at h
  obtain ⟨⟨_, h1⟩, h2⟩ := h
  constructor
  · split at h1 <;> simp at h1 <;> constructor <;> omega
  · split at h2 <;> simp at h2 <;> constructor <;> omega

structure UidF (g : List Nd) : Prop where
  good : GoodU g
  len : g.length ≤ 16
  ne : g ≠ []
  small : ∀ k (hk : k < g.length), SmN g[k]
  mx : ∀ k (hk : k < g.length), 1 ≤ g[k].mx ∧ g[k].mx ≤ 16
  nums : ∀ k (hk : k < g.length), I64 g[k].op.f ∧ I64 g[k].op.n ∧ I64 g[k].mx
  key : ∀ k (hk : k < g.length), (g[k].op.k = 5 ∨ g[k].op.k = 6 ∨ g[k].op.k = 7) → ∃ j r u, g[k].ins = j :: r ∧ 0 ≤ j ∧ j < (typesR [] g).length ∧ checkE g[k].op.key ((typesR [] g).getD j.toNat (.mk 0 [])) = .ok u
  src : ∀ k (hk : k < g.length), g[k].op.k = 1 → checkT g[k].op.t 0 = 0
  uidn : ∀ k (hk : k < g.length), g[k].uid ≠ [] → nameS g[k].uid = true

theorem typesR_pre : ∀ (l : List Nd) (ts : List Ty), ∃ x, typesR ts l = ts ++ x
  | [], ts => ⟨[], by simp [typesR]⟩
  | n :: r, ts => by
    obtain ⟨x, hx⟩ := typesR_pre r (ts ++ [(outO n.op (n.ins.map (fun i => ts.getD i.toNat (.mk 0 [])))).get (.mk 0 [])])
    exact ⟨_, by rw [typesR, hx, List.append_assoc]⟩
theorem typesR_app : ∀ (a b : List Nd) (ts : List Ty), typesR ts (a ++ b) = typesR (typesR ts a) b
  | [], b, ts => rfl
  | n :: a, b, ts => by simp only [List.cons_append, typesR]; exact typesR_app a b _
theorem typesR_getD {g : List Nd} {i j : Nat} (hi : i ≤ g.length) (h : j < i) : (typesR [] (g.take i)).getD j (.mk 0 []) = (typesR [] g).getD j (.mk 0 []) := by
  have e := typesR_app (g.take i) (g.drop i) []
  rw [List.take_append_drop] at e
  obtain ⟨x, hx⟩ := typesR_pre (g.drop i) (typesR [] (g.take i))
  rw [hx] at e
  have hl : (typesR [] (g.take i)).length = i := by rw [typesR_length]; simp [hi]
  rw [e, List.getD_eq_getElem?_getD, List.getD_eq_getElem?_getD, List.getElem?_append_left (by omega)]

theorem uidF_of {g : List Nd} (h : (checkR g).2 = 0) : UidF g := by
  obtain ⟨hne, _, hok⟩ := okG_all h
  have hG := checkR_good h
  have huid : ∀ k (hk : k < g.length), g[k].uid ≠ [] → nameS g[k].uid = true := fun k hk => (hok k hk).uid
  have hnm : ∀ k (hk : k < g.length), nameS g[k].op.name = true ∨ g[k].op.name = [] := fun k hk => by
    obtain ⟨t, ht⟩ := (hok k hk).out
    exact (out_name ht).1
  have hrange : ∀ k (hk : k < g.length), 1 ≤ g[k].op.k ∧ g[k].op.k ≤ 9 := fun k hk => by
    obtain ⟨t, ht⟩ := (hok k hk).out
    exact (outO_ok ht).2.2.1
  have hlenR : (typesR [] g).length = g.length := by rw [typesR_length]; simp
  refine ⟨⟨fun k hk i hi => ?_, fun i k hi hk hu => ?_, fun k hk c hc => ?_, fun k hk c hc => ?_⟩, hG.len, hne, fun k hk => ⟨(hG.ins k hk).2, ?_, ?_, ?_⟩, fun k hk => ?_, fun k hk => ?_, fun k hk hkk => ?_, fun k hk hk1 => ?_, huid⟩
  · have := (hG.ins k hk).1 i hi; omega
  · have ht := (hok k hk).twice hu
    intro e
    have hm : (g.take k).any (fun o => decide (o.uid = g[k].uid)) = true := any_take hi (by omega) (by simpa using e)
    rw [hm] at ht
    simp at ht
  · rcases hnm k hk with q | q
    · exact (nameS_facts q).2 c hc
    · rw [q] at hc; simp at hc
  · by_cases hu : g[k].uid = []
    · rw [hu] at hc; simp at hc
    · exact (nameS_facts (huid k hk hu)).2 c hc
  · by_cases hu : g[k].uid = []
    · rw [hu]; simp
    · exact (nameS_facts (huid k hk hu)).1
  · rcases hnm k hk with q | q
    · exact (nameS_facts q).1
    · rw [q]; simp
  · have := hrange k hk
    constructor <;> omega
  · have := (hok k hk).par; omega
  · obtain ⟨t, ht⟩ := (hok k hk).out
    have := (hok k hk).par
    obtain ⟨h1, h2⟩ := fieldsO_nums (outO_ok ht).1
    exact ⟨h1, h2, by constructor <;> omega⟩
  · obtain ⟨t, ht⟩ := (hok k hk).out
    obtain ⟨_, h2, _, _, h5⟩ := outO_ok ht
    obtain ⟨u, hu⟩ := h5 (by simp [keyedO]; omega)
    rw [List.length_map] at h2
    have hl1 : g[k].ins.length = 1 := by
      unfold insO at h2
      rw [if_neg (by omega), if_neg (by omega)] at h2
      simpa using h2
    obtain ⟨j, r, hj⟩ : ∃ j r, g[k].ins = j :: r := by
      cases hh : g[k].ins with
      | nil => rw [hh] at hl1; simp at hl1
      | cons j r => exact ⟨j, r, rfl⟩
    have hjk := (hG.ins k hk).1 j (by rw [hj]; simp)
    refine ⟨j, r, u, hj, hjk.1, by omega, ?_⟩
    rw [hj] at hu
    simp only [List.map_cons, List.getD_cons_zero] at hu
    rw [typesR_getD (by omega) (by omega)] at hu
    exact hu
  · obtain ⟨t, ht⟩ := (hok k hk).out
    exact (out_name ht).2 hk1

end Go.Proofs.YtijnpcociedigaaGreatDoor
end

section
/- The laws of names that last: what all share. -/
set_option linter.unusedSimpArgs false
set_option linter.unusedVariables false
namespace Go.Proofs.YtijnpcociedigaaGreatDoor
open Go Go.Abs

attribute [local irreducible] Abs.Fn

theorem ids_asked {g : List Nd} (F : UidF g) (hok : ∀ n ∈ g, OkN n) : ∀ k (hk : k < g.length), (∀ i ∈ g[k].ins, 0 ≤ i ∧ i < k) ∧ g[k].ins.length ≤ 1000000 ∧ g[k].uid.length ≤ 1000000 ∧ I64 g[k].op.k ∧ (baseU g[k] (idsU g)).length ≤ 1000000000 := fun k hk => by
  obtain ⟨h1, h2, h3, h4⟩ := F.small k hk
  exact ⟨F.good.ins k hk, (hok _ (List.getElem_mem hk)).ins, by omega, h4, base_le F.good F.len F.small hk⟩

theorem idsF_spec {g : List Nd} (F : UidF g) (hok : ∀ n ∈ g, OkN n) : Abs.Fn Tryz.prog uid_IDs_i [] [.p (.slice (g.map encN))] (.p (.slice ((idsU g).map .str))) [] :=
  IDs_spec g (by have := F.len; omega) (ids_asked F hok)

theorem FindU_spec {g : List Nd} (hi : Abs.Fn Tryz.prog uid_IDs_i [] [.p (.slice (g.map encN))] (.p (.slice ((idsU g).map .str))) []) (hl : g.length ≤ 1000) (s : List UInt8) : Abs.Fn Tryz.prog uid_Find_i [] [.p (.slice (g.map encN)), .p (.str s)] (.p (.int .i64 (idxF (fun x => decide (x = s)) 0 (idsU g)))) [] := by
  apply uid_Find_fn
  simp [uid_Find]
  refine aCallW_of rfl rfl hi ?_
  simp
  refine aCallW_of rfl rfl (findU_spec (idsU g) s (by simp; omega)) ?_
  simp
  exact gives_p rfl

theorem SchemaF_spec {g : List Nd} (h : (checkR g).2 = 0) (hok : ∀ n ∈ g, OkN n) (i : Nat) (hi : i < g.length) : Abs.Fn Tryz.prog uid_Schema_i [] [.p (.slice (g.map encN)), .p (.int .i64 i)] (.p (.str (schemaU (typesR [] g) g[i]))) [] := by
  have F := uidF_of h
  have hT := typesG_of h
  have hl : (typesR [] g).length = g.length := by rw [typesR_length]; simp
  have := SchemaU_spec g hok (by have := F.len; omega) i hi (fun hk => by
    obtain ⟨j, r, u, h1, h2, h3, _⟩ := F.key i hi hk
    exact ⟨j, r, h1, h2, by rw [hT]; exact h3⟩) (F.nums i hi) (F.src i hi)
  rw [hT, if_neg (by omega)] at this
  exact this

def smallU : List Nd := [srcG 2 4, { mapG with uid := [109] }, sinkG 1 2 4]
theorem okN_smallU : ∀ n ∈ smallU, OkN n := by
  intro n hn
  simp only [smallU, List.mem_cons, List.not_mem_nil, or_false] at hn
  rcases hn with rfl | rfl | rfl
  · exact okN_src _ _
  · exact ⟨okN_map.es, okN_map.key, okN_map.len, okN_map.ins⟩
  · exact okN_sink _ _ _
theorem smallU_check : checkR smallU = (0, 0) := by rfl
theorem small_itoa : Lib.itoa 1 = [49] ∧ Lib.itoa 9 = [57] ∧ Lib.itoa 4 = [52] := by
  refine ⟨?_, ?_, ?_⟩ <;> (simp [Lib.itoa]; rw [Lib.decDigits]; decide)
theorem smallU_ids : idsU smallU = [[97, 58, 49, 58, 115, 40, 41], [117, 58, 109], [97, 58, 57, 58, 97, 40, 117, 58, 109, 41]] := by
  simp [idsU, idsGo, smallU, baseU, fullU, sufU, small_itoa.1, small_itoa.2.1, TJ.join, TJ.tail, List.count, List.countP, List.countP.go]
theorem smallU_types : typesR [] smallU = [.mk 1 [], .mk 1 [], .mk 1 []] := by rfl
theorem smallU_row : (smallG.map encN).set 1 ((encN mapG).putT 0 [.str [109]]) = smallU.map encN := by rfl

theorem known9_spec : Abs.Fn Tryz.prog runnellaw9_known_i [] [] (.p (.bool true)) [] := by
  have F := uidF_of (g := smallU) (by rw [smallU_check])
  have hi := idsF_spec F okN_smallU
  have f1 := FindU_spec hi (by simp [smallU]) [117, 58, 109]
  have f2 := FindU_spec hi (by simp [smallU]) [120]
  have s0 := SchemaF_spec (g := smallU) (by rw [smallU_check]) okN_smallU 0 (by simp [smallU])
  have s1 := SchemaF_spec (g := smallU) (by rw [smallU_check]) okN_smallU 1 (by simp [smallU])
  rw [smallU_ids] at hi f1 f2
  rw [smallU_types] at s0 s1
  have e0 : schemaU [.mk 1 [], .mk 1 [], .mk 1 []] smallU[0] = [115, 111, 117, 114, 99, 101, 32, 105, 110, 116, 32, 52] := by
    simp [smallU, schemaU, small_itoa.2.2, textT, wordS, TJ.join, TJ.tail]
  have e1 : schemaU [.mk 1 [], .mk 1 [], .mk 1 []] smallU[1] = [] := by
    simp [smallU, schemaU]
  rw [e0] at s0
  rw [e1] at s1
  have i1 : idxF (fun x : List UInt8 => decide (x = [117, 58, 109])) 0 [[97, 58, 49, 58, 115, 40, 41], [117, 58, 109], [97, 58, 57, 58, 97, 40, 117, 58, 109, 41]] = 1 := by rfl
  have i2 : idxF (fun x : List UInt8 => decide (x = [120])) 0 [[97, 58, 49, 58, 115, 40, 41], [117, 58, 109], [97, 58, 57, 58, 97, 40, 117, 58, 109, 41]] = -1 := by rfl
  rw [i1] at f1
  rw [i2] at f2
  have hrow : ∀ h, (smallG.map encN).set 1 (((smallG.map encN)[1]'h).putT 0 [.str [109]]) = smallU.map encN := fun h => smallU_row
  generalize hG : smallG.map encN = G at *
  have hG3 : G.length = 3 := by rw [← hG]; rfl
  apply runnellaw9_known_fn
  simp [runnellaw9_known]
  refine aCallW_of rfl rfl SmallR_spec ?_
  rw [hG]
  simp [hG3]
  rw [hrow]
  have hU3 : (smallU.map encN).length = 3 := rfl
  generalize smallU.map encN = U at *
  refine aCallZ_of (id := 0) rfl ?_
  simp [AV.unm, AV.unm1, hU3]
  rw [List.take_of_length_le (by omega)]
  refine aCallW_of rfl rfl hi ?_
  simp
  intro _
  refine aMerge_intro true (fun _ => ?_) ?_
  · refine aCallY_of (id := 0) rfl ?_
    simp [AV.unm, AV.unm1, hU3]
    rw [List.take_of_length_le (by omega)]
    refine aCallW_of rfl rfl f1 ?_
    simp
  simp
  refine aMerge_intro true (fun _ => ?_) ?_
  · refine aCallY_of (id := 0) rfl ?_
    simp [AV.unm, AV.unm1, hU3]
    rw [List.take_of_length_le (by omega)]
    refine aCallW_of rfl rfl f2 ?_
    simp
  simp
  refine aMerge_intro true (fun _ => ?_) ?_
  · refine aCallY_of (id := 0) rfl ?_
    simp [AV.unm, AV.unm1, hU3]
    rw [List.take_of_length_le (by omega)]
    refine aCallW_of rfl rfl s0 ?_
    simp
  simp
  refine aMerge_intro true (fun _ => ?_) ?_
  · refine aCallY_of (id := 0) rfl ?_
    simp [AV.unm, AV.unm1, hU3]
    rw [List.take_of_length_le (by omega)]
    refine aCallW_of rfl rfl s1 ?_
    simp
  simp
  exact gives_p rfl

end Go.Proofs.YtijnpcociedigaaGreatDoor
end

section
/- The law UidSchemas: the jobs that it makes. -/
set_option linter.unusedSimpArgs false
set_option linter.unusedVariables false
namespace Go.Proofs.YtijnpcociedigaaGreatDoor
open Go Go.Abs

theorem checkG_of {g : List Nd} (h : (checkR g).2 = 0) : checkG g = (0, 0) := by
  have hT := goG_of g [] (fun k hk => by simpa using (okG_all h).2.2 k hk)
  have F := uidF_of h
  have hl := F.len
  have hr := (okG_all h).2.1
  have hn : loneFrom g 0 g = none := by
    unfold checkR at h
    rw [if_neg F.ne, if_neg (by omega), hr] at h
    simp only at h
    split at h
    · simp at h
    · rename_i hl; exact hl
  unfold checkG
  rw [if_neg F.ne, if_neg (by omega)]
  have e : goG [] [] g = .ok (typesR [] g) := by simpa [typesR] using hT
  rw [e, hn]

abbrev keyS (k : Int) : Ex := e2 oAdd eX (eL (intV k))
abbrev nodS (o : Opr) (n m : Int) : Nd := ⟨[], o, [0], n, m, [104], false⟩
def schG (o : Opr) (n m : Int) : List Nd := [srcG 1 2, nodS o n m, sinkG 1 1 1]

theorem keyS_ok (k : Int) : checkE (keyS k) (.mk 1 []) = .ok (.mk 1 []) := by rfl
/-- An operator by key, of numbers. -/
structure KeyO (o : Opr) (t : Ty) (k : Int) : Prop where
  kd : o.k = 5 ∨ o.k = 6 ∨ o.k = 7
  key : o.key = keyS k
  out : outO o [.mk 1 []] = .ok t
  ty : checkT t 0 = 0

theorem sink_out {t : Ty} (h : checkT t 0 = 0) : outO ⟨9, [97], .mk 0 [], [], zeroE, 0, 0⟩ [t] = .ok t := by
  have h1 : nameS [97] = true := by decide
  have h2 : fieldsO ⟨9, [97], .mk 0 [], [], zeroE, 0, 0⟩ = true := by rfl
  unfold outO
  rw [if_neg (by simp), if_neg (by rw [h1]; simp), if_neg (by rw [h2]; simp [insO]), if_neg (by simp [h]), if_neg (by simp)]
  rfl

theorem sch_check {o : Opr} {t : Ty} {k n m : Int} (K : KeyO o t k) (hn : 1 ≤ n ∧ n ≤ 4 ∧ n ≤ m ∧ m ≤ 16) : checkR (schG o n m) = (0, 0) := by
  have hk := K.kd
  have g1 : nameS grpG = true := by decide
  have g2 : nameS [104] = true := by decide
  have o1 := out_src
  have w0 : wtN (wtsG [] []) (srcG 1 2) = 1 := by rfl
  have w1 : wtN (wtsG [] [srcG 1 2]) (nodS o n m) = 1 := by
    have : wtsG [] [srcG 1 2] = [1] := rfl
    rw [this, wtN, if_neg (by simp only; omega), if_neg (by simp only; omega)]
    rfl
  have w2 : wtN (wtsG [] [srcG 1 2, nodS o n m]) (sinkG 1 1 1) = 1 := by
    have : wtsG [] [srcG 1 2, nodS o n m] = [1, 1] := by
      show wtsG ([] ++ [wtN [] (srcG 1 2)]) [nodS o n m] = _
      have e : ([] : List Int) ++ [wtN [] (srcG 1 2)] = [1] := rfl
      rw [e]
      show [1] ++ [wtN [1] (nodS o n m)] = _
      have : wtN [1] (nodS o n m) = 1 := w1
      rw [this]
      rfl
    rw [this]
    rfl
  have t1 : typesR [] [srcG 1 2] = [.mk 1 []] := by rfl
  have t2 : typesR [] [srcG 1 2, nodS o n m] = [.mk 1 [], t] := by
    have : typesR [] ([srcG 1 2] ++ [nodS o n m]) = [.mk 1 [], t] := by
      rw [typesR_snoc, t1]
      have : (nodS o n m).ins.map (fun i => ([Ty.mk 1 []] : List Ty).getD i.toNat (.mk 0 [])) = [.mk 1 []] := rfl
      rw [this]
      show [Ty.mk 1 []] ++ [(outO o [.mk 1 []]).get (.mk 0 [])] = _
      rw [K.out]
      rfl
    exact this
  have n0 : nodeG [] (typesR [] []) (srcG 1 2) = 0 := by rfl
  have n1 : nodeG [srcG 1 2] (typesR [] [srcG 1 2]) (nodS o n m) = 0 := by
    rw [t1]
    unfold nodeG
    rw [if_neg (by rw [g2]; simp), if_neg (by simp), if_neg (by simp only; omega), if_neg (by
      have : seenIn [srcG 1 2] [] [(0 : Int)] = true := by decide
      show ¬ seenIn [srcG 1 2] [] [(0 : Int)] = false
      rw [this]; simp)]
    have : (nodS o n m).ins.map (fun i => ([Ty.mk 1 []] : List Ty).getD i.toNat (.mk 0 [])) = [.mk 1 []] := rfl
    rw [this]
    show lastG (outO o [.mk 1 []]) _ _ _ = 0
    rw [K.out, w1]
    simp only [lastG]
    rw [if_neg (by omega), if_neg (fun h => by have := h.1; have e : (nodS o n m).op.k = o.k := rfl; omega)]
  have n2 : nodeG [srcG 1 2, nodS o n m] (typesR [] [srcG 1 2, nodS o n m]) (sinkG 1 1 1) = 0 := by
    rw [t2]
    have hs : seenIn [srcG 1 2, nodS o n m] [] (sinkG 1 1 1).ins = true := by
      show seenIn [srcG 1 2, nodS o n m] [] [1] = true
      have e : (([srcG 1 2, nodS o n m] : List Nd).getD (1 : Int).toNat noN).op.k = o.k := rfl
      rw [seenIn, e, if_neg]
      · rfl
      · simp
        omega
    unfold nodeG
    rw [if_neg (by rintro (⟨a, _⟩ | b)
                   · exact a rfl
                   · rw [show nameS (sinkG 1 1 1).grp = true from g1] at b; simp at b), if_neg (by rintro ⟨a, _⟩; exact a rfl), if_neg (by show ¬ ((1:Int) < 1 ∨ (4:Int) < 1 ∨ (1:Int) < 1 ∨ (16:Int) < 1); omega), if_neg (by rw [hs]; simp)]
    have : (sinkG 1 1 1).ins.map (fun i => ([Ty.mk 1 [], t] : List Ty).getD i.toNat (.mk 0 [])) = [t] := rfl
    rw [this, sink_out K.ty, w2]
    simp only [lastG]
    rw [if_neg (by omega), if_neg]
    rintro ⟨_, h⟩
    have : ([srcG 1 2, nodS o n m].any fun o' => decide (o'.op.k = (sinkG 1 1 1).op.k) && decide (o'.op.name = (sinkG 1 1 1).op.name)) = false := by
      simp
      omega
    rw [this] at h
    simp at h
  have hl : loneFrom (schG o n m) 0 (schG o n m) = none := by
    have h0 : outsFrom 0 0 (schG o n m) = [1] := by simp [schG, outsFrom]
    have h1 : outsFrom 1 0 (schG o n m) = [2] := by simp [schG, outsFrom]
    have e : schG o n m = [srcG 1 2, nodS o n m, sinkG 1 1 1] := rfl
    conv => lhs; arg 3; rw [e]
    simp [loneFrom, h0, h1]
  have hgo : goR [] (schG o n m) = none := by
    show goR [] [srcG 1 2, nodS o n m, sinkG 1 1 1] = none
    simp only [goR, List.nil_append, List.cons_append, n0, n1, n2]
    simp
  unfold checkR
  rw [if_neg (by simp [schG]), if_neg (by simp [schG]), hgo, hl]

theorem out_s5 (f k : Int) (h : 1 ≤ f ∧ f ≤ 4) : outO ⟨5, [], .mk 0 [], [eL (intV k)], keyS k, f, 0⟩ [.mk 1 []] = .ok (.mk 4 [.mk 1 [], .mk 1 []]) := by
  have hf : fieldsO ⟨5, [], .mk 0 [], [eL (intV k)], keyS k, f, 0⟩ = true := by simp [fieldsO, keyedO, h, Ty.kind, Ty.of]
  unfold outO
  rw [if_neg (by simp), if_neg (by simp), if_neg (by rw [hf]; simp [insO]), if_neg (by decide), if_neg (by simp)]
  rfl
theorem out_s6 (f k : Int) (h : 1 ≤ f ∧ f ≤ 1000) : outO ⟨6, [], .mk 0 [], [], keyS k, 0, f⟩ [.mk 1 []] = .ok (.mk 4 [.mk 1 [], .mk 1 []]) := by
  have hf : fieldsO ⟨6, [], .mk 0 [], [], keyS k, 0, f⟩ = true := by simp [fieldsO, keyedO, h, Ty.kind, Ty.of]
  unfold outO
  rw [if_neg (by simp), if_neg (by simp), if_neg (by rw [hf]; simp [insO]), if_neg (by decide), if_neg (by simp)]
  rfl
theorem out_s7 (k : Int) : outO ⟨7, [], .mk 0 [], [], keyS k, 0, 0⟩ [.mk 1 []] = .ok (.mk 1 []) := by
  have hf : fieldsO ⟨7, [], .mk 0 [], [], keyS k, 0, 0⟩ = true := by simp [fieldsO, keyedO, Ty.kind, Ty.of]
  unfold outO
  rw [if_neg (by simp), if_neg (by simp), if_neg (by rw [hf]; simp [insO]), if_neg (by decide), if_neg (by simp)]
  rfl

theorem okN_sch {o : Opr} {n m : Int} (h : OkN (nodS o n m)) : ∀ x ∈ schG o n m, OkN x := by
  intro x hx
  simp only [schG, List.mem_cons, List.not_mem_nil, or_false] at hx
  rcases hx with rfl | rfl | rfl
  · exact okN_src _ _
  · exact h
  · exact okN_sink _ _ _

end Go.Proofs.YtijnpcociedigaaGreatDoor
end

section
/- The law UidSchemas. -/
set_option linter.unusedSimpArgs false
set_option linter.unusedVariables false
namespace Go.Proofs.YtijnpcociedigaaGreatDoor
open Go Go.Abs

attribute [local irreducible] Abs.Fn

theorem ref0_spec (n : Int) (h : I64 n) : Abs.Fn Tryz.prog runnellaw9_ref0_i [] [.p (.int .i64 n)] (.p (.str (Lib.itoa n))) [] := by
  have hit := itoa_len h
  have ht : textV (intV n) = Lib.itoa n := by simp [intV, textV]
  have := text2_spec (intV n) (.mk _ _ _ _ _ (by constructor <;> omega) h (by simp) (by simp) (by simp)) (wv_int n) (by rw [ht]; omega)
  rw [ht] at this
  apply runnellaw9_ref0_fn
  simp [runnellaw9_ref0]
  (first | refine aCall_fold rfl ?_ | refine aCallT_fold rfl ?_)
  (first | refine aCallU_p (Int_spec n) ?_ | refine aCallTU_p (Int_spec n) ?_ | refine aCallU_of (Int_spec n) ?_ | refine aCallTU_of (Int_spec n) rfl ?_ | refine aCallTU_of (Int_spec n) (by simp [AV.pur]; rfl) ?_)
  try simp
  (first | refine aCall_fold rfl ?_ | refine aCallT_fold rfl ?_)
  (first | refine aCallU_p (this) ?_ | refine aCallTU_p (this) ?_ | refine aCallU_of (this) ?_ | refine aCallTU_of (this) rfl ?_ | refine aCallTU_of (this) (by simp [AV.pur]; rfl) ?_)
  try simp
  exact gives_p rfl

theorem res_end {l : List AV} {x r : AV} {H Ho : List Ob} (hx : l.getD 10 .top = x) (h : Gives 0 x H r Ho) : aRes Tryz.prog [.tmp 10] l H (fun vs => Gives 0 (tupOf vs) H r Ho) := by subst hx; exact h

/-- The cells of an operator's variable. -/
def cellsS (kd : Int) (es : List T) (k f n : Int) : List AV := [.p (.int .i64 kd), .p (.str []), .p (.int .i64 0), .full [], .full es, .p (.str oAdd), .p (.int .i64 0), .p (.int .i64 0), .p (.bool false), .p (.str []), .p (.slice []), .p (.int .i64 0), .p (.slice ([eX, eL (intV k)].map encE)), .p (.int .i64 f), .p (.int .i64 n)]

set_option maxRecDepth 100000 in
theorem sch_tail {kd f q : Int} {es : List Ex} {t : Ty} {k n m : Int} {w : List UInt8} (o : Opr) (ho : o = ⟨kd, [], .mk 0 [], es, keyS k, f, q⟩) (K : KeyO o t k) (hN : OkN (nodS o n m)) (hn : 1 ≤ n ∧ n ≤ 4 ∧ n ≤ m ∧ m ≤ 16) (hw : w.length ≤ 1000) (hs : ∀ ts, ts.getD 0 (.mk 0 []) = .mk 1 [] → schemaU ts (nodS o n m) = w ++ Lib.itoa m)
    (self : Code → List AV → List Ob → Ko → Prop) :
    runnellaw9_UidSchemas_P16 (.p (.int .i64 m)) (.p (.int .i64 n)) (.bptr 0 0) (.p (.str w)) [.box (cellsS kd (es.map encE) k f q)] self (kEnd Tryz.prog [.tmp 10] fun v H' => Gives 0 v H' (.p (.bool true)) []) := by
  have hc := sch_check K hn
  have hokN := okN_sch hN
  have h3 : (schG o n m).length = 3 := rfl
  have hck := GCheck_spec (schG o n m) hokN
  rw [checkG_of (by rw [hc])] at hck
  have s0 := SchemaF_spec (g := schG o n m) (by rw [hc]) hokN 0 (by simp [schG])
  have s1 := SchemaF_spec (g := schG o n m) (by rw [hc]) hokN 1 (by simp [schG])
  have s2 := SchemaF_spec (g := schG o n m) (by rw [hc]) hokN 2 (by simp [schG])
  have e0 : schemaU (typesR [] (schG o n m)) (schG o n m)[0] = [115, 111, 117, 114, 99, 101, 32, 105, 110, 116, 32, 50] := by
    have : Lib.itoa 2 = [50] := by simp [Lib.itoa]; rw [Lib.decDigits]; decide
    simp [schG, schemaU, this, textT, wordS, TJ.join, TJ.tail]
  have e1 : schemaU (typesR [] (schG o n m)) (schG o n m)[1] = w ++ Lib.itoa m := hs _ (by rfl)
  have e2 : schemaU (typesR [] (schG o n m)) (schG o n m)[2] = [] := by simp [schG, schemaU]
  rw [e0] at s0
  rw [e1] at s1
  rw [e2] at s2
  have hit := itoa_len (n := m) (by constructor <;> omega)
  have hr := ref0_spec m (by constructor <;> omega)
  simp -implicitDefEqProofs [schG, ho, intV] at hck s0 s1 s2
  unfold runnellaw9_UidSchemas_P16
  simp -implicitDefEqProofs [cellsS, intV]
  refine aCallW_of rfl rfl hck ?_
  simp -implicitDefEqProofs
  refine aMerge_intro true (fun _ => ?_) ?_
  · refine aCallW_of rfl rfl s1 ?_
    simp -implicitDefEqProofs
    refine aCallW_of rfl rfl hr ?_
    simp -implicitDefEqProofs
    simp only [maxLen]; omega
  simp -implicitDefEqProofs
  refine aMerge_intro true (fun _ => ?_) ?_
  · refine aCallW_of rfl rfl s0 ?_
    simp -implicitDefEqProofs
  simp -implicitDefEqProofs
  refine aMerge_intro true (fun _ => ?_) ?_
  · refine aCallW_of rfl rfl s2 ?_
    simp -implicitDefEqProofs
  simp -implicitDefEqProofs
  exact res_end rfl (gives_p rfl)

theorem key_text {o : Opr} {k n m : Int} {ts : List Ty} (hk : o.key = keyS k) (h : ts.getD 0 (.mk 0 []) = .mk 1 []) : keyTU ts (nodS o n m) = [105, 110, 116] := by
  show textT ((checkE o.key (ts.getD 0 (.mk 0 []))).get (.mk 0 [])) = _
  rw [hk, h, keyS_ok]
  rfl

theorem okN_key {o : Opr} {k n m : Int} (hk : o.key = keyS k) (he : o.es = [] ∨ o.es = [eL (intV k)]) : OkN (nodS o n m) := by
  refine ⟨fun e h => ?_, ?_, ?_, by simp⟩
  · rcases he with q | q
    · rw [show (nodS o n m).op.es = o.es from rfl, q] at h; simp at h
    · rw [show (nodS o n m).op.es = o.es from rfl, q] at h
      simp only [List.mem_cons, List.not_mem_nil, or_false] at h
      subst h
      exact ⟨we_l (wv_int _), by simp [sizeE, sizeEs]⟩
  · rw [show (nodS o n m).op.key = o.key from rfl, hk]
    exact ⟨we_2 we_x (we_l (wv_int _)), by simp [sizeE, sizeEs]⟩
  · rw [show (nodS o n m).op.es = o.es from rfl]
    rcases he with q | q <;> rw [q] <;> simp

set_option maxRecDepth 100000 in
theorem sch_mid {kd fd k n m : Int} (h1 : 0 ≤ kd ∧ kd ≤ 255) (h2 : 0 ≤ fd ∧ fd ≤ 255) (hk : I64 k) (hn : 1 ≤ n ∧ n ≤ 4 ∧ n ≤ m ∧ m ≤ 16) :
    runnellaw9_UidSchemas_P7 (.p (.int .u8 kd)) (.p (.int .u8 fd)) (.p (.int .i64 k)) (.p (.int .i64 m)) (.p (.int .i64 n)) [] (awp Tryz.prog runnellaw9_UidSchemas_ann) (kEnd Tryz.prog [.tmp 10] fun v H' => Gives 0 v H' (.p (.bool true)) []) := by
  have m1 : kd.tmod 3 = kd % 3 := Int.tmod_eq_emod_of_nonneg h1.1
  have m2 : fd.tmod 4 = fd % 4 := Int.tmod_eq_emod_of_nonneg h2.1
  have i1 := itoa_len (n := 1 + fd % 4) (by constructor <;> omega)
  have i2 := itoa_len (n := 1 + fd) (by constructor <;> omega)
  unfold runnellaw9_UidSchemas_P7
  simp -implicitDefEqProofs
  refine aCallW_of rfl rfl X_spec ?_
  simp -implicitDefEqProofs
  refine aCallW_of rfl rfl (Int_spec k) ?_
  simp -implicitDefEqProofs [intV]
  have hl := Lit_spec (intV k)
  simp [intV] at hl
  refine aCallW_of rfl rfl hl ?_
  simp -implicitDefEqProofs
  have ho := Op4_spec oAdd [eX, eL (intV k)]
  simp [intV] at ho
  refine aCallW_of rfl rfl ho ?_
  simp -implicitDefEqProofs
  have e1 : IntKind.i64.wrap (kd.tmod 3) = kd % 3 := by rw [m1, IntWalk.i64_in _ (by omega)]
  have e2 : IntKind.i64.wrap (5 + kd % 3) = 5 + kd % 3 := IntWalk.i64_in _ (by omega)
  have e3 : IntKind.i64.wrap (fd % 4) = fd % 4 := IntWalk.i64_in _ (by omega)
  have e4 : IntKind.i64.wrap (1 + fd % 4) = 1 + fd % 4 := IntWalk.i64_in _ (by omega)
  have e5 : IntKind.i64.wrap fd = fd := IntWalk.i64_in _ (by omega)
  have e6 : IntKind.i64.wrap (1 + fd) = 1 + fd := IntWalk.i64_in _ (by omega)
  simp only [e1, e2, m2, e3, e4, e5, e6]
  refine ⟨fun h5 => ?_, fun h5 => ⟨fun h6 => ?_, fun h6 => ?_⟩⟩
  · simp only [h5]
    refine aCallW_of rfl rfl (Int_spec k) ?_
    simp -implicitDefEqProofs [intV]
    refine aCallW_of rfl rfl hl ?_
    simp -implicitDefEqProofs
    simp only [m2, e3, e4]
    refine aCallW_of rfl rfl (ref0_spec (1 + fd % 4) (by constructor <;> omega)) ?_
    simp -implicitDefEqProofs
    refine ⟨by simp only [maxLen]; omega, by simp only [maxLen]; omega, ?_⟩
    rw [runnellaw9_UidSchemas_c16_eq]
    have hK : KeyO ⟨5, [], .mk 0 [], [eL (intV k)], keyS k, 1 + fd % 4, 0⟩ (.mk 4 [.mk 1 [], .mk 1 []]) k := ⟨by simp, rfl, out_s5 _ k (by omega), by rfl⟩
    have := sch_tail (n := n) (m := m) (w := [114, 101, 100, 117, 99, 101, 32] ++ Lib.itoa (1 + fd % 4) ++ [32, 105, 110, 116, 32]) _ rfl hK (okN_key rfl (.inr rfl)) hn (by simp; omega) (fun ts h => by
      rw [schemaU, key_text (k := k) rfl h]
      simp [TJ.join, TJ.tail]) (awp Tryz.prog runnellaw9_UidSchemas_ann)
    simpa [cellsS, intV] using this
  · simp only [h6]
    refine aCallW_of rfl rfl (ref0_spec (1 + fd) (by constructor <;> omega)) ?_
    simp -implicitDefEqProofs
    refine ⟨by simp only [maxLen]; omega, by simp only [maxLen]; omega, ?_⟩
    rw [runnellaw9_UidSchemas_c16_eq]
    have hK : KeyO ⟨6, [], .mk 0 [], [], keyS k, 0, 1 + fd⟩ (.mk 4 [.mk 1 [], .mk 1 []]) k := ⟨by simp, rfl, out_s6 _ k (by omega), by rfl⟩
    have := sch_tail (n := n) (m := m) (w := [116, 97, 108, 108, 121, 32] ++ Lib.itoa (1 + fd) ++ [32, 105, 110, 116, 32]) _ rfl hK (okN_key rfl (.inl rfl)) hn (by simp; omega) (fun ts h => by
      rw [schemaU, key_text (k := k) rfl h]
      simp [TJ.join, TJ.tail]) (awp Tryz.prog runnellaw9_UidSchemas_ann)
    simpa [cellsS, intV] using this
  · have h7 : 5 + kd % 3 = 7 := by omega
    simp only [h7]
    rw [runnellaw9_UidSchemas_c16_eq]
    have hK : KeyO ⟨7, [], .mk 0 [], [], keyS k, 0, 0⟩ (.mk 1 []) k := ⟨by simp, rfl, out_s7 k, by rfl⟩
    have := sch_tail (n := n) (m := m) (w := [100, 105, 115, 116, 105, 110, 99, 116, 32, 105, 110, 116, 32]) _ rfl hK (okN_key rfl (.inl rfl)) hn (by simp) (fun ts h => by
      rw [schemaU, key_text (k := k) rfl h]
      simp [TJ.join, TJ.tail]) (awp Tryz.prog runnellaw9_UidSchemas_ann)
    simpa [cellsS, intV] using this

set_option maxRecDepth 100000 in
theorem UidSchemas_spec (kd fd mt pr k : Int) (h1 : 0 ≤ kd ∧ kd ≤ 255) (h2 : 0 ≤ fd ∧ fd ≤ 255) (h3 : 0 ≤ mt ∧ mt ≤ 255) (h4 : 0 ≤ pr ∧ pr ≤ 255) (hk : I64 k) :
    Abs.Fn Tryz.prog runnellaw9_UidSchemas_i [] [.p (.int .u8 kd), .p (.int .u8 fd), .p (.int .u8 mt), .p (.int .u8 pr), .p (.int .i64 k)] (.p (.bool true)) [] := by
  have m1 : mt.tmod 16 = mt % 16 := Int.tmod_eq_emod_of_nonneg h3.1
  obtain ⟨m, hm⟩ : ∃ m, m = 1 + mt % 16 := ⟨_, rfl⟩
  have hm1 : 1 ≤ m ∧ m ≤ 16 := by omega
  have m2 : pr.tmod m = pr % m := Int.tmod_eq_emod_of_nonneg h4.1
  have m3 := Int.emod_nonneg pr (b := m) (by omega)
  have m4 := Int.emod_lt_of_pos pr (b := m) (by omega)
  apply runnellaw9_UidSchemas_fn
  unfold runnellaw9_UidSchemas_P0
  simp -implicitDefEqProofs
  refine aCallW_of rfl rfl known9_spec ?_
  simp -implicitDefEqProofs
  have e1 : IntKind.i64.wrap (mt.tmod 16) = mt % 16 := by rw [m1, IntWalk.i64_in _ (by omega)]
  have e2 : IntKind.i64.wrap (1 + mt % 16) = m := by rw [IntWalk.i64_in _ (by omega), hm]
  have e3 : IntKind.i64.wrap pr = pr := IntWalk.i64_in _ (by omega)
  have e4 : IntKind.i64.wrap (1 + pr % m) = 1 + pr % m := IntWalk.i64_in _ (by omega)
  simp only [e1, e2, e3, m2, e4]
  refine ⟨by omega, fun h => ?_, fun h => ?_⟩
  · rw [runnellaw9_UidSchemas_c7_eq]
    exact sch_mid h1 h2 hk (by omega)
  · rw [runnellaw9_UidSchemas_c7_eq]
    exact sch_mid h1 h2 hk (by omega)

end Go.Proofs.YtijnpcociedigaaGreatDoor
end
