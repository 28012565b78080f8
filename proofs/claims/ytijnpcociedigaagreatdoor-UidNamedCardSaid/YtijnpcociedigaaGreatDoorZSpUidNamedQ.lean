/- The document's names that last, over trees; what it says of a node's state. -/
import Derived.Test.YtijnpcociedigaaGreatDoorZSpUidSQ
import Derived.Test.YtijnpcociedigaaGreatDoorZSpOutsQ
import Derived.Test.YtijnpcociedigaaGreatDoorZSpText
import Derived.Test.YtijnpcociedigaaGreatDoorZSpOutOQ
import Derived.Test.YtijnpcociedigaaGreatDoorZSpSmallRQ
import Derived.Test.YtijnpcociedigaaGreatDoorS2
import Derived.Test.YtijnpcociedigaaGreatDoorA3

section
/- The document's names that last, over trees; what it says of a node's state. -/
set_option linter.unusedSimpArgs false
set_option linter.unusedVariables false
namespace Go.Proofs.YtijnpcociedigaaGreatDoor
open Go Go.Abs

attribute [local irreducible] Abs.Fn

end Go.Proofs.YtijnpcociedigaaGreatDoor
end

section
/- Jobs that may be: their names, their types, alike in the program and in the document. -/
set_option linter.unusedSimpArgs false
set_option linter.unusedVariables false
namespace Go.Proofs.YtijnpcociedigaaGreatDoor
open Go Go.Abs

theorem ckO_valid {t : Ty} : ∀ {es : List Ex} {ts : List Ty}, ckO t es = .ok ts → ts.length = es.length ∧ ∀ u ∈ ts, checkT u 0 = 0
  | [], ts, h => by
    simp only [ckO, R.ok.injEq] at h
    subst h
    simp
  | e :: r, ts, h => by
    simp only [ckO] at h
    split at h
    · simp at h
    · rename_i u hu
      split at h
      · simp at h
      · rename_i l hl
        simp only [R.ok.injEq] at h
        subst h
        obtain ⟨h1, h2⟩ := ckO_valid hl
        refine ⟨by simp [h1], fun v hv => ?_⟩
        rcases List.mem_cons.1 hv with rfl | hv
        · exact checkE_valid hu
        · exact h2 v hv

theorem getD_valid {l : List Ty} (h : ∀ u ∈ l, checkT u 0 = 0) (hl : 0 < l.length) : checkT (l.getD 0 (.mk 0 [])) 0 = 0 := by
  cases l with
  | nil => simp at hl
  | cons a r => exact h a (by simp)

/-- What the document lets out the program lets out. -/
theorem outP_of {o : Opr} {ins : List Ty} {t : Ty} (h : outO o ins = .ok t) : outP o ins = .ok t := by
  unfold outO at h
  unfold outP
  by_cases h1 : o.k < 1 ∨ 9 < o.k
  · rw [if_pos h1] at h; simp at h
  rw [if_neg h1] at h ⊢
  by_cases h2 : (o.k = 1 ∨ o.k = 9) ∧ nameS o.name = false
  · rw [if_pos h2] at h; simp at h
  rw [if_neg h2] at h ⊢
  by_cases h3 : fieldsO o = false ∨ insO o.k ins.length = false
  · rw [if_pos h3] at h; simp at h
  rw [if_neg h3] at h ⊢
  have hf : fieldsO o = true := by cases hh : fieldsO o <;> simp_all
  have hi : insO o.k ins.length = true := by cases hh : insO o.k ins.length <;> simp_all
  by_cases h4 : ins.any (fun t => decide (checkT t 0 ≠ 0)) = true
  · rw [if_pos h4] at h; simp at h
  rw [if_neg h4] at h
  have hv : ∀ u ∈ ins, checkT u 0 = 0 := by
    intro u hu
    by_cases hz : checkT u 0 = 0
    · exact hz
    · exact absurd (List.any_eq_true.2 ⟨u, hu, by simpa using hz⟩) h4
  by_cases h5 : o.k = 1
  · rw [if_pos h5] at h
    split at h
    · simp at h
    · rename_i ht
      have ht := Classical.not_not.1 ht
      rw [if_neg (by simp only [not_or, not_and]; exact ⟨h4, fun _ => Classical.not_not.2 ht⟩)]
      have hk : keyedO o.k = false := by simp [keyedO, h5]
      have hes : o.es = [] := (fieldsO_len hf).2.2 (by omega) (by omega)
      simp only [hk, hes, ckO, Bool.false_eq_true, if_false]
      have hfit : fitsO o [] ins = true := by simp [fitsO, h5]
      have hg : goesO o noT [] ins = o.t := by simp [goesO, h5]
      rw [lastO, hfit, hg, if_neg (by simp), if_neg (by simpa using ht)]
      exact h
  · rw [if_neg h5] at h
    rw [if_neg (by simp only [not_or, not_and]; exact ⟨h4, fun e => absurd e h5⟩)]
    split at h
    · simp at h
    · rename_i key hkey
      have hkey' : (if keyedO o.k = true then checkE o.key (ins.getD 0 noT) else .ok noT) = R.ok key := hkey
      rw [hkey']
      simp only
      have hkv : keyedO o.k = true → checkT key 0 = 0 := by
        intro hk
        rw [if_pos hk] at hkey
        exact checkE_valid hkey
      split at h
      · simp at h
      · rename_i ts hts
        obtain ⟨hl, htv⟩ := ckO_valid hts
        have hts' : ckO (ins.getD 0 noT) o.es = .ok ts := hts
        rw [hts']
        simp only
        unfold madeO at h
        unfold lastO
        have hlen := fieldsO_len hf
        have fin : ∀ u, fitsO o ts ins = true → goesO o key ts ins = u → checkT u 0 = 0 → R.ok u = R.ok t → (if fitsO o ts ins = false then R.er 5 else if checkT (goesO o key ts ins) 0 ≠ 0 then .er (checkT (goesO o key ts ins) 0) else .ok (goesO o key ts ins)) = R.ok t := by
          intro u a b c d
          rw [a, b, if_neg (by simp), if_neg (by simpa using c)]
          exact d
        have hn : (∀ k, noT = Ty.mk k [] → k = 0) := fun k e => by simp only [noT, Ty.mk.injEq] at e; exact e.1.symm
        by_cases k2 : o.k = 2
        · rw [if_pos k2] at h
          exact fin _ (by simp [fitsO, k2]) (by simp only [goesO]; rw [if_neg h5, if_pos (.inl k2)]; rfl) (getD_valid htv (by have := hlen.1 (by omega); omega)) h
        rw [if_neg k2] at h
        by_cases k3 : o.k = 3
        · rw [if_pos k3] at h
          split at h
          · rename_i hb
            have hb' : (ts.getD 0 noT).kind = 2 := hb
            refine fin _ (by simp only [fitsO]; rw [if_pos k3]; simpa using hb') (by simp only [goesO]; rw [if_neg h5, if_neg (by omega), if_neg (by omega), if_neg (by omega)]; rfl) (getD_valid hv ?_) h
            simp [insO, k3] at hi
            omega
          · simp at h
        rw [if_neg k3] at h
        by_cases k4 : o.k = 4
        · rw [if_pos k4] at h
          split at h
          · rename_i hb
            have hb' : ts.all (fun t => sameT t (ts.getD 0 noT)) = true := hb
            exact fin _ (by simp only [fitsO]; rw [if_neg k3, if_pos k4]; exact hb') (by simp only [goesO]; rw [if_neg h5, if_pos (.inr k4)]; rfl) (getD_valid htv (by have := (hlen.2.1 k4).1; omega)) h
          · simp at h
        rw [if_neg k4] at h
        by_cases k56 : o.k = 5 ∨ o.k = 6
        · rw [if_pos k56] at h
          split at h
          · simp at h
          · rename_i hb
            split at h
            · simp at h
            · rename_i hc
              have hc := Classical.not_not.1 hc
              refine fin _ ?_ (by simp only [goesO]; rw [if_neg h5, if_neg (by omega), if_pos k56]) hc h
              simp only [fitsO]
              rw [if_neg k3, if_neg k4]
              by_cases k5 : o.k = 5
              · rw [if_pos k5]
                have : (ts.getD 0 noT).kind = 1 := Classical.not_not.1 fun hne => hb ⟨k5, hne⟩
                simpa using this
              · rw [if_neg k5, if_neg (by omega)]
        rw [if_neg k56] at h
        by_cases k7 : o.k = 7
        · rw [if_pos k7] at h
          exact fin _ (by simp only [fitsO]; rw [if_neg k3, if_neg k4, if_neg (by omega), if_neg (by omega)]) (by simp only [goesO]; rw [if_neg h5, if_neg (by omega), if_neg k56, if_pos k7]) (hkv (by simp [keyedO, k7])) h
        rw [if_neg k7] at h
        by_cases k8 : o.k = 8
        · rw [if_pos k8] at h
          split at h
          · rename_i hb
            have hb' : ins.all (fun t => sameT t (ins.getD 0 noT)) = true := hb
            refine fin _ (by simp only [fitsO]; rw [if_neg k3, if_neg k4, if_neg (by omega), if_pos k8]; exact hb') (by simp only [goesO]; rw [if_neg h5, if_neg (by omega), if_neg k56, if_neg k7]; rfl) (getD_valid hv ?_) h
            simp [insO, k8] at hi
            omega
          · simp at h
        rw [if_neg k8] at h
        refine fin _ (by simp only [fitsO]; rw [if_neg k3, if_neg k4, if_neg (by omega), if_neg k8]) (by simp only [goesO]; rw [if_neg h5, if_neg (by omega), if_neg k56, if_neg k7]; rfl) (getD_valid hv ?_) h
        simp [insO, h5, k8] at hi
        omega

/-- What a node has that may be. -/
structure OkG (ahead : List Nd) (ts : List Ty) (n : Nd) : Prop where
  uid : n.uid ≠ [] → nameS n.uid = true
  grp : nameS n.grp = true
  twice : n.uid ≠ [] → ahead.any (fun o => decide (o.uid = n.uid)) = false
  par : 1 ≤ n.par ∧ n.par ≤ 4 ∧ n.par ≤ n.mx ∧ n.mx ≤ 16
  seen : seenIn ahead [] n.ins = true
  wt : wtN (wtsG [] ahead) n ≤ 64
  out : ∃ t, outO n.op (n.ins.map (fun i => ts.getD i.toNat (.mk 0 []))) = .ok t
  name : (n.op.k = 1 ∨ n.op.k = 9) → ahead.any (fun o => decide (o.op.k = n.op.k) && decide (o.op.name = n.op.name)) = false

theorem okG_of {ahead : List Nd} {ts : List Ty} {n : Nd} (h : nodeG ahead ts n = 0) : OkG ahead ts n := by
  have hs := nodeG_seen h
  unfold nodeG at h
  split at h
  · simp at h
  rename_i h1
  split at h
  · simp at h
  rename_i h2
  split at h
  · simp at h
  rename_i h3
  split at h
  · simp at h
  rename_i h4
  cases ho : outO n.op (n.ins.map (fun i => ts.getD i.toNat (.mk 0 []))) with
  | er e =>
    rw [ho] at h
    exact absurd h (outO_er ho)
  | ok t =>
    rw [ho] at h
    simp only [lastG] at h
    split at h
    · simp at h
    rename_i h5
    split at h
    · simp at h
    rename_i h6
    refine ⟨fun hu => ?_, ?_, fun hu => ?_, by omega, hs, by omega, ⟨t, ho⟩, fun hk => ?_⟩
    · cases hh : nameS n.uid
      · exact absurd (.inl ⟨hu, hh⟩) h1
      · rfl
    · cases hh : nameS n.grp
      · exact absurd (.inr hh) h1
      · rfl
    · rw [Bool.eq_false_iff]; exact fun e => h2 ⟨hu, e⟩
    · rw [Bool.eq_false_iff]; exact fun e => h6 ⟨hk, e⟩

theorem goR_ok : ∀ (r ahead : List Nd), goR ahead r = none → ∀ k (hk : k < r.length), OkG (ahead ++ r.take k) (typesR [] (ahead ++ r.take k)) r[k]
  | [], ahead, h, k, hk => by simp at hk
  | n :: r, ahead, h, k, hk => by
    rw [goR] at h
    split at h
    · simp at h
    · rename_i h0
      have h1 : nodeG ahead (typesR [] ahead) n = 0 := by omega
      cases k with
      | zero => simpa using okG_of h1
      | succ k =>
        have := goR_ok r _ h k (by simpa using hk)
        simpa using this

theorem okG_all {g : List Nd} (h : (checkR g).2 = 0) : g ≠ [] ∧ goR [] g = none ∧ ∀ k (hk : k < g.length), OkG (g.take k) (typesR [] (g.take k)) g[k] := by
  have hn : goR [] g = none := by
    have G := h
    unfold checkR at G
    split at G
    · simp at G
    split at G
    · simp at G
    rename_i h1 h2
    cases hg : goR [] g with
    | none => rfl
    | some p =>
      obtain ⟨i, e⟩ := p
      rw [hg] at G
      simp only at G
      exfalso
      have : ∀ (r ahead : List Nd), goR ahead r = some (i, e) → e ≠ 0 := by
        intro r
        induction r with
        | nil => intro a h; simp [goR] at h
        | cons n r ih =>
          intro a h
          rw [goR] at h
          split at h
          · rename_i h0; simp at h; omega
          · exact ih _ h
      exact this g [] hg G
  refine ⟨fun e => ?_, hn, fun k hk => by simpa using goR_ok g [] hn k hk⟩
  subst e
  simp [checkR] at h

/-- What is wrong with a node of which nothing is. -/
theorem nodeN_of {ahead : List Nd} {ts : List Ty} {n : Nd} (h : OkG ahead ts n) : nodeN ahead ts n = ((outO n.op (n.ins.map (fun i => ts.getD i.toNat (.mk 0 [])))).get (.mk 0 []), 0) := by
  obtain ⟨t, ht⟩ := h.out
  have hf := (outO_ok ht).1
  unfold nodeN
  rw [if_neg (by rintro (⟨a, b⟩ | b)
                 · rw [h.uid a] at b; simp at b
                 · rw [h.grp] at b; simp at b), if_neg (by rintro ⟨a, b⟩; rw [h.twice a] at b; simp at b), if_neg (by
    have := h.par
    have := h.seen
    rintro (a | a | a | a | a)
    · omega
    · omega
    · omega
    · omega
    · rw [h.seen] at a; simp at a), outP_of ht, ht]
  simp only [R.get]
  have := h.wt
  rw [if_neg (by omega), if_neg]
  rintro ⟨a, b⟩
  by_cases hk : n.op.k = 1 ∨ n.op.k = 9
  · rw [h.name hk] at b; simp at b
  · simp only [fieldsO, Bool.and_eq_true, Bool.or_eq_true, decide_eq_true_eq] at hf
    rcases hf.1.1.1.1.1 with q | q
    · exact hk q
    · exact a q

theorem goG_of : ∀ (r ahead : List Nd), (∀ k (hk : k < r.length), OkG (ahead ++ r.take k) (typesR [] (ahead ++ r.take k)) r[k]) → goG ahead (typesR [] ahead) r = .ok (typesR [] (ahead ++ r))
  | [], ahead, h => by simp [goG]
  | n :: r, ahead, h => by
    have h0 := h 0 (by simp)
    simp only [List.take_zero, List.append_nil, List.getElem_cons_zero] at h0
    rw [goG, nodeN_of h0]
    simp only [ne_eq, not_true_eq_false, if_false]
    have := goG_of r (ahead ++ [n]) (fun k hk => by
      have := h (k + 1) (by simpa using hk)
      simpa using this)
    rw [typesR_snoc] at this
    rw [this]
    simp

/-- The types of a job that may be. -/
theorem typesG_of {g : List Nd} (h : (checkR g).2 = 0) : typesG g = typesR [] g := by
  have := goG_of g [] (fun k hk => by simpa using (okG_all h).2.2 k hk)
  unfold typesG
  have e : goG [] [] g = .ok (typesR [] g) := by simpa [typesR] using this
  rw [e]

end Go.Proofs.YtijnpcociedigaaGreatDoor
end

section
/- Jobs that may be: what their names and states ask for. -/
set_option linter.unusedSimpArgs false
set_option linter.unusedVariables false
namespace Go.Proofs.YtijnpcociedigaaGreatDoor
open Go Go.Abs

theorem sum_ints (f : Int → Nat) : ∀ (k : Nat) (l : List Int), l.Nodup → (∀ i ∈ l, 0 ≤ i ∧ i < k) → (l.map f).sum ≤ ((List.range k).map fun j : Nat => f (j : Int)).sum
  | 0, l, _, h => by
    cases l with
    | nil => simp
    | cons a l => have := h a (by simp); omega
  | k + 1, l, hn, h => by
    rw [List.range_succ, List.map_append, List.sum_append]
    by_cases hk : (k : Int) ∈ l
    · have hp := List.perm_cons_erase hk
      have e1 : (l.map f).sum = f k + ((l.erase (k : Int)).map f).sum := by
        have := (hp.map f).sum_nat
        simpa using this
      have := sum_ints f k (l.erase (k : Int)) (hn.erase _) (fun i hi => by
        have h1 := h i (List.mem_of_mem_erase hi)
        have h2 : i ≠ (k : Int) := fun e => by subst e; exact (List.Nodup.not_mem_erase hn) hi
        omega)
      simp
      omega
    · have := sum_ints f k l hn (fun i hi => by
        have h1 := h i hi
        have h2 : i ≠ (k : Int) := fun e => hk (e ▸ hi)
        omega)
      omega

theorem join_sum (l : List (List UInt8)) : (TJ.join [44] l).length ≤ (l.map fun x => x.length + 1).sum := by
  have ht : ∀ l : List (List UInt8), (TJ.tail [44] l).length ≤ (l.map fun x => x.length + 1).sum := by
    intro l
    induction l with
    | nil => simp [TJ.tail]
    | cons x r ih => simp only [TJ.tail, List.length_append, List.length_cons, List.length_nil, List.map_cons, List.sum_cons]; omega
  cases l with
  | nil => simp [TJ.join]
  | cons x r =>
    have := ht r
    simp only [TJ.join, List.length_append, List.map_cons, List.sum_cons]
    omega

/-- How long the names ahead are. -/
def idSum (g : List Nd) (k : Nat) : Nat := ((List.range k).map fun j => (idAt g j).length + 1).sum
/-- What a node's name is made of. -/
def SmN (n : Nd) : Prop := n.ins.Nodup ∧ n.uid.length ≤ 16 ∧ n.op.name.length ≤ 16 ∧ I64 n.op.k

theorem base_len {g : List Nd} (G : GoodU g) {k : Nat} (hk : k < g.length) (hd : SmN g[k]) : (baseU g[k] (idsU g)).length ≤ 58 + idSum g k := by
  obtain ⟨h1, h2, h3, h4⟩ := hd
  unfold baseU
  split
  · have hit := itoa_len h4
    have hj := join_sum (g[k].ins.map fun i => (idsU g).getD i.toNat [])
    rw [List.map_map] at hj
    have hs := sum_ints (fun i => (idAt g i.toNat).length + 1) k g[k].ins h1 (G.ins k hk)
    simp only [Int.toNat_natCast] at hs
    have e : ((fun x : List UInt8 => x.length + 1) ∘ fun i : Int => (idsU g).getD i.toNat []) = fun i => (idAt g i.toNat).length + 1 := rfl
    rw [e] at hj
    unfold idSum
    simp only [List.length_cons, List.length_append, List.length_nil]
    omega
  · simp only [List.length_cons]
    omega

/-- Names double in length from node to node at most. -/
theorem id_sum {g : List Nd} (G : GoodU g) (hl : g.length ≤ 1000) (hd : ∀ k (hk : k < g.length), SmN g[k]) : ∀ k, k ≤ g.length → idSum g k + 100 ≤ 100 * 2 ^ k
  | 0, _ => by simp [idSum]
  | k + 1, hk => by
    have ih := id_sum G hl hd k (by omega)
    have hb := base_len G (show k < g.length by omega) (hd k (by omega))
    have e : idSum g (k + 1) = idSum g k + ((idAt g k).length + 1) := by
      unfold idSum
      rw [List.range_succ, List.map_append, List.sum_append]
      simp
    have hi := id_at G (show k < g.length by omega)
    have hcnt : ((bareU g).take k).count (bareAt g k) ≤ 1000 := by
      have h2 : ((bareU g).take k).length ≤ 1000 := by rw [List.length_take, bareU_length]; omega
      exact Nat.le_trans List.count_le_length h2
    have hlen : (idAt g k).length ≤ (baseU g[k] (idsU g)).length + 21 := by
      rw [hi, fullU, bare_at G (show k < g.length by omega), List.length_append]
      have : (sufU (((bareU g).take k).count (bareAt g k))).length ≤ 21 := by
        generalize ((bareU g).take k).count (bareAt g k) = c at *
        unfold sufU
        split
        · simp
        · have hit := itoa_len (n := (c : Int)) (by constructor <;> omega)
          have hit2 : Lib.itoa (c : Int) = Lib.decDigits c := by unfold Lib.itoa; rw [if_neg (by omega)]; simp
          rw [hit2] at hit
          simp only [List.length_cons]
          omega
      rw [bare_at G (show k < g.length by omega)] at this
      omega
    rw [e, Nat.pow_succ]
    omega

theorem base_le {g : List Nd} (G : GoodU g) (hl : g.length ≤ 16) (hd : ∀ k (hk : k < g.length), SmN g[k]) {k : Nat} (hk : k < g.length) : (baseU g[k] (idsU g)).length ≤ 1000000000 := by
  have h1 := base_len G hk (hd k hk)
  have h2 := id_sum G (by omega) hd k (by omega)
  have h3 : 2 ^ k ≤ 2 ^ 16 := Nat.pow_le_pow_right (by omega) (by omega)
  have h4 : (2:Nat) ^ 16 = 65536 := by decide
  omega

theorem nameS_facts {s : List UInt8} (h : nameS s = true) : s.length ≤ 16 ∧ ∀ c ∈ s, plainB c = true := by
  unfold nameS at h
  split at h
  · simp at h
  · rename_i c r
    simp only [Bool.and_eq_true, decide_eq_true_eq, List.all_eq_true] at h
    refine ⟨by simp only [List.length_cons]; omega, fun x hx => ?_⟩
    have := h.2 x hx
    simp only [nameC, Bool.or_eq_true, Bool.and_eq_true, decide_eq_true_eq] at this
    simp only [plainB, Bool.and_eq_true, decide_eq_true_eq]
    refine ⟨⟨?_, ?_⟩, ?_⟩ <;> (rintro rfl; simp at this)

theorem out_name {o : Opr} {ins : List Ty} {t : Ty} (h : outO o ins = .ok t) : (nameS o.name = true ∨ o.name = []) ∧ (o.k = 1 → checkT o.t 0 = 0) := by
  have hf := (outO_ok h).1
  unfold outO at h
  split at h
  · simp at h
  split at h
  · simp at h
  rename_i h2
  split at h
  · simp at h
  split at h
  · simp at h
  refine ⟨?_, fun hk => ?_⟩
  · by_cases hk : o.k = 1 ∨ o.k = 9
    · left
      cases hh : nameS o.name
      · exact absurd ⟨hk, hh⟩ h2
      · rfl
    · right
      simp only [fieldsO, Bool.and_eq_true, Bool.or_eq_true, decide_eq_true_eq] at hf
      rcases hf.1.1.1.1.1 with q | q
      · exact absurd q hk
      · exact q
  · rw [if_pos hk] at h
    split at h
    · simp at h
    · rename_i q; exact Classical.not_not.1 q

theorem fieldsO_nums {o : Opr} (h : fieldsO o = true) : I64 o.f ∧ I64 o.n := by
  simp only [fieldsO, Bool.and_eq_true] at h
  obtain ⟨⟨_, h1⟩, h2⟩ := h
  constructor
  · split at h1 <;> simp at h1 <;> constructor <;> omega
  · split at h2 <;> simp at h2 <;> constructor <;> omega

structure UidF (g : List Nd) : Prop where
  good : GoodU g
  len : g.length ≤ 16
  ne : g ≠ []
  small : ∀ k (hk : k < g.length), SmN g[k]
  mx : ∀ k (hk : k < g.length), 1 ≤ g[k].mx ∧ g[k].mx ≤ 16
  nums : ∀ k (hk : k < g.length), I64 g[k].op.f ∧ I64 g[k].op.n ∧ I64 g[k].mx
  key : ∀ k (hk : k < g.length), (g[k].op.k = 5 ∨ g[k].op.k = 6 ∨ g[k].op.k = 7) → ∃ j r u, g[k].ins = j :: r ∧ 0 ≤ j ∧ j < (typesR [] g).length ∧ checkE g[k].op.key ((typesR [] g).getD j.toNat (.mk 0 [])) = .ok u
  src : ∀ k (hk : k < g.length), g[k].op.k = 1 → checkT g[k].op.t 0 = 0
  uidn : ∀ k (hk : k < g.length), g[k].uid ≠ [] → nameS g[k].uid = true

theorem typesR_pre : ∀ (l : List Nd) (ts : List Ty), ∃ x, typesR ts l = ts ++ x
  | [], ts => ⟨[], by simp [typesR]⟩
  | n :: r, ts => by
    obtain ⟨x, hx⟩ := typesR_pre r (ts ++ [(outO n.op (n.ins.map (fun i => ts.getD i.toNat (.mk 0 [])))).get (.mk 0 [])])
    exact ⟨_, by rw [typesR, hx, List.append_assoc]⟩
theorem typesR_app : ∀ (a b : List Nd) (ts : List Ty), typesR ts (a ++ b) = typesR (typesR ts a) b
  | [], b, ts => rfl
  | n :: a, b, ts => by simp only [List.cons_append, typesR]; exact typesR_app a b _
theorem typesR_getD {g : List Nd} {i j : Nat} (hi : i ≤ g.length) (h : j < i) : (typesR [] (g.take i)).getD j (.mk 0 []) = (typesR [] g).getD j (.mk 0 []) := by
  have e := typesR_app (g.take i) (g.drop i) []
  rw [List.take_append_drop] at e
  obtain ⟨x, hx⟩ := typesR_pre (g.drop i) (typesR [] (g.take i))
  rw [hx] at e
  have hl : (typesR [] (g.take i)).length = i := by rw [typesR_length]; simp [hi]
  rw [e, List.getD_eq_getElem?_getD, List.getD_eq_getElem?_getD, List.getElem?_append_left (by omega)]

theorem uidF_of {g : List Nd} (h : (checkR g).2 = 0) : UidF g := by
  obtain ⟨hne, _, hok⟩ := okG_all h
  have hG := checkR_good h
  have huid : ∀ k (hk : k < g.length), g[k].uid ≠ [] → nameS g[k].uid = true := fun k hk => (hok k hk).uid
  have hnm : ∀ k (hk : k < g.length), nameS g[k].op.name = true ∨ g[k].op.name = [] := fun k hk => by
    obtain ⟨t, ht⟩ := (hok k hk).out
    exact (out_name ht).1
  have hrange : ∀ k (hk : k < g.length), 1 ≤ g[k].op.k ∧ g[k].op.k ≤ 9 := fun k hk => by
    obtain ⟨t, ht⟩ := (hok k hk).out
    exact (outO_ok ht).2.2.1
  have hlenR : (typesR [] g).length = g.length := by rw [typesR_length]; simp
  refine ⟨⟨fun k hk i hi => ?_, fun i k hi hk hu => ?_, fun k hk c hc => ?_, fun k hk c hc => ?_⟩, hG.len, hne, fun k hk => ⟨(hG.ins k hk).2, ?_, ?_, ?_⟩, fun k hk => ?_, fun k hk => ?_, fun k hk hkk => ?_, fun k hk hk1 => ?_, huid⟩
  · have := (hG.ins k hk).1 i hi; omega
  · have ht := (hok k hk).twice hu
    intro e
    have hm : (g.take k).any (fun o => decide (o.uid = g[k].uid)) = true := any_take hi (by omega) (by simpa using e)
    rw [hm] at ht
    simp at ht
  · rcases hnm k hk with q | q
    · exact (nameS_facts q).2 c hc
    · rw [q] at hc; simp at hc
  · by_cases hu : g[k].uid = []
    · rw [hu] at hc; simp at hc
    · exact (nameS_facts (huid k hk hu)).2 c hc
  · by_cases hu : g[k].uid = []
    · rw [hu]; simp
    · exact (nameS_facts (huid k hk hu)).1
  · rcases hnm k hk with q | q
    · exact (nameS_facts q).1
    · rw [q]; simp
  · have := hrange k hk
    constructor <;> omega
  · have := (hok k hk).par; omega
  · obtain ⟨t, ht⟩ := (hok k hk).out
    have := (hok k hk).par
    obtain ⟨h1, h2⟩ := fieldsO_nums (outO_ok ht).1
    exact ⟨h1, h2, by constructor <;> omega⟩
  · obtain ⟨t, ht⟩ := (hok k hk).out
    obtain ⟨_, h2, _, _, h5⟩ := outO_ok ht
    obtain ⟨u, hu⟩ := h5 (by simp [keyedO]; omega)
    rw [List.length_map] at h2
    have hl1 : g[k].ins.length = 1 := by
      unfold insO at h2
      rw [if_neg (by omega), if_neg (by omega)] at h2
      simpa using h2
    obtain ⟨j, r, hj⟩ : ∃ j r, g[k].ins = j :: r := by
      cases hh : g[k].ins with
      | nil => rw [hh] at hl1; simp at hl1
      | cons j r => exact ⟨j, r, rfl⟩
    have hjk := (hG.ins k hk).1 j (by rw [hj]; simp)
    refine ⟨j, r, u, hj, hjk.1, by omega, ?_⟩
    rw [hj] at hu
    simp only [List.map_cons, List.getD_cons_zero] at hu
    rw [typesR_getD (by omega) (by omega)] at hu
    exact hu
  · obtain ⟨t, ht⟩ := (hok k hk).out
    exact (out_name ht).2 hk1

end Go.Proofs.YtijnpcociedigaaGreatDoor
end

section
/- The laws of names that last: what all share. -/
set_option linter.unusedSimpArgs false
set_option linter.unusedVariables false
namespace Go.Proofs.YtijnpcociedigaaGreatDoor
open Go Go.Abs

attribute [local irreducible] Abs.Fn

theorem ids_asked {g : List Nd} (F : UidF g) (hok : ∀ n ∈ g, OkN n) : ∀ k (hk : k < g.length), (∀ i ∈ g[k].ins, 0 ≤ i ∧ i < k) ∧ g[k].ins.length ≤ 1000000 ∧ g[k].uid.length ≤ 1000000 ∧ I64 g[k].op.k ∧ (baseU g[k] (idsU g)).length ≤ 1000000000 := fun k hk => by
  obtain ⟨h1, h2, h3, h4⟩ := F.small k hk
  exact ⟨F.good.ins k hk, (hok _ (List.getElem_mem hk)).ins, by omega, h4, base_le F.good F.len F.small hk⟩

theorem idsF_spec {g : List Nd} (F : UidF g) (hok : ∀ n ∈ g, OkN n) : Abs.Fn Tryz.prog uid_IDs_i [] [.p (.slice (g.map encN))] (.p (.slice ((idsU g).map .str))) [] :=
  IDs_spec g (by have := F.len; omega) (ids_asked F hok)

theorem FindU_spec {g : List Nd} (hi : Abs.Fn Tryz.prog uid_IDs_i [] [.p (.slice (g.map encN))] (.p (.slice ((idsU g).map .str))) []) (hl : g.length ≤ 1000) (s : List UInt8) : Abs.Fn Tryz.prog uid_Find_i [] [.p (.slice (g.map encN)), .p (.str s)] (.p (.int .i64 (idxF (fun x => decide (x = s)) 0 (idsU g)))) [] := by
  apply uid_Find_fn
  simp [uid_Find]
  refine aCallW_of rfl rfl hi ?_
  simp
  refine aCallW_of rfl rfl (findU_spec (idsU g) s (by simp; omega)) ?_
  simp
  exact gives_p rfl

theorem SchemaF_spec {g : List Nd} (h : (checkR g).2 = 0) (hok : ∀ n ∈ g, OkN n) (i : Nat) (hi : i < g.length) : Abs.Fn Tryz.prog uid_Schema_i [] [.p (.slice (g.map encN)), .p (.int .i64 i)] (.p (.str (schemaU (typesR [] g) g[i]))) [] := by
  have F := uidF_of h
  have hT := typesG_of h
  have hl : (typesR [] g).length = g.length := by rw [typesR_length]; simp
  have := SchemaU_spec g hok (by have := F.len; omega) i hi (fun hk => by
    obtain ⟨j, r, u, h1, h2, h3, _⟩ := F.key i hi hk
    exact ⟨j, r, h1, h2, by rw [hT]; exact h3⟩) (F.nums i hi) (F.src i hi)
  rw [hT, if_neg (by omega)] at this
  exact this

def smallU : List Nd := [srcG 2 4, { mapG with uid := [109] }, sinkG 1 2 4]
theorem okN_smallU : ∀ n ∈ smallU, OkN n := by
  intro n hn
  simp only [smallU, List.mem_cons, List.not_mem_nil, or_false] at hn
  rcases hn with rfl | rfl | rfl
  · exact okN_src _ _
  · exact ⟨okN_map.es, okN_map.key, okN_map.len, okN_map.ins⟩
  · exact okN_sink _ _ _
theorem smallU_check : checkR smallU = (0, 0) := by rfl
theorem small_itoa : Lib.itoa 1 = [49] ∧ Lib.itoa 9 = [57] ∧ Lib.itoa 4 = [52] := by
  refine ⟨?_, ?_, ?_⟩ <;> (simp [Lib.itoa]; rw [Lib.decDigits]; decide)
theorem smallU_ids : idsU smallU = [[97, 58, 49, 58, 115, 40, 41], [117, 58, 109], [97, 58, 57, 58, 97, 40, 117, 58, 109, 41]] := by
  simp [idsU, idsGo, smallU, baseU, fullU, sufU, small_itoa.1, small_itoa.2.1, TJ.join, TJ.tail, List.count, List.countP, List.countP.go]
theorem smallU_types : typesR [] smallU = [.mk 1 [], .mk 1 [], .mk 1 []] := by rfl
theorem smallU_row : (smallG.map encN).set 1 ((encN mapG).putT 0 [.str [109]]) = smallU.map encN := by rfl

theorem known9_spec : Abs.Fn Tryz.prog runnellaw9_known_i [] [] (.p (.bool true)) [] := by
  have F := uidF_of (g := smallU) (by rw [smallU_check])
  have hi := idsF_spec F okN_smallU
  have f1 := FindU_spec hi (by simp [smallU]) [117, 58, 109]
  have f2 := FindU_spec hi (by simp [smallU]) [120]
  have s0 := SchemaF_spec (g := smallU) (by rw [smallU_check]) okN_smallU 0 (by simp [smallU])
  have s1 := SchemaF_spec (g := smallU) (by rw [smallU_check]) okN_smallU 1 (by simp [smallU])
  rw [smallU_ids] at hi f1 f2
  rw [smallU_types] at s0 s1
  have e0 : schemaU [.mk 1 [], .mk 1 [], .mk 1 []] smallU[0] = [115, 111, 117, 114, 99, 101, 32, 105, 110, 116, 32, 52] := by
    simp [smallU, schemaU, small_itoa.2.2, textT, wordS, TJ.join, TJ.tail]
  have e1 : schemaU [.mk 1 [], .mk 1 [], .mk 1 []] smallU[1] = [] := by
    simp [smallU, schemaU]
  rw [e0] at s0
  rw [e1] at s1
  have i1 : idxF (fun x : List UInt8 => decide (x = [117, 58, 109])) 0 [[97, 58, 49, 58, 115, 40, 41], [117, 58, 109], [97, 58, 57, 58, 97, 40, 117, 58, 109, 41]] = 1 := by rfl
  have i2 : idxF (fun x : List UInt8 => decide (x = [120])) 0 [[97, 58, 49, 58, 115, 40, 41], [117, 58, 109], [97, 58, 57, 58, 97, 40, 117, 58, 109, 41]] = -1 := by rfl
  rw [i1] at f1
  rw [i2] at f2
  have hrow : ∀ h, (smallG.map encN).set 1 (((smallG.map encN)[1]'h).putT 0 [.str [109]]) = smallU.map encN := fun h => smallU_row
  generalize hG : smallG.map encN = G at *
  have hG3 : G.length = 3 := by rw [← hG]; rfl
  apply runnellaw9_known_fn
  simp [runnellaw9_known]
  refine aCallW_of rfl rfl SmallR_spec ?_
  rw [hG]
  simp [hG3]
  rw [hrow]
  have hU3 : (smallU.map encN).length = 3 := rfl
  generalize smallU.map encN = U at *
  refine aCallZ_of (id := 0) rfl ?_
  simp [AV.unm, AV.unm1, hU3]
  rw [List.take_of_length_le (by omega)]
  refine aCallW_of rfl rfl hi ?_
  simp
  intro _
  refine aMerge_intro true (fun _ => ?_) ?_
  · refine aCallY_of (id := 0) rfl ?_
    simp [AV.unm, AV.unm1, hU3]
    rw [List.take_of_length_le (by omega)]
    refine aCallW_of rfl rfl f1 ?_
    simp
  simp
  refine aMerge_intro true (fun _ => ?_) ?_
  · refine aCallY_of (id := 0) rfl ?_
    simp [AV.unm, AV.unm1, hU3]
    rw [List.take_of_length_le (by omega)]
    refine aCallW_of rfl rfl f2 ?_
    simp
  simp
  refine aMerge_intro true (fun _ => ?_) ?_
  · refine aCallY_of (id := 0) rfl ?_
    simp [AV.unm, AV.unm1, hU3]
    rw [List.take_of_length_le (by omega)]
    refine aCallW_of rfl rfl s0 ?_
    simp
  simp
  refine aMerge_intro true (fun _ => ?_) ?_
  · refine aCallY_of (id := 0) rfl ?_
    simp [AV.unm, AV.unm1, hU3]
    rw [List.take_of_length_le (by omega)]
    refine aCallW_of rfl rfl s1 ?_
    simp
  simp
  exact gives_p rfl

end Go.Proofs.YtijnpcociedigaaGreatDoor
end

section
/- The law UidAny. -/
set_option linter.unusedSimpArgs false
set_option linter.unusedVariables false
namespace Go.Proofs.YtijnpcociedigaaGreatDoor
open Go Go.Abs

attribute [local irreducible] Abs.Fn

theorem idxF_at {α : Type} (p : α → Bool) : ∀ (l : List α) (k i : Nat) (hi : i < l.length), (∀ j (hj : j < i), p (l[j]'(by omega)) = false) → p l[i] = true → idxF p k l = ((k + i : Nat) : Int)
  | a :: r, k, 0, hi, h, h2 => by
    have h2 : p a = true := h2
    simp [idxF, h2]
  | a :: r, k, i + 1, hi, h, h2 => by
    have h0 : p a = false := h 0 (by omega)
    have := idxF_at p r (k + 1) i (by simpa using hi) (fun j hj => h (j + 1) (by omega)) h2
    simp only [idxF, h0, Bool.false_eq_true, if_false]
    rw [this]
    omega
theorem getD_el {l : List (List UInt8)} {i : Nat} (h : i < l.length) : l.getD i [] = l[i] := by simp [List.getD_eq_getElem?_getD, h]

end Go.Proofs.YtijnpcociedigaaGreatDoor
end

section
/- The law UidNamed. -/
set_option linter.unusedSimpArgs false
set_option linter.unusedVariables false
namespace Go.Proofs.YtijnpcociedigaaGreatDoor
open Go Go.Abs

attribute [local irreducible] Abs.Fn

abbrev zzS : List UInt8 := [122, 122]
def zzG (i : Nat) (g : List Nd) : List Nd := g.set i { g.getD i noN with uid := zzS }

theorem zzG_length (i : Nat) (g : List Nd) : (zzG i g).length = g.length := by simp [zzG]
theorem zzG_ne (i : Nat) (g : List Nd) (j : Nat) (hj : j < g.length) (h : j ≠ i) : (zzG i g)[j]'(by rw [zzG_length]; exact hj) = g[j] := by
  simp only [zzG]
  rw [List.getElem_set_ne (fun e => h e.symm)]
theorem zzG_eq (i : Nat) (g : List Nd) (hi : i < g.length) : (zzG i g)[i]'(by rw [zzG_length]; exact hi) = { g[i] with uid := zzS } := by
  simp [zzG, List.getD_eq_getElem?_getD, hi]

theorem zzG_same (i : Nat) (g : List Nd) (j : Nat) (hj : j < g.length) : ((zzG i g)[j]'(by rw [zzG_length]; exact hj)).op = g[j].op ∧ ((zzG i g)[j]'(by rw [zzG_length]; exact hj)).ins = g[j].ins := by
  by_cases h : j = i
  · subst h; rw [zzG_eq _ _ hj]; exact ⟨rfl, rfl⟩
  · rw [zzG_ne _ _ _ hj h]; exact ⟨rfl, rfl⟩
theorem zzG_uid (i : Nat) (g : List Nd) (j : Nat) (hj : j < g.length) : ((zzG i g)[j]'(by rw [zzG_length]; exact hj)).uid = if j = i then zzS else g[j].uid := by
  by_cases h : j = i
  · subst h; rw [zzG_eq _ _ hj, if_pos rfl]
  · rw [zzG_ne _ _ _ hj h, if_neg h]

theorem zz_good {g : List Nd} (G : GoodU g) (i : Nat) (hz : ∀ j (hj : j < g.length), g[j].uid ≠ zzS) : GoodU (zzG i g) := by
  refine ⟨fun k hk x hx => ?_, fun a b hab hb hu => ?_, fun k hk c hc => ?_, fun k hk c hc => ?_⟩
  · have hkg : k < g.length := by rw [zzG_length] at hk; exact hk
    rw [(zzG_same i g k hkg).2] at hx
    exact G.ins k hkg x hx
  · have hbg : b < g.length := by rw [zzG_length] at hb; exact hb
    have hag : a < g.length := by omega
    rw [zzG_uid i g b hbg] at hu ⊢
    rw [zzG_uid i g a hag]
    by_cases h1 : b = i
    · rw [if_pos h1, if_neg (by omega)]
      exact hz a hag
    · rw [if_neg h1] at hu ⊢
      by_cases h2 : a = i
      · rw [if_pos h2]
        exact fun e => hz b hbg e.symm
      · rw [if_neg h2]
        exact G.uid a b hab hbg hu
  · have hkg : k < g.length := by rw [zzG_length] at hk; exact hk
    rw [(zzG_same i g k hkg).1] at hc
    exact G.nam k hkg c hc
  · have hkg : k < g.length := by rw [zzG_length] at hk; exact hk
    rw [zzG_uid i g k hkg] at hc
    split at hc
    · simp only [zzS, List.mem_cons, List.not_mem_nil, or_false] at hc
      rcases hc with rfl | rfl <;> decide
    · exact G.uidp k hkg c hc

theorem zz_ids {g : List Nd} (F : UidF g) (hok : ∀ n ∈ g, OkN n) (i : Nat) (hz : ∀ j (hj : j < g.length), g[j].uid ≠ zzS) :
    Abs.Fn Tryz.prog uid_IDs_i [] [.p (.slice ((zzG i g).map encN))] (.p (.slice ((idsU (zzG i g)).map .str))) [] := by
  have G2 := zz_good F.good i hz
  have hsm : ∀ k (hk : k < (zzG i g).length), SmN (zzG i g)[k] := fun k hk => by
    have hkg : k < g.length := by rw [zzG_length] at hk; exact hk
    obtain ⟨h1, h2, h3, h4⟩ := F.small k hkg
    obtain ⟨e1, e2⟩ := zzG_same i g k hkg
    refine ⟨by rw [e2]; exact h1, ?_, by rw [e1]; exact h3, by rw [e1]; exact h4⟩
    rw [zzG_uid i g k hkg]
    split
    · simp
    · exact h2
  refine IDs_spec _ (by rw [zzG_length]; have := F.len; omega) (fun k hk => ?_)
  have hkg : k < g.length := by rw [zzG_length] at hk; exact hk
  obtain ⟨h1, h2, h3, h4⟩ := hsm k hk
  refine ⟨G2.ins k hk, ?_, by omega, h4, base_le G2 (by rw [zzG_length]; exact F.len) hsm hk⟩
  rw [(zzG_same i g k hkg).2]
  exact (hok _ (List.getElem_mem hkg)).ins

/-- Who is renamed has another name. -/
theorem zz_self {g : List Nd} (G : GoodU g) (i : Nat) (hi : i < g.length) (hz : ∀ j (hj : j < g.length), g[j].uid ≠ zzS) : idAt (zzG i g) i = [117, 58, 122, 122] ∧ idAt g i ≠ idAt (zzG i g) i := by
  have G2 := zz_good G i hz
  have hi2 : i < (zzG i g).length := by rw [zzG_length]; exact hi
  have hu : (zzG i g)[i].uid = zzS := by rw [zzG_uid i g i hi, if_pos rfl]
  have h1 : idAt (zzG i g) i = [117, 58, 122, 122] := by
    rw [id_uid G2 hi2 (by rw [hu]; simp), hu]
  refine ⟨h1, ?_⟩
  rw [h1]
  by_cases h : g[i].uid = []
  · obtain ⟨x, hx⟩ := (id_head G hi).1 h
    rw [hx]; simp
  · rw [id_uid G hi h]
    simp only [ne_eq, List.cons.injEq, true_and]
    exact hz i hi

theorem zz_reads {g : List Nd} (G : GoodU g) (i : Nat) (hi : i < g.length) (hz : ∀ j (hj : j < g.length), g[j].uid ≠ zzS) {j : Nat} (hj : j < g.length) (hji : j ≠ i) (hu : g[j].uid = []) {m : Int} (hm : m ∈ g[j].ins)
    (h : m.toNat = i ∨ idAt g m.toNat ≠ idAt (zzG i g) m.toNat) : idAt g j ≠ idAt (zzG i g) j := by
  refine id_differ G (zz_good G i hz) (zzG_length i g) hj (zzG_ne i g j hj hji) hu hm ?_
  rcases h with h | h
  · rw [h]; exact (zz_self G i hi hz).2
  · exact h

theorem zz_keeps {g : List Nd} (G : GoodU g) (i : Nat) (hz : ∀ j (hj : j < g.length), g[j].uid ≠ zzS) {j : Nat} (hj : j < g.length) (hji : j ≠ i) (hu : g[j].uid ≠ []) : idAt g j = idAt (zzG i g) j := by
  have hj2 : j < (zzG i g).length := by rw [zzG_length]; exact hj
  rw [id_uid G hj hu, id_uid (zz_good G i hz) hj2 (by rw [zzG_ne i g j hj hji]; exact hu), zzG_ne i g j hj hji]

set_option maxRecDepth 100000 in
theorem UidNamed_spec (g : List Nd) (k : Int) (hk : 0 ≤ k ∧ k ≤ 255) : Abs.Fn Tryz.prog runnellaw9_UidNamed_i [] [.p (.slice (g.map encN)), .p (.int .u8 k)] (.p (.bool true)) [] := by
  have hg := good8_spec g
  refine fn_mode (runnellaw9_UidNamed_fnH (Hin := [.mode]) ?_)
  simp [runnellaw9_UidNamed]
  refine aCallW_of rfl rfl known9_spec ?_
  simp
  refine aCallW_of rfl rfl hg ?_
  simp
  refine ⟨fun _ => gives_moded (gives_p rfl) rfl, fun hf hc => ?_⟩
  obtain ⟨hl20, hfew⟩ := fewG_ok hf
  have hok : ∀ n ∈ g, OkN n := fun n hn => (hfew n hn).1
  have F := uidF_of hc
  have h16 := F.len
  have hpos : 0 < g.length := List.length_pos_iff.2 F.ne
  obtain ⟨i, hi, hmod⟩ := tmod_nat hk.1 hpos
  have hgi : g[i]? = some g[i] := List.getElem?_eq_getElem hi
  have hrow : (g.map encN).set i (encN { g[i] with uid := zzS }) = (zzG i g).map encN := by
    rw [zzG, List.map_set]
    congr 2
    simp [List.getD_eq_getElem?_getD, hi]
  intro hml
  rw [IntWalk.i64_in k (by omega), hmod]
  have hput : (encN g[i]).putT 0 [T.str [122, 122]] = encN { g[i] with uid := zzS } := rfl
  simp only [Int.toNat_natCast, hgi, Option.map_some, Option.getD_some]
  rw [hput, hrow]
  have hzl : ((zzG i g).map encN).length = g.length := by rw [List.length_map, zzG_length]
  refine ⟨F.ne, ⟨by simp, encN_size g, by simp; omega⟩, by omega, hi, ?_⟩
  refine loop_by (σ := Nat) (n := 2) (fun j => [.p (.int .i64 j)]) (fun _ => [.mode, .mrow 0 21 ((zzG i g).map encN)]) (fun j => j ≤ g.length ∧ ∀ a (ha : a < g.length), a < j → g[a].uid ≠ zzS) (fun j => g.length - j) [] 0 (fun _ => rfl) ⟨rfl, rfl⟩ (by simp) (fun j B hj hB => ?_)
  obtain ⟨h1, h2⟩ := hj
  simp [runnellaw9_UidNamed_L1]
  intro _
  refine ⟨fun hlt => ?_, fun hge => ?_⟩
  · simp [hlt]
    refine ⟨fun _ => gives_moded (gives_p rfl) rfl, fun hne => ?_⟩
    rw [IntWalk.i64_in _ (by omega)]
    refine hB (j + 1) _ ⟨by omega, fun a ha haj => ?_⟩ (by omega) (by simp) (by simp [Ob.below, AV.under1]) (by simp) (by simp [AV.under, AV.under1])
    rcases Nat.lt_or_ge a j with h | h
    · exact h2 a ha h
    · have : a = j := by omega
      subst this
      exact hne
  clear hB
  have hz : ∀ j (hj : j < g.length), g[j].uid ≠ zzS := fun j hj => h2 j hj (by omega)
  have hIds := idsF_spec F hok
  have hIdsZ := zz_ids F hok i hz
  obtain ⟨hself, _⟩ := zz_self F.good i hi hz
  have hrd : ∀ j (hj : j < g.length), j ≠ i → g[j].uid = [] → ∀ m ∈ g[j].ins, (m.toNat = i ∨ (idsU g).getD m.toNat [] ≠ (idsU (zzG i g)).getD m.toNat []) → (idsU g).getD j [] ≠ (idsU (zzG i g)).getD j [] := fun j hj hji hu m hm h => zz_reads F.good i hi hz hj hji hu hm h
  have hkp : ∀ j (hj : j < g.length), j ≠ i → g[j].uid ≠ [] → (idsU g).getD j [] = (idsU (zzG i g)).getD j [] := fun j hj hji hu => zz_keeps F.good i hz hj hji hu
  have hFz := FindU_spec hIdsZ (by rw [zzG_length]; omega) [117, 58, 122, 122]
  have hla := idsU_length g
  have hlb : (idsU (zzG i g)).length = g.length := by rw [idsU_length, zzG_length]
  have hbz : (idsU (zzG i g))[i]? = some [117, 58, 122, 122] := by
    rw [← hself, idAt, getD_el (by omega), List.getElem?_eq_getElem]
  have hidx : idxF (fun x => decide (x = [117, 58, 122, 122])) 0 (idsU (zzG i g)) = i := by
    have hbi : (idsU (zzG i g))[i]'(by omega) = [117, 58, 122, 122] := by rw [← hself, idAt, getD_el (by omega)]
    have := idxF_at (fun x : List UInt8 => decide (x = [117, 58, 122, 122])) (idsU (zzG i g)) 0 i (by omega) (fun j hj => by
      have h3 := ids_apart (zz_good F.good i hz) hj (by rw [zzG_length]; exact hi)
      rw [hself, idAt, getD_el (by omega)] at h3
      simpa using h3) (by simpa using hbi)
    simpa using this
  rw [hidx] at hFz
  clear hself
  generalize (zzG i g).map encN = M at *
  generalize idsU (zzG i g) = Z at *
  generalize idsU g = A at *
  refine aCallW_of rfl rfl hIds ?_
  simp
  refine aCallZ_of (id := 1) rfl ?_
  simp [AV.unm, AV.unm1, hzl]
  rw [List.take_of_length_le (by omega)]
  refine aCallW_of rfl rfl hIdsZ ?_
  simp
  have hiZ : i < Z.length := by omega
  have hbi : Z[i] = [117, 58, 122, 122] := by rw [List.getElem?_eq_getElem hiZ] at hbz; simpa using hbz
  simp [hbz, hi, hla, hlb]
  intro _
  refine aMerge_intro false (fun _ => ?_) ?_
  · refine aCallY_of (id := 1) rfl ?_
    simp [AV.unm, AV.unm1, hzl]
    rw [List.take_of_length_le (by omega)]
    refine aCallW_of rfl rfl hFz ?_
    simp
  simp
  refine ⟨fun h => absurd hbi h, fun _ _ => ⟨by omega, ?_⟩⟩
  have hins := F.good.ins
  have h0 : (List.replicate g.length (T.bool false)).set i (T.bool true) = ((List.replicate g.length false).set i true).map .bool := by simp [List.map_set]
  rw [h0]
  refine loop_by (σ := Nat × List Bool) (n := 3) (fun q => [.p (.int .i64 q.1)]) (fun q => [.mode, .frow 0 21 M, .mrow 0 1 (q.2.map .bool)]) (fun q => q.1 ≤ g.length ∧ q.2.length = g.length ∧ ∀ a, a < g.length → q.2.getD a false = true → a = i ∨ A.getD a [] ≠ Z.getD a []) (fun q => g.length - q.1) [] (0, (List.replicate g.length false).set i true) (fun _ => rfl) ⟨rfl, rfl⟩ ⟨by simp, by simp, fun a ha h => ?_⟩ (fun q B hq hB => ?_)
  · by_cases e : a = i
    · exact .inl e
    · exfalso
      rw [List.getD_eq_getElem?_getD, List.getElem?_set_ne (fun h => e h.symm), List.getElem?_replicate] at h
      simp [ha] at h
  obtain ⟨j, r⟩ := q
  obtain ⟨h1, hrl, hsound⟩ := hq
  simp only at h1 hrl hsound hB
  simp [runnellaw9_UidNamed_L2]
  intro _
  refine ⟨fun hlt => ?_, fun hge => gives_moded (gives_p rfl) rfl⟩
  refine loop_by (σ := Nat × List Bool) (n := 3) (fun q => [.p (.int .i64 q.1)]) (fun q => [.mode, .frow 0 21 M, .mrow 0 1 (q.2.map .bool)]) (fun q => q.1 ≤ g[j].ins.length ∧ q.2.length = g.length ∧ ∀ a, a < g.length → q.2.getD a false = true → a = i ∨ A.getD a [] ≠ Z.getD a []) (fun q => g[j].ins.length - q.1) [] (0, r) (fun _ => rfl) ⟨rfl, rfl⟩ ⟨by simp, hrl, hsound⟩ (fun q B3 hq hB3 => ?_)
  clear hsound hrl
  obtain ⟨m, r⟩ := q
  obtain ⟨h3, hrl, hsound⟩ := hq
  simp only at h3 hrl hsound hB3
  have hjr : j < r.length := by omega
  have hinl := (hok _ (List.getElem_mem hlt)).ins
  by_cases hm : m < g[j].ins.length
  · obtain ⟨g1, g2⟩ := hins j hlt g[j].ins[m] (List.getElem_mem hm)
    have g3 : g[j].ins[m].toNat < r.length := by omega
    have g4 : g[j].ins[m] < g.length := by omega
    simp [runnellaw9_UidNamed_L3, hlt, hm, hjr, g1, g3, g4]
    intro _
    rw [IntWalk.i64_in _ (by omega), show (List.map T.bool r).set j (T.bool (r[j] || decide (g[j].uid = []) && r[g[j].ins[m].toNat])) = (r.set j (r[j] || decide (g[j].uid = []) && r[g[j].ins[m].toNat])).map .bool by rw [List.map_set]]
    refine hB3 (m + 1, r.set j (r[j] || decide (g[j].uid = []) && r[g[j].ins[m].toNat])) _ ⟨by simp only; omega, by simpa using hrl, fun a ha h => ?_⟩ (by simp only; omega) (by simp) (by simp [Ob.below, AV.under1]) (by simp) (by simp [AV.under, AV.under1])
    by_cases e : a = j
    · subst e
      have h : (r[a] || decide (g[a].uid = []) && r[g[a].ins[m].toNat]) = true := by
        simpa [List.getD_eq_getElem?_getD, hjr] using h
      simp only [Bool.or_eq_true, Bool.and_eq_true, decide_eq_true_eq] at h
      rcases h with h | ⟨hu, h⟩
      · exact hsound a ha (by simpa [List.getD_eq_getElem?_getD, hjr] using h)
      · by_cases hai : a = i
        · exact .inl hai
        · exact .inr (hrd a ha hai hu _ (List.getElem_mem hm) (hsound _ (by omega) (by simpa [List.getD_eq_getElem?_getD, g3] using h)))
    · rw [List.getD_eq_getElem?_getD, List.getElem?_set_ne (fun h => e h.symm), ← List.getD_eq_getElem?_getD] at h
      exact hsound a ha h
  · have hjA : j < A.length := by omega
    have hjZ : j < Z.length := by omega
    have next : B [.p (.int .i64 ((j + 1 : Nat)))] [.mode, .frow 0 21 M, .mrow 0 1 (r.map .bool)] := hB (j + 1, r) _ ⟨by simp only; omega, hrl, hsound⟩ (by simp only; omega) (by simp) (by simp [Ob.below, AV.under1]) (by simp) (by simp [AV.under, AV.under1])
    have hs := hsound j hlt
    simp [List.getD_eq_getElem?_getD, hjr, hjA, hjZ] at hs
    have hk2 := hkp j hlt
    simp [List.getD_eq_getElem?_getD, hjA, hjZ] at hk2
    have hJ : runnellaw9_UidNamed_J1 (.p (.int .i64 i)) (.p (.slice (A.map .str))) (.p (.slice (Z.map .str))) (.msl 2 0 1 0 g.length) (.p (.int .i64 j)) [.mode, .frow 0 21 M, .mrow 0 1 (r.map .bool)] B (fun v H' => Gives 1 v H' (.p (.bool true)) []) := by
      unfold runnellaw9_UidNamed_J1
      simp [hlt, hjr, hjA, hjZ]
      rw [IntWalk.i64_in _ (by omega)]
      have next' : B [.p (.int .i64 ((j : Int) + 1))] [.mode, .frow 0 21 M, .mrow 0 1 (r.map .bool)] := by simpa using next
      refine ⟨fun h => ⟨fun hne => ⟨fun he => ?_, fun _ => next'⟩, fun _ => next'⟩, fun _ => next'⟩
      rcases hs h with q | q
      · exact absurd (by rw [q]) hne
      · exact absurd he q
    simp [runnellaw9_UidNamed_L3, hlt, hm, hjr, hjA, hjZ]
    intro _
    exact ⟨fun hu => ⟨fun hne => ⟨fun h => absurd (hk2 (fun e => hne (by rw [e])) hu) h, fun _ => hJ⟩, fun _ => hJ⟩, fun _ => hJ⟩

end Go.Proofs.YtijnpcociedigaaGreatDoor
end
