/- The document's names that last, over trees; what it says of a node's state. -/
import Derived.Test.YtijnpcociedigaaGreatDoorZSpUidSQ
import Derived.Test.YtijnpcociedigaaGreatDoorZSpOutsQ
import Derived.Test.YtijnpcociedigaaGreatDoorZSpText
import Derived.Test.YtijnpcociedigaaGreatDoorZSpOutOQ
import Derived.Test.YtijnpcociedigaaGreatDoorZSpSmallRQ
import Derived.Test.YtijnpcociedigaaGreatDoorS2
import Derived.Test.YtijnpcociedigaaGreatDoorA3

section
/- The document's names that last, over trees; what it says of a node's state. -/
set_option linter.unusedSimpArgs false
set_option linter.unusedVariables false
namespace Go.Proofs.YtijnpcociedigaaGreatDoor
open Go Go.Abs

attribute [local irreducible] Abs.Fn

end Go.Proofs.YtijnpcociedigaaGreatDoor
end

section
/- Jobs that may be: their names, their types, alike in the program and in the document. -/
set_option linter.unusedSimpArgs false
set_option linter.unusedVariables false
namespace Go.Proofs.YtijnpcociedigaaGreatDoor
open Go Go.Abs

theorem ckO_valid {t : Ty} : ∀ {es : List Ex} {ts : List Ty}, ckO t es = .ok ts → ts.length = es.length ∧ ∀ u ∈ ts, checkT u 0 = 0
  | [], ts, h => by
    simp only [ckO, R.ok.injEq] at h
    subst h
    simp
  | e :: r, ts, h => by
    simp only [ckO] at h
    split at h
    · simp at h
    · rename_i u hu
      split at h
      · simp at h
      · rename_i l hl
        simp only [R.ok.injEq] at h
        subst h
        obtain ⟨h1, h2⟩ := ckO_valid hl
        refine ⟨by simp [h1], fun v hv => ?_⟩
        rcases List.mem_cons.1 hv with rfl | hv
        · exact checkE_valid hu
        · exact h2 v hv

theorem getD_valid {l : List Ty} (h : ∀ u ∈ l, checkT u 0 = 0) (hl : 0 < l.length) : checkT (l.getD 0 (.mk 0 [])) 0 = 0 := by
  cases l with
  | nil => simp at hl
  | cons a r => exact h a (by simp)

/-- What the document lets out the program lets out. -/
theorem outP_of {o : Opr} {ins : List Ty} {t : Ty} (h : outO o ins = .ok t) : outP o ins = .ok t := by
  unfold outO at h
  unfold outP
  by_cases h1 : o.k < 1 ∨ 9 < o.k
  · rw [if_pos h1] at h; simp at h
  rw [if_neg h1] at h ⊢
  by_cases h2 : (o.k = 1 ∨ o.k = 9) ∧ nameS o.name = false
  · rw [if_pos h2] at h; simp at h
  rw [if_neg h2] at h ⊢
  by_cases h3 : fieldsO o = false ∨ insO o.k ins.length = false
  · rw [if_pos h3] at h; simp at h
  rw [if_neg h3] at h ⊢
  have hf : fieldsO o = true := by cases hh : fieldsO o <;> simp_all
  have hi : insO o.k ins.length = true := by cases hh : insO o.k ins.length <;> simp_all
  by_cases h4 : ins.any (fun t => decide (checkT t 0 ≠ 0)) = true
  · rw [if_pos h4] at h; simp at h
  rw [if_neg h4] at h
  have hv : ∀ u ∈ ins, checkT u 0 = 0 := by
    intro u hu
    by_cases hz : checkT u 0 = 0
    · exact hz
    · exact absurd (List.any_eq_true.2 ⟨u, hu, by simpa using hz⟩) h4
  by_cases h5 : o.k = 1
  · rw [if_pos h5] at h
    split at h
    · simp at h
    · rename_i ht
      have ht := Classical.not_not.1 ht
      rw [if_neg (by simp only [not_or, not_and]; exact ⟨h4, fun _ => Classical.not_not.2 ht⟩)]
      have hk : keyedO o.k = false := by simp [keyedO, h5]
      have hes : o.es = [] := (fieldsO_len hf).2.2 (by omega) (by omega)
      simp only [hk, hes, ckO, Bool.false_eq_true, if_false]
      have hfit : fitsO o [] ins = true := by simp [fitsO, h5]
      have hg : goesO o noT [] ins = o.t := by simp [goesO, h5]
      rw [lastO, hfit, hg, if_neg (by simp), if_neg (by simpa using ht)]
      exact h
  · rw [if_neg h5] at h
    rw [if_neg (by simp only [not_or, not_and]; exact ⟨h4, fun e => absurd e h5⟩)]
    split at h
    · simp at h
    · rename_i key hkey
      have hkey' : (if keyedO o.k = true then checkE o.key (ins.getD 0 noT) else .ok noT) = R.ok key := hkey
      rw [hkey']
      simp only
      have hkv : keyedO o.k = true → checkT key 0 = 0 := by
        intro hk
        rw [if_pos hk] at hkey
        exact checkE_valid hkey
      split at h
      · simp at h
      · rename_i ts hts
        obtain ⟨hl, htv⟩ := ckO_valid hts
        have hts' : ckO (ins.getD 0 noT) o.es = .ok ts := hts
        rw [hts']
        simp only
        unfold madeO at h
        unfold lastO
        have hlen := fieldsO_len hf
        have fin : ∀ u, fitsO o ts ins = true → goesO o key ts ins = u → checkT u 0 = 0 → R.ok u = R.ok t → (if fitsO o ts ins = false then R.er 5 else if checkT (goesO o key ts ins) 0 ≠ 0 then .er (checkT (goesO o key ts ins) 0) else .ok (goesO o key ts ins)) = R.ok t := by
          intro u a b c d
          rw [a, b, if_neg (by simp), if_neg (by simpa using c)]
          exact d
        have hn : (∀ k, noT = Ty.mk k [] → k = 0) := fun k e => by simp only [noT, Ty.mk.injEq] at e; exact e.1.symm
        by_cases k2 : o.k = 2
        · rw [if_pos k2] at h
          exact fin _ (by simp [fitsO, k2]) (by simp only [goesO]; rw [if_neg h5, if_pos (.inl k2)]; rfl) (getD_valid htv (by have := hlen.1 (by omega); omega)) h
        rw [if_neg k2] at h
        by_cases k3 : o.k = 3
        · rw [if_pos k3] at h
          split at h
          · rename_i hb
            have hb' : (ts.getD 0 noT).kind = 2 := hb
            refine fin _ (by simp only [fitsO]; rw [if_pos k3]; simpa using hb') (by simp only [goesO]; rw [if_neg h5, if_neg (by omega), if_neg (by omega), if_neg (by omega)]; rfl) (getD_valid hv ?_) h
            simp [insO, k3] at hi
            omega
          · simp at h
        rw [if_neg k3] at h
        by_cases k4 : o.k = 4
        · rw [if_pos k4] at h
          split at h
          · rename_i hb
            have hb' : ts.all (fun t => sameT t (ts.getD 0 noT)) = true := hb
            exact fin _ (by simp only [fitsO]; rw [if_neg k3, if_pos k4]; exact hb') (by simp only [goesO]; rw [if_neg h5, if_pos (.inr k4)]; rfl) (getD_valid htv (by have := (hlen.2.1 k4).1; omega)) h
          · simp at h
        rw [if_neg k4] at h
        by_cases k56 : o.k = 5 ∨ o.k = 6
        · rw [if_pos k56] at h
          split at h
          · simp at h
          · rename_i hb
            split at h
            · simp at h
            · rename_i hc
              have hc := Classical.not_not.1 hc
              refine fin _ ?_ (by simp only [goesO]; rw [if_neg h5, if_neg (by omega), if_pos k56]) hc h
              simp only [fitsO]
              rw [if_neg k3, if_neg k4]
              by_cases k5 : o.k = 5
              · rw [if_pos k5]
                have : (ts.getD 0 noT).kind = 1 := Classical.not_not.1 fun hne => hb ⟨k5, hne⟩
                simpa using this
              · rw [if_neg k5, if_neg (by omega)]
        rw [if_neg k56] at h
        by_cases k7 : o.k = 7
        · rw [if_pos k7] at h
          exact fin _ (by simp only [fitsO]; rw [if_neg k3, if_neg k4, if_neg (by omega), if_neg (by omega)]) (by simp only [goesO]; rw [if_neg h5, if_neg (by omega), if_neg k56, if_pos k7]) (hkv (by simp [keyedO, k7])) h
        rw [if_neg k7] at h
        by_cases k8 : o.k = 8
        · rw [if_pos k8] at h
          split at h
          · rename_i hb
            have hb' : ins.all (fun t => sameT t (ins.getD 0 noT)) = true := hb
            refine fin _ (by simp only [fitsO]; rw [if_neg k3, if_neg k4, if_neg (by omega), if_pos k8]; exact hb') (by simp only [goesO]; rw [if_neg h5, if_neg (by omega), if_neg k56, if_neg k7]; rfl) (getD_valid hv ?_) h
            simp [insO, k8] at hi
            omega
          · simp at h
        rw [if_neg k8] at h
        refine fin _ (by simp only [fitsO]; rw [if_neg k3, if_neg k4, if_neg (by omega), if_neg k8]) (by simp only [goesO]; rw [if_neg h5, if_neg (by omega), if_neg k56, if_neg k7]; rfl) (getD_valid hv ?_) h
        simp [insO, h5, k8] at hi
        omega

/-- What a node has that may be. -/
structure OkG (ahead : List Nd) (ts : List Ty) (n : Nd) : Prop where
  uid : n.uid ≠ [] → nameS n.uid = true
  grp : nameS n.grp = true
  twice : n.uid ≠ [] → ahead.any (fun o => decide (o.uid = n.uid)) = false
  par : 1 ≤ n.par ∧ n.par ≤ 4 ∧ n.par ≤ n.mx ∧ n.mx ≤ 16
  seen : seenIn ahead [] n.ins = true
  wt : wtN (wtsG [] ahead) n ≤ 64
  out : ∃ t, outO n.op (n.ins.map (fun i => ts.getD i.toNat (.mk 0 []))) = .ok t
  name : (n.op.k = 1 ∨ n.op.k = 9) → ahead.any (fun o => decide (o.op.k = n.op.k) && decide (o.op.name = n.op.name)) = false

theorem okG_of {ahead : List Nd} {ts : List Ty} {n : Nd} (h : nodeG ahead ts n = 0) : OkG ahead ts n := by
  have hs := nodeG_seen h
  unfold nodeG at h
  split at h
  · simp at h
  rename_i h1
  split at h
  · simp at h
  rename_i h2
  split at h
  · simp at h
  rename_i h3
  split at h
  · simp at h
  rename_i h4
  cases ho : outO n.op (n.ins.map (fun i => ts.getD i.toNat (.mk 0 []))) with
  | er e =>
    rw [ho] at h
    exact absurd h (outO_er ho)
  | ok t =>
    rw [ho] at h
    simp only [lastG] at h
    split at h
    · simp at h
    rename_i h5
    split at h
    · simp at h
    rename_i h6
    refine ⟨fun hu => ?_, ?_, fun hu => ?_, by omega, hs, by omega, ⟨t, ho⟩, fun hk => ?_⟩
    · cases hh : nameS n.uid
      · exact absurd (.inl ⟨hu, hh⟩) h1
      · rfl
    · cases hh : nameS n.grp
      · exact absurd (.inr hh) h1
      · rfl
    · rw [Bool.eq_false_iff]; exact fun e => h2 ⟨hu, e⟩
    · rw [Bool.eq_false_iff]; exact fun e => h6 ⟨hk, e⟩

theorem goR_ok : ∀ (r ahead : List Nd), goR ahead r = none → ∀ k (hk : k < r.length), OkG (ahead ++ r.take k) (typesR [] (ahead ++ r.take k)) r[k]
  | [], ahead, h, k, hk => by simp at hk
  | n :: r, ahead, h, k, hk => by
    rw [goR] at h
    split at h
    · simp at h
    · rename_i h0
      have h1 : nodeG ahead (typesR [] ahead) n = 0 := by omega
      cases k with
      | zero => simpa using okG_of h1
      | succ k =>
        have := goR_ok r _ h k (by simpa using hk)
        simpa using this

theorem okG_all {g : List Nd} (h : (checkR g).2 = 0) : g ≠ [] ∧ goR [] g = none ∧ ∀ k (hk : k < g.length), OkG (g.take k) (typesR [] (g.take k)) g[k] := by
  have hn : goR [] g = none := by
    have G := h
    unfold checkR at G
    split at G
    · simp at G
    split at G
    · simp at G
    rename_i h1 h2
    cases hg : goR [] g with
    | none => rfl
    | some p =>
      obtain ⟨i, e⟩ := p
      rw [hg] at G
      simp only at G
      exfalso
      have : ∀ (r ahead : List Nd), goR ahead r = some (i, e) → e ≠ 0 := by
        intro r
        induction r with
        | nil => intro a h; simp [goR] at h
        | cons n r ih =>
          intro a h
          rw [goR] at h
          split at h
          · rename_i h0; simp at h; omega
          · exact ih _ h
      exact this g [] hg G
  refine ⟨fun e => ?_, hn, fun k hk => by simpa using goR_ok g [] hn k hk⟩
  subst e
  simp [checkR] at h

/-- What is wrong with a node of which nothing is. -/
theorem nodeN_of {ahead : List Nd} {ts : List Ty} {n : Nd} (h : OkG ahead ts n) : nodeN ahead ts n = ((outO n.op (n.ins.map (fun i => ts.getD i.toNat (.mk 0 [])))).get (.mk 0 []), 0) := by
  obtain ⟨t, ht⟩ := h.out
  have hf := (outO_ok ht).1
  unfold nodeN
  rw [if_neg (by rintro (⟨a, b⟩ | b)
                 · rw [h.uid a] at b; simp at b
                 · rw [h.grp] at b; simp at b), if_neg (by rintro ⟨a, b⟩; rw [h.twice a] at b; simp at b), if_neg (by
    have := h.par
    have := h.seen
    rintro (a | a | a | a | a)
    · omega
    · omega
    · omega
    · omega
    · rw [h.seen] at a; simp at a), outP_of ht, ht]
  simp only [R.get]
  have := h.wt
  rw [if_neg (by omega), if_neg]
  rintro ⟨a, b⟩
  by_cases hk : n.op.k = 1 ∨ n.op.k = 9
  · rw [h.name hk] at b; simp at b
  · simp only [fieldsO, Bool.and_eq_true, Bool.or_eq_true, decide_eq_true_eq] at hf
    rcases hf.1.1.1.1.1 with q | q
    · exact hk q
    · exact a q

theorem goG_of : ∀ (r ahead : List Nd), (∀ k (hk : k < r.length), OkG (ahead ++ r.take k) (typesR [] (ahead ++ r.take k)) r[k]) → goG ahead (typesR [] ahead) r = .ok (typesR [] (ahead ++ r))
  | [], ahead, h => by simp [goG]
  | n :: r, ahead, h => by
    have h0 := h 0 (by simp)
    simp only [List.take_zero, List.append_nil, List.getElem_cons_zero] at h0
    rw [goG, nodeN_of h0]
    simp only [ne_eq, not_true_eq_false, if_false]
    have := goG_of r (ahead ++ [n]) (fun k hk => by
      have := h (k + 1) (by simpa using hk)
      simpa using this)
    rw [typesR_snoc] at this
    rw [this]
    simp

/-- The types of a job that may be. -/
theorem typesG_of {g : List Nd} (h : (checkR g).2 = 0) : typesG g = typesR [] g := by
  have := goG_of g [] (fun k hk => by simpa using (okG_all h).2.2 k hk)
  unfold typesG
  have e : goG [] [] g = .ok (typesR [] g) := by simpa [typesR] using this
  rw [e]

end Go.Proofs.YtijnpcociedigaaGreatDoor
end

section
/- Jobs that may be: what their names and states ask for. -/
set_option linter.unusedSimpArgs false
set_option linter.unusedVariables false
namespace Go.Proofs.YtijnpcociedigaaGreatDoor
open Go Go.Abs

theorem sum_ints (f : Int → Nat) : ∀ (k : Nat) (l : List Int), l.Nodup → (∀ i ∈ l, 0 ≤ i ∧ i < k) → (l.map f).sum ≤ ((List.range k).map fun j : Nat => f (j : Int)).sum
  | 0, l, _, h => by
    cases l with
    | nil => simp
    | cons a l => have := h a (by simp); omega
  | k + 1, l, hn, h => by
    rw [List.range_succ, List.map_append, List.sum_append]
    by_cases hk : (k : Int) ∈ l
    · have hp := List.perm_cons_erase hk
      have e1 : (l.map f).sum = f k + ((l.erase (k : Int)).map f).sum := by
        have := (hp.map f).sum_nat
        simpa using this
      have := sum_ints f k (l.erase (k : Int)) (hn.erase _) (fun i hi => by
        have h1 := h i (List.mem_of_mem_erase hi)
        have h2 : i ≠ (k : Int) := fun e => by subst e; exact (List.Nodup.not_mem_erase hn) hi
        omega)
      simp
      omega
    · have := sum_ints f k l hn (fun i hi => by
        have h1 := h i hi
        have h2 : i ≠ (k : Int) := fun e => hk (e ▸ hi)
        omega)
      omega

theorem join_sum (l : List (List UInt8)) : (TJ.join [44] l).length ≤ (l.map fun x => x.length + 1).sum := by
  have ht : ∀ l : List (List UInt8), (TJ.tail [44] l).length ≤ (l.map fun x => x.length + 1).sum := by
    intro l
    induction l with
    | nil => simp [TJ.tail]
    | cons x r ih => simp only [TJ.tail, List.length_append, List.length_cons, List.length_nil, List.map_cons, List.sum_cons]; omega
  cases l with
  | nil => simp [TJ.join]
  | cons x r =>
    have := ht r
    simp only [TJ.join, List.length_append, List.map_cons, List.sum_cons]
    omega

/-- How long the names ahead are. -/
def idSum (g : List Nd) (k : Nat) : Nat := ((List.range k).map fun j => (idAt g j).length + 1).sum
/-- What a node's name is made of. -/
def SmN (n : Nd) : Prop := n.ins.Nodup ∧ n.uid.length ≤ 16 ∧ n.op.name.length ≤ 16 ∧ I64 n.op.k

theorem base_len {g : List Nd} (G : GoodU g) {k : Nat} (hk : k < g.length) (hd : SmN g[k]) : (baseU g[k] (idsU g)).length ≤ 58 + idSum g k := by
  obtain ⟨h1, h2, h3, h4⟩ := hd
  unfold baseU
  split
  · have hit := itoa_len h4
    have hj := join_sum (g[k].ins.map fun i => (idsU g).getD i.toNat [])
    rw [List.map_map] at hj
    have hs := sum_ints (fun i => (idAt g i.toNat).length + 1) k g[k].ins h1 (G.ins k hk)
    simp only [Int.toNat_natCast] at hs
    have e : ((fun x : List UInt8 => x.length + 1) ∘ fun i : Int => (idsU g).getD i.toNat []) = fun i => (idAt g i.toNat).length + 1 := rfl
    rw [e] at hj
    unfold idSum
    simp only [List.length_cons, List.length_append, List.length_nil]
    omega
  · simp only [List.length_cons]
    omega

/-- Names double in length from node to node at most. -/
theorem id_sum {g : List Nd} (G : GoodU g) (hl : g.length ≤ 1000) (hd : ∀ k (hk : k < g.length), SmN g[k]) : ∀ k, k ≤ g.length → idSum g k + 100 ≤ 100 * 2 ^ k
  | 0, _ => by simp [idSum]
  | k + 1, hk => by
    have ih := id_sum G hl hd k (by omega)
    have hb := base_len G (show k < g.length by omega) (hd k (by omega))
    have e : idSum g (k + 1) = idSum g k + ((idAt g k).length + 1) := by
      unfold idSum
      rw [List.range_succ, List.map_append, List.sum_append]
      simp
    have hi := id_at G (show k < g.length by omega)
    have hcnt : ((bareU g).take k).count (bareAt g k) ≤ 1000 := by
      have h2 : ((bareU g).take k).length ≤ 1000 := by rw [List.length_take, bareU_length]; omega
      exact Nat.le_trans List.count_le_length h2
    have hlen : (idAt g k).length ≤ (baseU g[k] (idsU g)).length + 21 := by
      rw [hi, fullU, bare_at G (show k < g.length by omega), List.length_append]
      have : (sufU (((bareU g).take k).count (bareAt g k))).length ≤ 21 := by
        generalize ((bareU g).take k).count (bareAt g k) = c at *
        unfold sufU
        split
        · simp
        · have hit := itoa_len (n := (c : Int)) (by constructor <;> omega)
          have hit2 : Lib.itoa (c : Int) = Lib.decDigits c := by unfold Lib.itoa; rw [if_neg (by omega)]; simp
          rw [hit2] at hit
          simp only [List.length_cons]
          omega
      rw [bare_at G (show k < g.length by omega)] at this
      omega
    rw [e, Nat.pow_succ]
    omega

theorem base_le {g : List Nd} (G : GoodU g) (hl : g.length ≤ 16) (hd : ∀ k (hk : k < g.length), SmN g[k]) {k : Nat} (hk : k < g.length) : (baseU g[k] (idsU g)).length ≤ 1000000000 := by
  have h1 := base_len G hk (hd k hk)
  have h2 := id_sum G (by omega) hd k (by omega)
  have h3 : 2 ^ k ≤ 2 ^ 16 := Nat.pow_le_pow_right (by omega) (by omega)
  have h4 : (2:Nat) ^ 16 = 65536 := by decide
  omega

theorem nameS_facts {s : List UInt8} (h : nameS s = true) : s.length ≤ 16 ∧ ∀ c ∈ s, plainB c = true := by
  unfold nameS at h
  split at h
  · simp at h
  · rename_i c r
    simp only [Bool.and_eq_true, decide_eq_true_eq, List.all_eq_true] at h
    refine ⟨by simp only [List.length_cons]; omega, fun x hx => ?_⟩
    have := h.2 x hx
    simp only [nameC, Bool.or_eq_true, Bool.and_eq_true, decide_eq_true_eq] at this
    simp only [plainB, Bool.and_eq_true, decide_eq_true_eq]
    refine ⟨⟨?_, ?_⟩, ?_⟩ <;> (rintro rfl; simp at this)

theorem out_name {o : Opr} {ins : List Ty} {t : Ty} (h : outO o ins = .ok t) : (nameS o.name = true ∨ o.name = []) ∧ (o.k = 1 → checkT o.t 0 = 0) := by
  have hf := (outO_ok h).1
  unfold outO at h
  split at h
  · simp at h
  split at h
  · simp at h
  rename_i h2
  split at h
  · simp at h
  split at h
  · simp at h
  refine ⟨?_, fun hk => ?_⟩
  · by_cases hk : o.k = 1 ∨ o.k = 9
    · left
      cases hh : nameS o.name
      · exact absurd ⟨hk, hh⟩ h2
      · rfl
    · right
      simp only [fieldsO, Bool.and_eq_true, Bool.or_eq_true, decide_eq_true_eq] at hf
      rcases hf.1.1.1.1.1 with q | q
      · exact absurd q hk
      · exact q
  · rw [if_pos hk] at h
    split at h
    · simp at h
    · rename_i q; exact Classical.not_not.1 q

theorem fieldsO_nums {o : Opr} (h : fieldsO o = true) : I64 o.f ∧ I64 o.n := by
  simp only [fieldsO, Bool.and_eq_true] at h
  obtain ⟨⟨_, h1⟩, h2⟩ := h
  constructor
  · split at h1 <;> simp at h1 <;> constructor <;> omega
  · split at h2 <;> simp at h2 <;> constructor <;> omega

structure UidF (g : List Nd) : Prop where
  good : GoodU g
  len : g.length ≤ 16
  ne : g ≠ []
  small : ∀ k (hk : k < g.length), SmN g[k]
  mx : ∀ k (hk : k < g.length), 1 ≤ g[k].mx ∧ g[k].mx ≤ 16
  nums : ∀ k (hk : k < g.length), I64 g[k].op.f ∧ I64 g[k].op.n ∧ I64 g[k].mx
  key : ∀ k (hk : k < g.length), (g[k].op.k = 5 ∨ g[k].op.k = 6 ∨ g[k].op.k = 7) → ∃ j r u, g[k].ins = j :: r ∧ 0 ≤ j ∧ j < (typesR [] g).length ∧ checkE g[k].op.key ((typesR [] g).getD j.toNat (.mk 0 [])) = .ok u
  src : ∀ k (hk : k < g.length), g[k].op.k = 1 → checkT g[k].op.t 0 = 0
  uidn : ∀ k (hk : k < g.length), g[k].uid ≠ [] → nameS g[k].uid = true

theorem typesR_pre : ∀ (l : List Nd) (ts : List Ty), ∃ x, typesR ts l = ts ++ x
  | [], ts => ⟨[], by simp [typesR]⟩
  | n :: r, ts => by
    obtain ⟨x, hx⟩ := typesR_pre r (ts ++ [(outO n.op (n.ins.map (fun i => ts.getD i.toNat (.mk 0 [])))).get (.mk 0 [])])
    exact ⟨_, by rw [typesR, hx, List.append_assoc]⟩
theorem typesR_app : ∀ (a b : List Nd) (ts : List Ty), typesR ts (a ++ b) = typesR (typesR ts a) b
  | [], b, ts => rfl
  | n :: a, b, ts => by simp only [List.cons_append, typesR]; exact typesR_app a b _
theorem typesR_getD {g : List Nd} {i j : Nat} (hi : i ≤ g.length) (h : j < i) : (typesR [] (g.take i)).getD j (.mk 0 []) = (typesR [] g).getD j (.mk 0 []) := by
  have e := typesR_app (g.take i) (g.drop i) []
  rw [List.take_append_drop] at e
  obtain ⟨x, hx⟩ := typesR_pre (g.drop i) (typesR [] (g.take i))
  rw [hx] at e
  have hl : (typesR [] (g.take i)).length = i := by rw [typesR_length]; simp [hi]
  rw [e, List.getD_eq_getElem?_getD, List.getD_eq_getElem?_getD, List.getElem?_append_left (by omega)]

theorem uidF_of {g : List Nd} (h : (checkR g).2 = 0) : UidF g := by
  obtain ⟨hne, _, hok⟩ := okG_all h
  have hG := checkR_good h
  have huid : ∀ k (hk : k < g.length), g[k].uid ≠ [] → nameS g[k].uid = true := fun k hk => (hok k hk).uid
  have hnm : ∀ k (hk : k < g.length), nameS g[k].op.name = true ∨ g[k].op.name = [] := fun k hk => by
    obtain ⟨t, ht⟩ := (hok k hk).out
    exact (out_name ht).1
  have hrange : ∀ k (hk : k < g.length), 1 ≤ g[k].op.k ∧ g[k].op.k ≤ 9 := fun k hk => by
    obtain ⟨t, ht⟩ := (hok k hk).out
    exact (outO_ok ht).2.2.1
  have hlenR : (typesR [] g).length = g.length := by rw [typesR_length]; simp
  refine ⟨⟨fun k hk i hi => ?_, fun i k hi hk hu => ?_, fun k hk c hc => ?_, fun k hk c hc => ?_⟩, hG.len, hne, fun k hk => ⟨(hG.ins k hk).2, ?_, ?_, ?_⟩, fun k hk => ?_, fun k hk => ?_, fun k hk hkk => ?_, fun k hk hk1 => ?_, huid⟩
  · have := (hG.ins k hk).1 i hi; omega
  · have ht := (hok k hk).twice hu
    intro e
    have hm : (g.take k).any (fun o => decide (o.uid = g[k].uid)) = true := any_take hi (by omega) (by simpa using e)
    rw [hm] at ht
    simp at ht
  · rcases hnm k hk with q | q
    · exact (nameS_facts q).2 c hc
    · rw [q] at hc; simp at hc
  · by_cases hu : g[k].uid = []
    · rw [hu] at hc; simp at hc
    · exact (nameS_facts (huid k hk hu)).2 c hc
  · by_cases hu : g[k].uid = []
    · rw [hu]; simp
    · exact (nameS_facts (huid k hk hu)).1
  · rcases hnm k hk with q | q
    · exact (nameS_facts q).1
    · rw [q]; simp
  · have := hrange k hk
    constructor <;> omega
  · have := (hok k hk).par; omega
  · obtain ⟨t, ht⟩ := (hok k hk).out
    have := (hok k hk).par
    obtain ⟨h1, h2⟩ := fieldsO_nums (outO_ok ht).1
    exact ⟨h1, h2, by constructor <;> omega⟩
  · obtain ⟨t, ht⟩ := (hok k hk).out
    obtain ⟨_, h2, _, _, h5⟩ := outO_ok ht
    obtain ⟨u, hu⟩ := h5 (by simp [keyedO]; omega)
    rw [List.length_map] at h2
    have hl1 : g[k].ins.length = 1 := by
      unfold insO at h2
      rw [if_neg (by omega), if_neg (by omega)] at h2
      simpa using h2
    obtain ⟨j, r, hj⟩ : ∃ j r, g[k].ins = j :: r := by
      cases hh : g[k].ins with
      | nil => rw [hh] at hl1; simp at hl1
      | cons j r => exact ⟨j, r, rfl⟩
    have hjk := (hG.ins k hk).1 j (by rw [hj]; simp)
    refine ⟨j, r, u, hj, hjk.1, by omega, ?_⟩
    rw [hj] at hu
    simp only [List.map_cons, List.getD_cons_zero] at hu
    rw [typesR_getD (by omega) (by omega)] at hu
    exact hu
  · obtain ⟨t, ht⟩ := (hok k hk).out
    exact (out_name ht).2 hk1

end Go.Proofs.YtijnpcociedigaaGreatDoor
end

section
/- The laws of names that last: what all share. -/
set_option linter.unusedSimpArgs false
set_option linter.unusedVariables false
namespace Go.Proofs.YtijnpcociedigaaGreatDoor
open Go Go.Abs

attribute [local irreducible] Abs.Fn

theorem ids_asked {g : List Nd} (F : UidF g) (hok : ∀ n ∈ g, OkN n) : ∀ k (hk : k < g.length), (∀ i ∈ g[k].ins, 0 ≤ i ∧ i < k) ∧ g[k].ins.length ≤ 1000000 ∧ g[k].uid.length ≤ 1000000 ∧ I64 g[k].op.k ∧ (baseU g[k] (idsU g)).length ≤ 1000000000 := fun k hk => by
  obtain ⟨h1, h2, h3, h4⟩ := F.small k hk
  exact ⟨F.good.ins k hk, (hok _ (List.getElem_mem hk)).ins, by omega, h4, base_le F.good F.len F.small hk⟩

theorem idsF_spec {g : List Nd} (F : UidF g) (hok : ∀ n ∈ g, OkN n) : Abs.Fn Tryz.prog uid_IDs_i [] [.p (.slice (g.map encN))] (.p (.slice ((idsU g).map .str))) [] :=
  IDs_spec g (by have := F.len; omega) (ids_asked F hok)

theorem FindU_spec {g : List Nd} (hi : Abs.Fn Tryz.prog uid_IDs_i [] [.p (.slice (g.map encN))] (.p (.slice ((idsU g).map .str))) []) (hl : g.length ≤ 1000) (s : List UInt8) : Abs.Fn Tryz.prog uid_Find_i [] [.p (.slice (g.map encN)), .p (.str s)] (.p (.int .i64 (idxF (fun x => decide (x = s)) 0 (idsU g)))) [] := by
  apply uid_Find_fn
  simp [uid_Find]
  refine aCallW_of rfl rfl hi ?_
  simp
  refine aCallW_of rfl rfl (findU_spec (idsU g) s (by simp; omega)) ?_
  simp
  exact gives_p rfl

theorem SchemaF_spec {g : List Nd} (h : (checkR g).2 = 0) (hok : ∀ n ∈ g, OkN n) (i : Nat) (hi : i < g.length) : Abs.Fn Tryz.prog uid_Schema_i [] [.p (.slice (g.map encN)), .p (.int .i64 i)] (.p (.str (schemaU (typesR [] g) g[i]))) [] := by
  have F := uidF_of h
  have hT := typesG_of h
  have hl : (typesR [] g).length = g.length := by rw [typesR_length]; simp
  have := SchemaU_spec g hok (by have := F.len; omega) i hi (fun hk => by
    obtain ⟨j, r, u, h1, h2, h3, _⟩ := F.key i hi hk
    exact ⟨j, r, h1, h2, by rw [hT]; exact h3⟩) (F.nums i hi) (F.src i hi)
  rw [hT, if_neg (by omega)] at this
  exact this

def smallU : List Nd := [srcG 2 4, { mapG with uid := [109] }, sinkG 1 2 4]
theorem okN_smallU : ∀ n ∈ smallU, OkN n := by
  intro n hn
  simp only [smallU, List.mem_cons, List.not_mem_nil, or_false] at hn
  rcases hn with rfl | rfl | rfl
  · exact okN_src _ _
  · exact ⟨okN_map.es, okN_map.key, okN_map.len, okN_map.ins⟩
  · exact okN_sink _ _ _
theorem smallU_check : checkR smallU = (0, 0) := by rfl
theorem small_itoa : Lib.itoa 1 = [49] ∧ Lib.itoa 9 = [57] ∧ Lib.itoa 4 = [52] := by
  refine ⟨?_, ?_, ?_⟩ <;> (simp [Lib.itoa]; rw [Lib.decDigits]; decide)
theorem smallU_ids : idsU smallU = [[97, 58, 49, 58, 115, 40, 41], [117, 58, 109], [97, 58, 57, 58, 97, 40, 117, 58, 109, 41]] := by
  simp [idsU, idsGo, smallU, baseU, fullU, sufU, small_itoa.1, small_itoa.2.1, TJ.join, TJ.tail, List.count, List.countP, List.countP.go]
theorem smallU_types : typesR [] smallU = [.mk 1 [], .mk 1 [], .mk 1 []] := by rfl
theorem smallU_row : (smallG.map encN).set 1 ((encN mapG).putT 0 [.str [109]]) = smallU.map encN := by rfl

theorem known9_spec : Abs.Fn Tryz.prog runnellaw9_known_i [] [] (.p (.bool true)) [] := by
  have F := uidF_of (g := smallU) (by rw [smallU_check])
  have hi := idsF_spec F okN_smallU
  have f1 := FindU_spec hi (by simp [smallU]) [117, 58, 109]
  have f2 := FindU_spec hi (by simp [smallU]) [120]
  have s0 := SchemaF_spec (g := smallU) (by rw [smallU_check]) okN_smallU 0 (by simp [smallU])
  have s1 := SchemaF_spec (g := smallU) (by rw [smallU_check]) okN_smallU 1 (by simp [smallU])
  rw [smallU_ids] at hi f1 f2
  rw [smallU_types] at s0 s1
  have e0 : schemaU [.mk 1 [], .mk 1 [], .mk 1 []] smallU[0] = [115, 111, 117, 114, 99, 101, 32, 105, 110, 116, 32, 52] := by
    simp [smallU, schemaU, small_itoa.2.2, textT, wordS, TJ.join, TJ.tail]
  have e1 : schemaU [.mk 1 [], .mk 1 [], .mk 1 []] smallU[1] = [] := by
    simp [smallU, schemaU]
  rw [e0] at s0
  rw [e1] at s1
  have i1 : idxF (fun x : List UInt8 => decide (x = [117, 58, 109])) 0 [[97, 58, 49, 58, 115, 40, 41], [117, 58, 109], [97, 58, 57, 58, 97, 40, 117, 58, 109, 41]] = 1 := by rfl
  have i2 : idxF (fun x : List UInt8 => decide (x = [120])) 0 [[97, 58, 49, 58, 115, 40, 41], [117, 58, 109], [97, 58, 57, 58, 97, 40, 117, 58, 109, 41]] = -1 := by rfl
  rw [i1] at f1
  rw [i2] at f2
  have hrow : ∀ h, (smallG.map encN).set 1 (((smallG.map encN)[1]'h).putT 0 [.str [109]]) = smallU.map encN := fun h => smallU_row
  generalize hG : smallG.map encN = G at *
  have hG3 : G.length = 3 := by rw [← hG]; rfl
  apply runnellaw9_known_fn
  simp [runnellaw9_known]
  refine aCallW_of rfl rfl SmallR_spec ?_
  rw [hG]
  simp [hG3]
  rw [hrow]
  have hU3 : (smallU.map encN).length = 3 := rfl
  generalize smallU.map encN = U at *
  refine aCallZ_of (id := 0) rfl ?_
  simp [AV.unm, AV.unm1, hU3]
  rw [List.take_of_length_le (by omega)]
  refine aCallW_of rfl rfl hi ?_
  simp
  intro _
  refine aMerge_intro true (fun _ => ?_) ?_
  · refine aCallY_of (id := 0) rfl ?_
    simp [AV.unm, AV.unm1, hU3]
    rw [List.take_of_length_le (by omega)]
    refine aCallW_of rfl rfl f1 ?_
    simp
  simp
  refine aMerge_intro true (fun _ => ?_) ?_
  · refine aCallY_of (id := 0) rfl ?_
    simp [AV.unm, AV.unm1, hU3]
    rw [List.take_of_length_le (by omega)]
    refine aCallW_of rfl rfl f2 ?_
    simp
  simp
  refine aMerge_intro true (fun _ => ?_) ?_
  · refine aCallY_of (id := 0) rfl ?_
    simp [AV.unm, AV.unm1, hU3]
    rw [List.take_of_length_le (by omega)]
    refine aCallW_of rfl rfl s0 ?_
    simp
  simp
  refine aMerge_intro true (fun _ => ?_) ?_
  · refine aCallY_of (id := 0) rfl ?_
    simp [AV.unm, AV.unm1, hU3]
    rw [List.take_of_length_le (by omega)]
    refine aCallW_of rfl rfl s1 ?_
    simp
  simp
  exact gives_p rfl

end Go.Proofs.YtijnpcociedigaaGreatDoor
end

section
/- The law UidStays. -/
set_option linter.unusedSimpArgs false
set_option linter.unusedVariables false
namespace Go.Proofs.YtijnpcociedigaaGreatDoor
open Go Go.Abs

attribute [local irreducible] Abs.Fn

abbrev otherS : List UInt8 := [111, 116, 104, 101, 114]
/-- A node of other pars, groups, alones. -/
def stPar (ps : List Int) (j : Nat) (n : Nd) : Int := if j < ps.length then (if 4 < 1 + (ps.getD j 0).tmod n.mx then 4 else 1 + (ps.getD j 0).tmod n.mx) else n.par
def stAlone (al : List Bool) (j : Nat) (n : Nd) : Bool := if j < al.length then al.getD j false else n.alone
def stN (ps : List Int) (al : List Bool) (j : Nat) (n : Nd) : Nd := { n with par := stPar ps j n, alone := stAlone al j n, grp := otherS }
def stG (ps : List Int) (al : List Bool) (i : Nat) (g : List Nd) : List Nd := g.mapIdx fun j n => if j < i then stN ps al j n else n

theorem stG_length (ps : List Int) (al : List Bool) (i : Nat) (g : List Nd) : (stG ps al i g).length = g.length := by simp [stG]
theorem stG_get (ps : List Int) (al : List Bool) (i : Nat) (g : List Nd) (j : Nat) (hj : j < g.length) : (stG ps al i g)[j]'(by rw [stG_length]; exact hj) = if j < i then stN ps al j g[j] else g[j] := by simp [stG]
theorem stG_zero (ps : List Int) (al : List Bool) (g : List Nd) : stG ps al 0 g = g := by
  refine List.ext_getElem (stG_length _ _ _ _) (fun j h1 h2 => ?_)
  rw [stG_get _ _ _ _ _ h2, if_neg (by omega)]
theorem stG_next (ps : List Int) (al : List Bool) (i : Nat) (g : List Nd) (hi : i < g.length) : (stG ps al (i + 1) g).map encN = ((stG ps al i g).map encN).set i (encN (stN ps al i g[i])) := by
  refine List.ext_getElem (by simp [stG_length]) (fun j h1 h2 => ?_)
  have hj : j < g.length := by simpa [stG_length] using h1
  rw [List.getElem_set, List.getElem_map, List.getElem_map, stG_get _ _ _ _ _ hj, stG_get _ _ _ _ _ hj]
  by_cases e : i = j
  · subst e
    rw [if_pos (by omega), if_pos rfl]
  · rw [if_neg e]
    by_cases h : j < i
    · rw [if_pos h, if_pos (by omega)]
    · rw [if_neg h, if_neg (by omega)]

/-- What types, names hang on. -/
def strip (n : Nd) : Nd := { n with par := 0, mx := 0, grp := [], alone := false }
theorem any_strip (p : Nd → Bool) (hp : ∀ n, p (strip n) = p n) (l : List Nd) : (l.map strip).any p = l.any p := by
  rw [List.any_map]
  congr 1
  funext n
  exact hp n
theorem wts_strip : ∀ (l : List Nd) (ws : List Int), wtsG ws (l.map strip) = wtsG ws l
  | [], ws => rfl
  | n :: r, ws => by
    simp only [List.map_cons, wtsG]
    exact wts_strip r _
theorem types_strip : ∀ (l : List Nd) (ts : List Ty), typesR ts (l.map strip) = typesR ts l
  | [], ts => rfl
  | n :: r, ts => by
    simp only [List.map_cons, typesR]
    exact types_strip r _
theorem seen_strip (l : List Nd) : ∀ (r s : List Int), seenIn (l.map strip) s r = seenIn l s r
  | [], s => rfl
  | i :: r, s => by
    have e : ((l.map strip).getD i.toNat noN).op = (l.getD i.toNat noN).op := by
      rw [List.getD_eq_getElem?_getD, List.getD_eq_getElem?_getD, List.getElem?_map]
      cases l[i.toNat]? <;> rfl
    simp only [seenIn, List.length_map, e, seen_strip l r]

theorem okG_strip {a b : List Nd} {ts : List Ty} {n m : Nd} (h : OkG a ts n) (ha : a.map strip = b.map strip) (hn : strip n = strip m) (hg : nameS m.grp = true) (hp : 1 ≤ m.par ∧ m.par ≤ 4 ∧ m.par ≤ m.mx ∧ m.mx ≤ 16) : OkG b ts m := by
  have e1 : n.uid = m.uid := (show (strip n).uid = (strip m).uid by rw [hn])
  have e2 : n.op = m.op := (show (strip n).op = (strip m).op by rw [hn])
  have e3 : n.ins = m.ins := (show (strip n).ins = (strip m).ins by rw [hn])
  refine ⟨fun hu => by rw [← e1] at hu ⊢; exact h.uid hu, hg, fun hu => ?_, hp, ?_, ?_, ?_, fun hk => ?_⟩
  · rw [← e1] at hu ⊢
    have := h.twice hu
    rw [← any_strip _ (fun _ => rfl), ha, any_strip _ (fun _ => rfl)] at this
    exact this
  · have := h.seen
    rw [← seen_strip, ha, seen_strip, e3] at this
    exact this
  · have := h.wt
    rw [← wts_strip, ha, wts_strip] at this
    simp only [wtN, e2, e3] at this
    exact this
  · rw [← e2, ← e3]; exact h.out
  · rw [← e2] at hk ⊢
    have := h.name hk
    rw [← any_strip _ (fun _ => rfl), ha, any_strip _ (fun _ => rfl)] at this
    exact this

theorem st_strip (ps : List Int) (al : List Bool) (i : Nat) (g : List Nd) : (stG ps al i g).map strip = g.map strip := by
  refine List.ext_getElem (by simp [stG_length]) (fun j h1 h2 => ?_)
  have hj : j < g.length := by simpa using h2
  rw [List.getElem_map, List.getElem_map, stG_get _ _ _ _ _ hj]
  split <;> rfl

theorem stPar_ok {ps : List Int} (hp : ∀ x ∈ ps, 0 ≤ x ∧ x ≤ 255) {j : Nat} {n : Nd} (h : 1 ≤ n.par ∧ n.par ≤ 4 ∧ n.par ≤ n.mx ∧ n.mx ≤ 16) : 1 ≤ stPar ps j n ∧ stPar ps j n ≤ 4 ∧ stPar ps j n ≤ n.mx := by
  unfold stPar
  split
  · rename_i hj
    have hx := hp ps[j] (List.getElem_mem hj)
    have e : ps.getD j 0 = ps[j] := by simp [List.getD_eq_getElem?_getD, hj]
    rw [e, Int.tmod_eq_emod_of_nonneg hx.1]
    have h1 := Int.emod_nonneg ps[j] (b := n.mx) (by omega)
    have h2 := Int.emod_lt_of_pos ps[j] (b := n.mx) (by omega)
    split <;> omega
  · omega

/-- The names, the types of the other one. -/
theorem st_all {g : List Nd} (hc : (checkR g).2 = 0) {ps : List Int} (hp : ∀ x ∈ ps, 0 ≤ x ∧ x ≤ 255) (al : List Bool) : idsU (stG ps al g.length g) = idsU g ∧ typesG (stG ps al g.length g) = typesR [] g := by
  have hok := (okG_all hc).2.2
  have hlen := stG_length ps al g.length g
  constructor
  · unfold idsU
    rw [idsGo_congr (stG ps al g.length g) g [] [] hlen (fun i hi hb => by
      rw [stG_get _ _ _ _ _ hb]
      split <;> exact ⟨rfl, rfl, rfl, rfl⟩)]
  · have := goG_of (stG ps al g.length g) [] (fun k hk => by
      have hkg : k < g.length := by omega
      rw [List.nil_append, stG_get _ _ _ _ _ hkg, if_pos hkg]
      have ho := hok k hkg
      have ht : typesR [] ((stG ps al g.length g).take k) = typesR [] (g.take k) := by
        rw [← types_strip, List.map_take, st_strip, ← List.map_take, types_strip]
      rw [ht]
      have hpo := stPar_ok hp (j := k) ho.par
      exact okG_strip ho (by rw [List.map_take, List.map_take, st_strip]) rfl (show nameS otherS = true by decide) ⟨hpo.1, hpo.2.1, hpo.2.2, ho.par.2.2.2⟩)
    unfold typesG
    have e : goG [] [] (stG ps al g.length g) = .ok (typesR [] (stG ps al g.length g)) := by simpa [typesR] using this
    rw [e]
    simp only
    rw [← types_strip, st_strip, types_strip]

theorem st_okN {g : List Nd} (hok : ∀ n ∈ g, OkN n) (ps : List Int) (al : List Bool) (i : Nat) : ∀ n ∈ stG ps al i g, OkN n := by
  intro n hn
  obtain ⟨j, hj, rfl⟩ := List.mem_iff_getElem.1 hn
  have hjg : j < g.length := by rw [stG_length] at hj; exact hj
  have h := hok _ (List.getElem_mem hjg)
  rw [stG_get _ _ _ _ _ hjg]
  split
  · exact ⟨h.es, h.key, h.len, h.ins⟩
  · exact h

theorem st_ids {g : List Nd} (hc : (checkR g).2 = 0) (hok : ∀ n ∈ g, OkN n) {ps : List Int} (hp : ∀ x ∈ ps, 0 ≤ x ∧ x ≤ 255) (al : List Bool) :
    Abs.Fn Tryz.prog uid_IDs_i [] [.p (.slice ((stG ps al g.length g).map encN))] (.p (.slice ((idsU g).map .str))) [] := by
  have F := uidF_of hc
  obtain ⟨h1, _⟩ := st_all hc hp al
  have := IDs_spec (stG ps al g.length g) (by rw [stG_length]; have := F.len; omega) (fun k hk => by
    have hkg : k < g.length := by rw [stG_length] at hk; exact hk
    have ha := ids_asked F hok k hkg
    rw [h1, stG_get _ _ _ _ _ hkg, if_pos hkg]
    exact ha)
  rw [h1] at this
  exact this

theorem st_schema {g : List Nd} (hc : (checkR g).2 = 0) (hok : ∀ n ∈ g, OkN n) {ps : List Int} (hp : ∀ x ∈ ps, 0 ≤ x ∧ x ≤ 255) (al : List Bool) (i : Nat) (hi : i < g.length) :
    Abs.Fn Tryz.prog uid_Schema_i [] [.p (.slice ((stG ps al g.length g).map encN)), .p (.int .i64 i)] (.p (.str (schemaU (typesR [] g) g[i]))) [] := by
  have F := uidF_of hc
  obtain ⟨_, h2⟩ := st_all hc hp al
  have hl : (typesR [] g).length = g.length := by rw [typesR_length]; simp
  have hi2 : i < (stG ps al g.length g).length := by rw [stG_length]; exact hi
  have he : (stG ps al g.length g)[i] = stN ps al i g[i] := by rw [stG_get _ _ _ _ _ hi, if_pos hi]
  have := SchemaU_spec (stG ps al g.length g) (st_okN hok ps al _) (by rw [stG_length]; have := F.len; omega) i hi2 (fun hk => by
    rw [he] at hk ⊢
    obtain ⟨j, r, u, g1, g2, g3, _⟩ := F.key i hi hk
    exact ⟨j, r, g1, g2, by rw [h2]; exact g3⟩) (by rw [he]; exact F.nums i hi) (by rw [he]; exact F.src i hi)
  rw [h2, if_neg (by omega), he] at this
  exact this

theorem stays_J1 {al : List Bool} {L i : Nat} {n : Nd} {M : List T} (hL : L ≤ 1000) (hi : i < L) (hM : M.length = L) (hm : M[i]? = some (encN n)) {B : List AV → List Ob → Prop} {K : AV → List Ob → Prop}
    (hb : B [.p (.int .i64 ((i + 1 : Nat)))] [.mode, .mrow 0 21 (M.set i (encN { n with alone := stAlone al i n, grp := otherS }))]) :
    runnellaw9_UidStays_J1 (.p (.slice (al.map .bool))) (.msl 1 0 21 0 L) (.p (.int .i64 i)) [.mode, .mrow 0 21 M] B K := by
  have hiM : i < M.length := by omega
  have hmi : M[i] = encN n := by rw [List.getElem?_eq_getElem hiM] at hm; simpa using hm
  unfold runnellaw9_UidStays_J1
  by_cases h : i < al.length
  · have e : stAlone al i n = al[i] := by simp [stAlone, h, List.getD_eq_getElem?_getD]
    rw [e] at hb
    simp [h, hi, hm, hM]
    intro _
    rw [IntWalk.i64_in _ (by omega), hmi]
    simpa using hb
  · have e : stAlone al i n = n.alone := by simp [stAlone, h]
    rw [e] at hb
    simp [h, hi, hm, hM]
    intro _
    rw [IntWalk.i64_in _ (by omega), hmi]
    simpa using hb

set_option maxRecDepth 100000 in
theorem UidStays_spec (g : List Nd) (ps : List Int) (al : List Bool) (hp : ∀ x ∈ ps, 0 ≤ x ∧ x ≤ 255) : Abs.Fn Tryz.prog runnellaw9_UidStays_i [] [.p (.slice (g.map encN)), .p (.slice (ps.map (.int .u8))), .p (.slice (al.map .bool))] (.p (.bool true)) [] := by
  have hg := good8_spec g
  refine fn_mode (runnellaw9_UidStays_fnH (Hin := [.mode]) ?_)
  simp [runnellaw9_UidStays]
  refine aCallW_of rfl rfl known9_spec ?_
  simp
  refine aCallW_of rfl rfl hg ?_
  simp
  refine ⟨fun _ => gives_moded (gives_p rfl) rfl, fun hf hc hpl hal => ?_⟩
  obtain ⟨hl20, hfew⟩ := fewG_ok hf
  have hok : ∀ n ∈ g, OkN n := fun n hn => (hfew n hn).1
  have F := uidF_of hc
  have h16 := F.len
  refine ⟨⟨by simp, encN_size g, by simp; omega⟩, ?_⟩
  refine loop_by (σ := Nat) (n := 2) (fun i => [.p (.int .i64 i)]) (fun i => [.mode, .mrow 0 21 ((stG ps al i g).map encN)]) (fun i => i ≤ g.length) (fun i => g.length - i) [] 0 (fun _ => rfl) ⟨rfl, by rw [stG_zero]⟩ (by simp) (fun i B hi hB => ?_)
  have hsl : ((stG ps al i g).map encN).length = g.length := by rw [List.length_map, stG_length]
  by_cases hlt : i < g.length
  · have hm := F.mx i hlt
    have hpr := (okG_all hc).2.2 i hlt |>.par
    have hnx := stG_next ps al i g hlt
    have hMi : ((stG ps al i g).map encN)[i]? = some (encN g[i]) := by
      rw [List.getElem?_eq_getElem (by omega), List.getElem_map, stG_get _ _ _ _ _ hlt, if_neg (by omega)]
    have hb := hB (i + 1) [.mode, .mrow 0 21 ((stG ps al (i + 1) g).map encN)] (by omega) (by omega) (by simp) (by simp [Ob.below, AV.under1]) (by simp) (by simp [AV.under, AV.under1])
    rw [hnx] at hb
    generalize (stG ps al i g).map encN = M at *
    generalize g[i] = n at *
    have hiM : i < M.length := by omega
    have hmi : M[i] = encN n := by rw [List.getElem?_eq_getElem hiM] at hMi; simpa using hMi
    unfold runnellaw9_UidStays_L1
    by_cases hp2 : i < ps.length
    · have hx := hp ps[i] (List.getElem_mem hp2)
      have e : stPar ps i n = if 4 < 1 + ps[i].tmod n.mx then 4 else 1 + ps[i].tmod n.mx := by simp [stPar, hp2, List.getD_eq_getElem?_getD]
      have ht1 : ps[i].tmod n.mx = ps[i] % n.mx := Int.tmod_eq_emod_of_nonneg hx.1
      have ht2 := Int.emod_nonneg ps[i] (b := n.mx) (by omega)
      have ht3 := Int.emod_lt_of_pos ps[i] (b := n.mx) (by omega)
      have hz : n.mx ≠ 0 := by omega
      simp [hlt, hp2, hmi, hsl, hz, IntWalk.i64_in ps[i] (by omega)]
      intro _ _
      rw [IntWalk.i64_in (1 + ps[i].tmod n.mx) (by omega)]
      have go : ∀ q : Int, stPar ps i n = q → runnellaw9_UidStays_J1 (.p (.slice (al.map .bool))) (.msl 1 0 21 0 g.length) (.p (.int .i64 i)) [.mode, .mrow 0 21 (M.set i (encN { n with par := q }))] B (fun v H' => Gives 1 v H' (.p (.bool true)) []) := by
        intro q hq
        refine stays_J1 (n := { n with par := q }) (by omega) hlt (by simpa using hsl) (by simp [hiM]) ?_
        have e2 : stN ps al i n = { n with par := q, alone := stAlone al i n, grp := otherS } := by simp only [stN, hq]
        rw [e2] at hb
        rw [List.set_set]
        exact hb
      simp only [encN_eta] at go
      exact ⟨fun h4 => go 4 (by rw [e, if_pos h4]), fun h4 => go _ (by rw [e, if_neg (by omega)])⟩
    · have e : stPar ps i n = n.par := by simp [stPar, hp2]
      simp [hlt, hp2]
      intro _ _
      refine stays_J1 (n := n) (by omega) hlt hsl hMi ?_
      have e2 : stN ps al i n = { n with alone := stAlone al i n, grp := otherS } := by simp only [stN, e]
      rw [e2] at hb
      exact hb
  · have hge : g.length ≤ i := by omega
    have : i = g.length := by omega
    subst this
    unfold runnellaw9_UidStays_L1
    simp
    intro _
    have hIds := idsF_spec F hok
    have hIdsH := st_ids hc hok hp al
    have hSc := fun i hi => SchemaF_spec hc hok i hi
    have hScH := fun i hi => st_schema hc hok hp al i hi
    have hlen := idsU_length g
    generalize (stG ps al g.length g).map encN = M at *
    generalize idsU g = I at *
    refine aCallW_of rfl rfl hIds ?_
    simp
    refine aCallZ_of (id := 1) rfl ?_
    simp [AV.unm, AV.unm1, hsl]
    rw [List.take_of_length_le (by omega)]
    refine aCallW_of rfl rfl hIdsH ?_
    simp
    intro hml
    refine loop_by (σ := Nat) (n := 2) (fun i => [.p (.slice M), .p (.int .i64 i)]) (fun _ => [.mode, .frow 0 21 M]) (fun i => i ≤ I.length) (fun i => I.length - i) [.fslot 0] 0 (fun _ => rfl) ?_ (by simp) (fun i B2 hi2 hB2 => ?_)
    · simp [ghosts, ghost, hsl, List.take_of_length_le]
    simp [runnellaw9_UidStays_L2]
    intro _
    refine ⟨fun hlt2 => ?_, fun hge2 => gives_moded (gives_p rfl) rfl⟩
    simp [hlt2]
    refine aCallT_of rfl (hSc i (by omega)) rfl ?_
    simp
    refine aCallT_of rfl (hScH i (by omega)) rfl ?_
    simp
    rw [IntWalk.i64_in _ (by omega)]
    exact hB2 (i + 1) _ (by omega) (by omega) (by simp) (by simp [Ob.below, AV.under1]) (by simp) (by simp [AV.under, AV.under1])

end Go.Proofs.YtijnpcociedigaaGreatDoor
end
