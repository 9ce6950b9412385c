/-
  Contracts: the box (chapter 3): the names in their order; List; Crash.
-/
import Derived.Test.YtnphbdfmdboniaaLfS2
import Derived.Test.YtnphbdfmdboniaaLfS1
import Derived.Test.YtnphbdfmdboniaaLfU3
set_option maxRecDepth 100000
set_option linter.unusedVariables false
set_option linter.unusedSimpArgs false
namespace Go.Lf.G
open Go

abbrev f_keys1 : FuncId := f_maps_Keys_of_map_string__box_file_string__box_file_1
theorem Keys_ok {A : Amb} {h : Heap} {mb : Option Nat} {R : Value → Heap → Prop} (H : ∀ T h', h'[h.size]? = some (.cells #[.map mb] T (0, 0)) → Ext h h' → h'.size = h.size + 1 → R (.func (.func f_keys1) #[] #[ptrV h.size]) h') :
    HCalls A P f_maps_Keys_of_map_string__box_file_string__box_file #[.map mb] h R := by
  intro n
  have h0 := Proofs.AnyZ.keys_in Proofs.Try.keysA Fence.wide 5 trivial rfl mb (A.at h n)
  have h1 := callsIn_wide.1 h0
  refine Calls.mono h1 ?_
  rintro e w' ⟨rfl, rfl⟩
  refine ⟨_, rfl, h.push (.cells #[.map mb] (Proofs.Try.keysA_ren.t 23)), n, rfl, ?_⟩
  exact H (Proofs.Try.keysA_ren.t 23) (h.push (.cells #[.map mb] (Proofs.Try.keysA_ren.t 23))) (by simp) (Mod.push h _) (by simp)

theorem sortsA (m : Nat) : Proofs.AnyZ.SortsIn P Proofs.Try.sortedA_ren Fence.wide m :=
  ⟨fun blk off cap ss W hH hblk hsz => callsIn_wide.2 (Proofs.AnyM.slices_Sort_string Proofs.Try.sortA blk off cap ss W hH hblk hsz),
   fun p cap W => callsIn_wide.2 (Proofs.AnyM.slices_Sort_string_none Proofs.Try.sortA p cap W)⟩

theorem Sorted_ok {A : Amb} {h : Heap} {c r : Nat} {T : TypeId} {m : List (ByteArray × Value)} {l : List ByteArray} {R : Value → Heap → Prop} (hc : h[c]? = some (.cells #[.map (some r)] T (0, 0))) (M : MapS h r m)
    (hl : SortedS l) (hp : (m.map (·.1)).Perm l) (hb : m.length ≤ 1099511627776)
    (H : ∀ s h', Own StrE t_string h' s l → Ext h h' → (∀ b, s.blk = some b → h.size ≤ b) → R (.slice s.p s.len s.cap) h') :
    HCalls A P f_slices_Sorted_of_string #[.func (.func f_keys1) #[] #[ptrV c]] h R := by
  intro n
  obtain ⟨D, hown, hperm, hsize⟩ := keys_owned (P := P) (kt := t_string) P_str (w := A.at h n) M
  have hseq : SeqGives Fence.wide 2 P f_keys1 #[ptrV c] Proofs.encStr (fun ss => ss.Perm (strKeys D)) (Maps.size D) (A.at h n) :=
    Proofs.AnyZ.keys_gives (ρ := Proofs.Try.keysA_ren) { Proofs.Try.keysA with } Fence.wide _ trivial rfl (by omega) c r _ D _ (show c < h.size from blk_lt hc) (by show hget h ⟨c, 0, none⟩ = _; rw [hget_cells hc]; rfl) hown
  have h0 := Proofs.AnyZ.sorted_in Proofs.Try.sortedA Fence.wide 5 trivial trivial trivial trivial rfl (by omega) (sortsA _) (Proofs.enters_of Proofs.Try.func35 (by kernel_rfl) rfl) f_keys1 #[ptrV c] trivial (Proofs.enters_of Proofs.Try.func36 (by kernel_rfl) rfl) _ _ (by rw [hsize]; simp [maxLen]; omega) (by rw [hsize]; omega) _ hseq
  have h1 := callsIn_wide.1 h0
  refine Calls.mono h1 ?_
  rintro e w' ⟨v, ss, rfl, hS, hrow, hnil, hbl⟩
  have hw' : w' = A.at w'.heap w'.drawn := at_of (A := A) (h := h) (n := n) rfl hbl.os hbl.tape hbl.output
  have hperm2 : ss.Perm (l.map fun x => x.data.toList) := by
    refine (hS.trans hperm).trans ?_
    have := hp.map fun x : ByteArray => x.data.toList
    simpa [List.map_map, Function.comp_def] using this
  have hsl : ss.length = l.length := by have := hperm2.length_eq; simpa using this
  rw [sort_names hl hperm2, enc_names] at hrow
  have hx : Ext h w'.heap := ⟨hbl.size, fun b hb _ => hbl.block b hb⟩
  rcases hrow.2 with ⟨rfl, h00⟩ | ⟨g, cap, cur, rfl, hgb, hg, hcc, hm, hs, ht⟩
  · have : l = [] := List.eq_nil_of_length_eq_zero (by omega)
    subst this
    exact ⟨_, rfl, w'.heap, w'.drawn, hw', H ⟨none, 0, 0⟩ _ Own.nil hx (fun b hb => by simp [Sl.blk] at hb)⟩
  · refine ⟨_, rfl, w'.heap, w'.drawn, hw', H ⟨some ⟨g, 0, none⟩, ss.length, cap⟩ _ ⟨hsl, .inr ⟨g, cur, rfl, hg, hcc, hm, hs, ht⟩⟩ hx (fun b hb => ?_)⟩
    simp [Sl.blk] at hb; subst hb; exact hgb

/-! ### List -/
def listB (m : Bx) : List ByteArray × Int := if m.down then ([], 30) else (m.files.map (·.name), 0)
theorem BoxAt.names {h : Heap} {b r : Nat} {kv : List (Fi × Nat)} {m : Bx} (B : BoxAt h b r kv m) : ((kvM kv).map (·.1)).Perm (m.files.map (·.name)) ∧ (kvM kv).length ≤ 1099511627776 := by
  refine ⟨?_, ?_⟩
  · have := B.perm.map (·.name)
    simpa [kvM, List.map_map, Function.comp_def] using this
  · have h1 := B.perm.length_eq
    have h2 := wtF_len m.files
    have h3 := B.good.wt
    simp at h1 ⊢
    omega
theorem BoxAt.sortedKeys {A : Amb} {h : Heap} {b r : Nat} {kv : List (Fi × Nat)} {m : Bx} (B : BoxAt h b r kv m) {R : Sl → Heap → Prop}
    (H : ∀ s h', Own StrE t_string h' s (m.files.map (·.name)) → Ext h h' → (∀ c, s.blk = some c → h.size ≤ c) → R s h') :
    HCalls A P f_maps_Keys_of_map_string__box_file_string__box_file #[.map (some r)] h fun v1 h2 => ∃ t10 : Value, v1 = t10 ∧ (
      HCalls A P f_slices_Sorted_of_string #[t10] h2 fun v2 h3 => ∃ t11 : Sl, v2 = .slice t11.p t11.len t11.cap ∧ R t11 h3) := by
  refine Keys_ok fun T h1 hb1 x1 hs1 => ⟨_, rfl, ?_⟩
  refine Sorted_ok hb1 (B.map.mod x1 (fun h => h)) (sortedF_iff.1 B.good.sorted) B.names.1 B.names.2 fun s h2 o2 x2 f2 => ⟨s, rfl, ?_⟩
  exact H s h2 o2 (x1.trans x2) (fun c hc => by have := f2 c hc; omega)
theorem bList_ok {A : Amb} {h : Heap} {b : Nat} {S : Nat → Prop} {m : Bx} {R : Value → Heap → Prop} (B : IsBox h b S m)
    (H : ∀ s h', Own StrE t_string h' s (listB m).1 → Ext h h' → (∀ c, s.blk = some c → h.size ≤ c) → R (.tuple #[.slice s.p s.len s.cap, .int .i64 (listB m).2]) h') : HCalls A P f_box_Box_List #[ptrV b] h R := by
  obtain ⟨r, kv, B, hS⟩ := B
  refine ok_box_Box_List ?_
  unfold F_box_Box_List
  refine off_ok B.head ⟨_, rfl, ?_⟩
  unfold listB at H
  refine PIf.intro (fun hd => ?_) (fun hd => ?_)
  · rw [if_pos hd] at H; exact H ⟨none, 0, 0⟩ h Own.nil Mod.refl (fun c hc => by simp [Sl.blk] at hc)
  rw [if_neg (by simp [hd])] at H
  exact atI (LoadM.mk (hget_lit B.head rfl) (B.sortedKeys fun s h' o x f => H s h' o x f))

/-! ### Crash -/
theorem BoxAt.add {h h' : Heap} {b r c : Nat} {kv : List (Fi × Nat)} {m : Bx} {x : Fi} {l : List Fi} (B : BoxAt h b r kv m) (M : MapS h' r (kvM (kv ++ [(x, c)]))) (hc : h'[c]? = some (.cells #[.string x.firm, .string x.soft] t_box_file (0, 0)))
    (hn : h.size ≤ c) (md : Mod (· = r) h h') (hp : (x :: m.files).Perm l) (g : GoodB { m with files := l }) : BoxAt h' b r (kv ++ [(x, c)]) { m with files := l } := by
  refine ⟨md.blk B.head B.ne_br.symm, M, ?_, ?_, ?_, g⟩
  · intro p hp
    rcases List.mem_append.1 hp with hp | hp
    · exact md.blk (B.cells p hp) (B.ne_pb hp).2
    · simp at hp; subst hp; exact hc
  · rw [List.map_append]
    exact (List.perm_append_singleton _ _).trans ((B.perm.cons _).trans hp)
  · rw [List.map_append]
    refine List.nodup_append.2 ⟨B.nodup, by simp, ?_⟩
    intro a ha c' hc'
    obtain ⟨p, hp, rfl⟩ := List.mem_map.1 ha
    simp at hc'; subst hc'
    have := blk_lt (B.cells p hp); omega

theorem bCrash_ok {A : Amb} {h : Heap} {b : Nat} {S : Nat → Prop} {m : Bx} {keep : Sl} {ks : List Int} {R : Value → Heap → Prop} (B : IsBox h b S m) (V : View IntE h keep ks)
    (H : ∀ b' h' S', IsBox h' b S (offB m) → IsBox h' b' S' (crashB m ks) → Mod S h h' → (∀ c, S' c → h.size ≤ c) → R (ptrV b') h') : HCalls A P f_box_Box_Crash #[ptrV b, .slice keep.p keep.len keep.cap] h R := by
  obtain ⟨r, kv, B, hS⟩ := B
  refine ok_box_Box_Crash ?_
  unfold F_box_Box_Crash
  refine PIf.no rfl ?_
  refine bNew_ok fun bn h1 Sn Bn x1 fn => ⟨_, rfl, ?_⟩
  have B1 := B.mod x1 (fun _ _ h => h)
  refine atI (LoadM.mk (hget_lit B1.head rfl) (B1.sortedKeys (R := fun t19 h3 => Loop _ _ _) fun s h2 o2 x2 f2 => ?_))
  have hlen : m.files.length ≤ 1099511627776 := by have := wtF_len m.files; have := B.good.wt; omega
  have x02 : Ext h h2 := x1.trans x2
  have hsn : ∀ c, s.blk = some c → ¬ Sn c := fun c hc hs => by have := Bn.lt hs; have := f2 c hc; omega
  obtain ⟨rn, kvn, Bn, hSn⟩ := Bn
  have hfn : ∀ c, footB bn rn kvn c → h.size ≤ c ∧ c < h1.size := fun c hc => ⟨fn c ((hSn c).2 hc), Bn.lt hc⟩
  -- the loop
  refine Loop.rule (fun q x hh => ∃ (i : Nat) (kvi : List (Fi × Nat)), x = (((cntF 0 (m.files.take i) : Nat) : Int), (i : Int), ()) ∧ q = m.files.length - i ∧ i ≤ m.files.length ∧
    BoxAt hh bn rn kvi ⟨crashF ks 0 (m.files.take i), -1, false⟩ ∧ (∀ c, footB bn rn kvi c → footB bn rn kvn c ∨ h2.size ≤ c) ∧ Mod (footB bn rn kvn) h2 hh) ?_
    ⟨0, kvn, rfl, rfl, by omega, by simpa [crashF, newB] using Bn.mod x2 (fun _ _ h => h), fun c hc => .inl hc, Mod.refl⟩
  rintro K q _ hh ⟨i, kvi, rfl, rfl, hi, Bi, hki, mi⟩ hK
  have m0 : Ext h hh := (x02.mod.trans mi).weak' fun c hc hf => by have := hfn c hf; omega
  have Bh := B.mod m0 (fun _ _ h => h)
  refine PIf.intro (fun hq => ?_) (fun hq => ?_)
  · have hil : i < m.files.length := by simpa [o2.len] using hq
    have hgi := List.getElem?_eq_getElem hil
    generalize m.files[i] = f at hgi
    have hmem : f ∈ m.files := List.mem_of_getElem? hgi
    have oh : Own StrE t_string hh s (m.files.map (·.name)) := o2.mod mi fun c hc hf => by have := f2 c hc; have := hfn c hf; omega
    refine Join.mk fun K1 hK1 => ?_
    refine oh.view.idx (i := i) (x := f.name) (by simp [hgi]) fun a ha ca => LoadS.mk ca.str ?_
    refine atI (LoadM.mk (hget_lit Bh.head rfl) (lookup_ok P_mpf P_str P_zpf Bh.map ?_))
    have hfind := B.good.sorted.find hmem
    rcases Bh.look f.name with ⟨k1, k2⟩ | ⟨p, hp, k1, k2, k3⟩
    · rw [hfind] at k2; cases k2
    rw [hfind] at k2
    have hpf : p.1 = f := (Option.some.inj k2).symm
    rw [k1]
    refine ⟨some ⟨p.2, 0, none⟩, rfl, ?_⟩
    have hc := Bh.cells p hp
    rw [hpf] at hc
    have hcount := cntF_le (m.files.take i) 0
    have hti : (m.files.take i).length = i := by simp; omega
    have hsnoc : m.files.take (i + 1) = m.files.take i ++ [f] := by rw [List.take_add_one, hgi]; rfl
    have hfw := wtF_mem hmem
    have hwt := B.good.wt
    refine atI (LoadS.mk (hget_lit hc rfl) (Join.mk fun K2 hK2 => ?_))
    -- the next round
    have next : ∀ h5 kv5, BoxAt h5 bn rn kv5 ⟨crashF ks 0 (m.files.take (i + 1)), -1, false⟩ → (∀ c, footB bn rn kv5 c → footB bn rn kvn c ∨ h2.size ≤ c) → Mod (footB bn rn kvn) h2 h5 → K1 (((nextF (cntF 0 (m.files.take i)) f : Nat) : Int), ()) h5 := fun h5 kv5 B5 e5 m5 => by
      refine hK1 _ _ (hK (m.files.length - (i + 1)) _ _ (by omega) ⟨i + 1, kv5, ?_, rfl, by omega, B5, e5, m5⟩)
      rw [wrap_succ (by omega), hsnoc, cntF_snoc]
    have keep2 : K2 (((nextF (cntF 0 (m.files.take i)) f : Nat) : Int), keptF ks (cntF 0 (m.files.take i)) f, ()) hh := hK2 _ _ (by
      rw [sEq_iff]
      have hsn2 := crashF_snoc ks (m.files.take i) f
      rw [← hsnoc] at hsn2
      unfold oneF at hsn2
      refine PIf.intro (fun hq => ?_) (fun hq => ?_)
      · have hq : ¬ keptF ks (cntF 0 (m.files.take i)) f = bs0 := by simpa using hq
        rw [if_neg hq] at hsn2
        refine atI (LoadM.mk (hget_lit Bi.head rfl) (New.mk fun h5 _ hb5 x5 hs5 => ?_))
        have B5 := Bi.mod x5 (fun _ _ h => h)
        have hnew : lookM f.name (kvM kvi) = none := by
          rcases Bi.look f.name with ⟨k1, _⟩ | ⟨p', _, _, k2', k3'⟩
          · exact k1
          · exfalso
            have hm := (findF_some k2').2
            obtain ⟨f', hf', e'⟩ := mem_crashF hm
            rw [k3'] at e'
            obtain ⟨j, hj, e2⟩ := List.getElem_of_mem hf'
            have hji : j < i := by simp at hj; omega
            have hs := List.pairwise_iff_getElem.1 B.good.sorted j i (by omega) hil hji
            have e3 : m.files[j] = f' := by simpa using e2
            have e4 : m.files[i] = f := by have := List.getElem?_eq_getElem hil; rw [hgi] at this; exact (Option.some.inj this).symm
            rw [e3, e4, e'] at hs
            exact lt_ne hs rfl
        have hkl : (kvM kvi).length ≤ i := by
          have h1 := Bi.perm.length_eq
          have h2 : (crashF ks 0 (m.files.take i)).length ≤ (m.files.take i).length := crashF_len
          simp at h1 ⊢; simp at h1 h2; omega
        refine update_ok P_mpf P_str B5.map (by have := B.good.names f hmem; simp [maxLen]; omega) (by simp only [maxLen]; omega) fun h6 M6 m6 hs6 => ?_
        rw [updM_new hnew] at M6
        have hrl := B5.map.lt
        have hb6 := m6.blk hb5 (by have := Bi.map.lt; omega)
        have B6 := BoxAt.add (x := ⟨f.name, keptF ks (cntF 0 (m.files.take i)) f, bs0⟩) (c := hh.size) (l := crashF ks 0 (m.files.take (i + 1))) Bi (by rw [kvM, List.map_append]; exact M6) hb6 (Nat.le_refl _) (x5.mod.trans m6)
          (by rw [hsn2]; exact (List.perm_append_singleton _ _).symm) (by
            have hg : GoodB (crashB { m with files := m.files.take (i + 1) } ks) := by
              refine GoodB.crash (m := { m with files := m.files.take (i + 1) }) ⟨B.good.sorted.sublist (List.take_sublist _ _), fun f2 hf2 => B.good.names f2 (List.mem_of_mem_take (i := i + 1) hf2), B.good.lo, B.good.hi, ?_⟩
              have := wtF_take (i + 1) m.files
              show wtF (m.files.take (i + 1)) ≤ 1099511627776
              omega
            exact hg)
        refine next h6 _ B6 ?_ ((mi.trans x5.mod).trans (m6.weak fun c _ hc => ?_))
        · intro c hc
          rcases hc with hc | hc | ⟨p', hp', rfl⟩
          · exact .inl (.inl hc)
          · exact .inl (.inr (.inl hc))
          · rcases List.mem_append.1 hp' with hp' | hp'
            · exact hki _ (.inr (.inr ⟨p', hp', rfl⟩))
            · simp at hp'; subst hp'; exact .inr mi.size
        · exact .inr (.inl hc)
      · have hq : keptF ks (cntF 0 (m.files.take i)) f = bs0 := by simpa using hq
        rw [if_pos hq, List.append_nil] at hsn2
        exact next hh kvi (by rw [hsn2]; exact Bi) hki mi)
    refine atI (LoadS.mk (hget_lit1 hc rfl) ?_)
    rw [sEq_iff]
    unfold keptF nextF at keep2
    refine PIf.intro (fun hq => ?_) (fun hq => ?_)
    · have hq : ¬ f.soft = bs0 := by simpa using hq
      rw [if_neg hq, if_neg hq] at keep2
      refine Join.mk fun K3 hK3 => ?_
      have k3 : ∀ x, x = (match ks[cntF 0 (m.files.take i)]? with | some n => f.firm ++ f.soft.extract 0 (min n.toNat f.soft.size) | none => f.firm) → K3 (x, ()) hh := fun x hx => hK3 _ _ (by
        rw [wrap_succ (by omega), hx]; exact keep2)
      refine PIf.intro (fun hq2 => ?_) (fun hq2 => ?_)
      · have hkl : cntF 0 (m.files.take i) < ks.length := by simpa [V.len] using hq2
        have hgk := List.getElem?_eq_getElem hkl
        generalize ks[cntF 0 (m.files.take i)] = n at hgk
        rw [hgk] at k3
        have Vh := V.ext m0
        refine atI (LoadS.mk (hget_lit1 hc rfl) (Vh.idx hgk fun a _ ca => LoadI.mk ca.int (atI (LoadS.mk (hget_lit1 hc rfl) ?_))))
        have e : (if ((if ((f.soft.size : Int) : Int) < n then (f.soft.size : Int) else n) : Int) > 0 then (if ((f.soft.size : Int) : Int) < n then (f.soft.size : Int) else n) else 0) = ((min n.toNat f.soft.size : Nat) : Int) := by
          split <;> split <;> omega
        rw [e]
        refine ⟨⟨by omega, by omega⟩, ?_, ?_⟩
        · rw [max_i64, ByteArray.size_extract]; omega
        · exact k3 _ rfl
      · have hkl : ks.length ≤ cntF 0 (m.files.take i) := by simpa [V.len] using hq2
        refine k3 _ ?_
        rw [List.getElem?_eq_none hkl]
    · have hq : f.soft = bs0 := by simpa using hq
      rw [if_pos hq, if_pos hq] at keep2
      exact keep2
  · have hil : i = m.files.length := by simp [o2.len] at hq; omega
    subst hil
    rw [List.take_length] at Bi
    refine atI (Store.mk1 Bh.head (by simp) fun h5 hb5 m5 hs5 => ?_)
    have B5 := Bh.hd (m' := offB m) (by simpa [offB] using hb5) m5 rfl B.good.off
    refine H bn h5 (footB bn rn kvi) ⟨r, kv, B5, hS⟩ ⟨rn, kvi, Bi.mod m5 ?_, fun _ => Iff.rfl⟩ (m0.mod.trans (m5.weak fun c _ hc => (hS c).2 (.inl hc))) ?_
    · rintro c hc rfl
      have hbl := blk_lt B.head
      rcases hki _ hc with h | h
      · have := hfn _ h; omega
      · have := x02.size; omega
    · intro c hc
      rcases hki c hc with h | h
      · exact (hfn _ h).1
      · have := x02.size; omega
end Go.Lf.G
