/-
  Contracts: the box (chapter 3): the names in their order; List; Crash.
-/
import Derived.Test.YtbbikicpamgbmaaGreatDoorLfV2ToS1a
import Derived.Test.YtbbikicpamgbmaaGreatDoorLfU10ToS1
import Derived.Test.YtbbikicpamgbmaaGreatDoorLfU2ToV1
set_option maxRecDepth 100000
set_option linter.unusedVariables false
set_option linter.unusedSimpArgs false
namespace Go.Lf.G
open Go

abbrev f_keys1 : FuncId := f_maps_Keys_of_map_string__box_file_string__box_file_1
theorem Keys_ok {A : Amb} {h : Heap} {mb : Option Nat} {R : Value → Heap → Prop} (H : ∀ T h', h'[h.size]? = some (.cells #[.map mb] T (0, 0)) → Ext h h' → h'.size = h.size + 1 → R (.func (.func f_keys1) #[] #[ptrV h.size]) h') :
    HCalls A P f_maps_Keys_of_map_string__box_file_string__box_file #[.map mb] h R := by
  intro n
  have h0 := Proofs.AnyZ.keys_in Proofs.Tryz.keysA Fence.wide 5 trivial rfl mb (A.at h n)
  have h1 := callsIn_wide.1 h0
  refine Calls.mono h1 ?_
  rintro e w' ⟨rfl, rfl⟩
  refine ⟨_, rfl, h.push (.cells #[.map mb] (Proofs.Tryz.keysA_ren.t 23)), n, rfl, ?_⟩
  exact H (Proofs.Tryz.keysA_ren.t 23) (h.push (.cells #[.map mb] (Proofs.Tryz.keysA_ren.t 23))) (by simp) (Mod.push h _) (by simp)

theorem sortsA (m : Nat) : Proofs.AnyZ.SortsIn P Proofs.Tryz.sortedA_ren Fence.wide m :=
  ⟨fun blk off cap ss W hH hblk hsz => callsIn_wide.2 (Proofs.AnyM.slices_Sort_string Proofs.Tryz.sortA blk off cap ss W hH hblk hsz),
   fun p cap W => callsIn_wide.2 (Proofs.AnyM.slices_Sort_string_none Proofs.Tryz.sortA p cap W)⟩

theorem Sorted_ok {A : Amb} {h : Heap} {c r : Nat} {T : TypeId} {m : List (ByteArray × Value)} {l : List ByteArray} {R : Value → Heap → Prop} (hc : h[c]? = some (.cells #[.map (some r)] T (0, 0))) (M : MapS h r m)
    (hl : SortedS l) (hp : (m.map (·.1)).Perm l) (hb : m.length ≤ 1099511627776)
    (H : ∀ s h', Own StrE t_string h' s l → Ext h h' → (∀ b, s.blk = some b → h.size ≤ b) → R (.slice s.p s.len s.cap) h') :
    HCalls A P f_slices_Sorted_of_string #[.func (.func f_keys1) #[] #[ptrV c]] h R := by
  intro n
  obtain ⟨D, hown, hperm, hsize⟩ := keys_owned (P := P) (kt := t_string) P_str (w := A.at h n) M
  have hseq : SeqGives Fence.wide 2 P f_keys1 #[ptrV c] Proofs.encStr (fun ss => ss.Perm (strKeys D)) (Maps.size D) (A.at h n) :=
    Proofs.AnyZ.keys_gives (ρ := Proofs.Tryz.keysA_ren) { Proofs.Tryz.keysA with } Fence.wide _ trivial rfl (by omega) c r _ D _ (show c < h.size from blk_lt hc) (by show hget h ⟨c, 0, none⟩ = _; rw [hget_cells hc]; rfl) hown
  have h0 := Proofs.AnyZ.sorted_in Proofs.Tryz.sortedA Fence.wide 5 trivial trivial trivial trivial rfl (by omega) (sortsA _) (Proofs.enters_of Proofs.Tryz.func39 (by kernel_rfl) rfl) f_keys1 #[ptrV c] trivial (Proofs.enters_of Proofs.Tryz.func40 (by kernel_rfl) rfl) _ _ (by rw [hsize]; simp [maxLen]; omega) (by rw [hsize]; omega) _ hseq
  have h1 := callsIn_wide.1 h0
  refine Calls.mono h1 ?_
  rintro e w' ⟨v, ss, rfl, hS, hrow, hnil, hbl⟩
  have hw' : w' = A.at w'.heap w'.drawn := at_of (A := A) (h := h) (n := n) rfl hbl.os hbl.tape hbl.output
  have hperm2 : ss.Perm (l.map fun x => x.data.toList) := by
    refine (hS.trans hperm).trans ?_
    have := hp.map fun x : ByteArray => x.data.toList
    simpa [List.map_map, Function.comp_def] using this
  have hsl : ss.length = l.length := by have := hperm2.length_eq; simpa using this
  rw [sort_names hl hperm2, enc_names] at hrow
  have hx : Ext h w'.heap := ⟨hbl.size, fun b hb _ => hbl.block b hb⟩
  rcases hrow.2 with ⟨rfl, h00⟩ | ⟨g, cap, cur, rfl, hgb, hg, hcc, hm, hs, ht⟩
  · have : l = [] := List.eq_nil_of_length_eq_zero (by omega)
    subst this
    exact ⟨_, rfl, w'.heap, w'.drawn, hw', H ⟨none, 0, 0⟩ _ Own.nil hx (fun b hb => by simp [Sl.blk] at hb)⟩
  · refine ⟨_, rfl, w'.heap, w'.drawn, hw', H ⟨some ⟨g, 0, none⟩, ss.length, cap⟩ _ ⟨hsl, .inr ⟨g, cur, rfl, hg, hcc, hm, hs, ht⟩⟩ hx (fun b hb => ?_)⟩
    simp [Sl.blk] at hb; subst hb; exact hgb

/-! ### List -/
def listB (m : Bx) : List ByteArray × Int := if m.down then ([], 30) else (m.files.map (·.name), 0)
theorem BoxAt.names {h : Heap} {b r : Nat} {kv : List (Fi × Nat)} {m : Bx} (B : BoxAt h b r kv m) : ((kvM kv).map (·.1)).Perm (m.files.map (·.name)) ∧ (kvM kv).length ≤ 1099511627776 := by
  refine ⟨?_, ?_⟩
  · have := B.perm.map (·.name)
    simpa [kvM, List.map_map, Function.comp_def] using this
  · have h1 := B.perm.length_eq
    have h2 := wtF_len m.files
    have h3 := B.good.wt
    simp at h1 ⊢
    omega
theorem BoxAt.sortedKeys {A : Amb} {h : Heap} {b r : Nat} {kv : List (Fi × Nat)} {m : Bx} (B : BoxAt h b r kv m) {R : Sl → Heap → Prop}
    (H : ∀ s h', Own StrE t_string h' s (m.files.map (·.name)) → Ext h h' → (∀ c, s.blk = some c → h.size ≤ c) → R s h') :
    HCalls A P f_maps_Keys_of_map_string__box_file_string__box_file #[.map (some r)] h fun v1 h2 => ∃ t10 : Value, v1 = t10 ∧ (
      HCalls A P f_slices_Sorted_of_string #[t10] h2 fun v2 h3 => ∃ t11 : Sl, v2 = .slice t11.p t11.len t11.cap ∧ R t11 h3) := by
  refine Keys_ok fun T h1 hb1 x1 hs1 => ⟨_, rfl, ?_⟩
  refine Sorted_ok hb1 (B.map.mod x1 (fun h => h)) (sortedF_iff.1 B.good.sorted) B.names.1 B.names.2 fun s h2 o2 x2 f2 => ⟨s, rfl, ?_⟩
  exact H s h2 o2 (x1.trans x2) (fun c hc => by have := f2 c hc; omega)
theorem bList_ok {A : Amb} {h : Heap} {b : Nat} {S : Nat → Prop} {m : Bx} {R : Value → Heap → Prop} (B : IsBox h b S m)
    (H : ∀ s h', Own StrE t_string h' s (listB m).1 → Ext h h' → (∀ c, s.blk = some c → h.size ≤ c) → R (.tuple #[.slice s.p s.len s.cap, .int .i64 (listB m).2]) h') : HCalls A P f_box_Box_List #[ptrV b] h R := by
  obtain ⟨r, kv, B, hS⟩ := B
  refine ok_box_Box_List ?_
  unfold F_box_Box_List
  refine off_ok B.head ⟨_, rfl, ?_⟩
  unfold listB at H
  refine PIf.intro (fun hd => ?_) (fun hd => ?_)
  · rw [if_pos hd] at H; exact H ⟨none, 0, 0⟩ h Own.nil Mod.refl (fun c hc => by simp [Sl.blk] at hc)
  rw [if_neg (by simp [hd])] at H
  exact atI (LoadM.mk (hget_lit B.head rfl) (B.sortedKeys fun s h' o x f => H s h' o x f))

/-! ### Crash -/
theorem BoxAt.add {h h' : Heap} {b r c : Nat} {kv : List (Fi × Nat)} {m : Bx} {x : Fi} {l : List Fi} (B : BoxAt h b r kv m) (M : MapS h' r (kvM (kv ++ [(x, c)]))) (hc : h'[c]? = some (.cells #[.string x.firm, .string x.soft] t_box_file (0, 0)))
    (hn : h.size ≤ c) (md : Mod (· = r) h h') (hp : (x :: m.files).Perm l) (g : GoodB { m with files := l }) : BoxAt h' b r (kv ++ [(x, c)]) { m with files := l } := by
  refine ⟨md.blk B.head B.ne_br.symm, M, ?_, ?_, ?_, g⟩
  · intro p hp
    rcases List.mem_append.1 hp with hp | hp
    · exact md.blk (B.cells p hp) (B.ne_pb hp).2
    · simp at hp; subst hp; exact hc
  · rw [List.map_append]
    exact (List.perm_append_singleton _ _).trans ((B.perm.cons _).trans hp)
  · rw [List.map_append]
    refine List.nodup_append.2 ⟨B.nodup, by simp, ?_⟩
    intro a ha c' hc'
    obtain ⟨p, hp, rfl⟩ := List.mem_map.1 ha
    simp at hc'; subst hc'
    have := blk_lt (B.cells p hp); omega

theorem bCrash_ok {A : Amb} {h : Heap} {b : Nat} {S : Nat → Prop} {m : Bx} {keep : Sl} {ks : List Int} {R : Value → Heap → Prop} (B : IsBox h b S m) (V : View IntE h keep ks)
    (H : ∀ b' h' S', IsBox h' b S (offB m) → IsBox h' b' S' (crashB m ks) → Mod S h h' → (∀ c, S' c → h.size ≤ c) → R (ptrV b') h') : HCalls A P f_box_Box_Crash #[ptrV b, .slice keep.p keep.len keep.cap] h R := by
  obtain ⟨r, kv, B, hS⟩ := B
  refine ok_box_Box_Crash ?_
  unfold F_box_Box_Crash
  refine PIf.no rfl ?_
  refine bNew_ok fun bn h1 Sn Bn x1 fn => ⟨_, rfl, ?_⟩
  have B1 := B.mod x1 (fun _ _ h => h)
  refine atI (LoadM.mk (hget_lit B1.head rfl) (B1.sortedKeys (R := fun t19 h3 => Loop _ _ _) fun s h2 o2 x2 f2 => ?_))
  have hlen : m.files.length ≤ 1099511627776 := by have := wtF_len m.files; have := B.good.wt; omega
  have x02 : Ext h h2 := x1.trans x2
  have hsn : ∀ c, s.blk = some c → ¬ Sn c := fun c hc hs => by have := Bn.lt hs; have := f2 c hc; omega
  obtain ⟨rn, kvn, Bn, hSn⟩ := Bn
  have hfn : ∀ c, footB bn rn kvn c → h.size ≤ c ∧ c < h1.size := fun c hc => ⟨fn c ((hSn c).2 hc), Bn.lt hc⟩
  -- the loop
  refine Loop.rule (fun q x hh => ∃ (i : Nat) (kvi : List (Fi × Nat)), x = (((cntF 0 (m.files.take i) : Nat) : Int), (i : Int), ()) ∧ q = m.files.length - i ∧ i ≤ m.files.length ∧
    BoxAt hh bn rn kvi ⟨crashF ks 0 (m.files.take i), -1, false⟩ ∧ (∀ c, footB bn rn kvi c → footB bn rn kvn c ∨ h2.size ≤ c) ∧ Mod (footB bn rn kvn) h2 hh) ?_
    ⟨0, kvn, rfl, rfl, by omega, by simpa [crashF, newB] using Bn.mod x2 (fun _ _ h => h), fun c hc => .inl hc, Mod.refl⟩
  rintro K q _ hh ⟨i, kvi, rfl, rfl, hi, Bi, hki, mi⟩ hK
  have m0 : Ext h hh := (x02.mod.trans mi).weak' fun c hc hf => by have := hfn c hf; omega
  have Bh := B.mod m0 (fun _ _ h => h)
  refine PIf.intro (fun hq => ?_) (fun hq => ?_)
  · have hil : i < m.files.length := by simpa [o2.len] using hq
    have hgi := List.getElem?_eq_getElem hil
    generalize m.files[i] = f at hgi
    have hmem : f ∈ m.files := List.mem_of_getElem? hgi
    have oh : Own StrE t_string hh s (m.files.map (·.name)) := o2.mod mi fun c hc hf => by have := f2 c hc; have := hfn c hf; omega
    refine Join.mk fun K1 hK1 => ?_
    refine oh.view.idx (i := i) (x := f.name) (by simp [hgi]) fun a ha ca => LoadS.mk ca.str ?_
    refine atI (LoadM.mk (hget_lit Bh.head rfl) (lookup_ok P_mpf P_str P_zpf Bh.map ?_))
    have hfind := B.good.sorted.find hmem
    rcases Bh.look f.name with ⟨k1, k2⟩ | ⟨p, hp, k1, k2, k3⟩
    · rw [hfind] at k2; cases k2
    rw [hfind] at k2
    have hpf : p.1 = f := (Option.some.inj k2).symm
    rw [k1]
    refine ⟨some ⟨p.2, 0, none⟩, rfl, ?_⟩
    have hc := Bh.cells p hp
    rw [hpf] at hc
    have hcount := cntF_le (m.files.take i) 0
    have hti : (m.files.take i).length = i := by simp; omega
    have hsnoc : m.files.take (i + 1) = m.files.take i ++ [f] := by rw [List.take_add_one, hgi]; rfl
    have hfw := wtF_mem hmem
    have hwt := B.good.wt
    refine atI (LoadS.mk (hget_lit hc rfl) (Join.mk fun K2 hK2 => ?_))
    -- the next round
    have next : ∀ h5 kv5, BoxAt h5 bn rn kv5 ⟨crashF ks 0 (m.files.take (i + 1)), -1, false⟩ → (∀ c, footB bn rn kv5 c → footB bn rn kvn c ∨ h2.size ≤ c) → Mod (footB bn rn kvn) h2 h5 → K1 (((nextF (cntF 0 (m.files.take i)) f : Nat) : Int), ()) h5 := fun h5 kv5 B5 e5 m5 => by
      refine hK1 _ _ (hK (m.files.length - (i + 1)) _ _ (by omega) ⟨i + 1, kv5, ?_, rfl, by omega, B5, e5, m5⟩)
      rw [wrap_succ (by omega), hsnoc, cntF_snoc]
    have keep2 : K2 (((nextF (cntF 0 (m.files.take i)) f : Nat) : Int), keptF ks (cntF 0 (m.files.take i)) f, ()) hh := hK2 _ _ (by
      rw [sEq_iff]
      have hsn2 := crashF_snoc ks (m.files.take i) f
      rw [← hsnoc] at hsn2
      unfold oneF at hsn2
      refine PIf.intro (fun hq => ?_) (fun hq => ?_)
      · have hq : ¬ keptF ks (cntF 0 (m.files.take i)) f = bs0 := by simpa using hq
        rw [if_neg hq] at hsn2
        refine atI (LoadM.mk (hget_lit Bi.head rfl) (New.mk fun h5 _ hb5 x5 hs5 => ?_))
        have B5 := Bi.mod x5 (fun _ _ h => h)
        have hnew : lookM f.name (kvM kvi) = none := by
          rcases Bi.look f.name with ⟨k1, _⟩ | ⟨p', _, _, k2', k3'⟩
          · exact k1
          · exfalso
            have hm := (findF_some k2').2
            obtain ⟨f', hf', e'⟩ := mem_crashF hm
            rw [k3'] at e'
            obtain ⟨j, hj, e2⟩ := List.getElem_of_mem hf'
            have hji : j < i := by simp at hj; omega
            have hs := List.pairwise_iff_getElem.1 B.good.sorted j i (by omega) hil hji
            have e3 : m.files[j] = f' := by simpa using e2
            have e4 : m.files[i] = f := by have := List.getElem?_eq_getElem hil; rw [hgi] at this; exact (Option.some.inj this).symm
            rw [e3, e4, e'] at hs
            exact lt_ne hs rfl
        have hkl : (kvM kvi).length ≤ i := by
          have h1 := Bi.perm.length_eq
          have h2 : (crashF ks 0 (m.files.take i)).length ≤ (m.files.take i).length := crashF_len
          simp at h1 ⊢; simp at h1 h2; omega
        refine update_ok P_mpf P_str B5.map (by have := B.good.names f hmem; simp [maxLen]; omega) (by simp only [maxLen]; omega) fun h6 M6 m6 hs6 => ?_
        rw [updM_new hnew] at M6
        have hrl := B5.map.lt
        have hb6 := m6.blk hb5 (by have := Bi.map.lt; omega)
        have B6 := BoxAt.add (x := ⟨f.name, keptF ks (cntF 0 (m.files.take i)) f, bs0⟩) (c := hh.size) (l := crashF ks 0 (m.files.take (i + 1))) Bi (by rw [kvM, List.map_append]; exact M6) hb6 (Nat.le_refl _) (x5.mod.trans m6)
          (by rw [hsn2]; exact (List.perm_append_singleton _ _).symm) (by
            have hg : GoodB (crashB { m with files := m.files.take (i + 1) } ks) := by
              refine GoodB.crash (m := { m with files := m.files.take (i + 1) }) ⟨B.good.sorted.sublist (List.take_sublist _ _), fun f2 hf2 => B.good.names f2 (List.mem_of_mem_take (i := i + 1) hf2), B.good.lo, B.good.hi, ?_⟩
              have := wtF_take (i + 1) m.files
              show wtF (m.files.take (i + 1)) ≤ 1099511627776
              omega
            exact hg)
        refine next h6 _ B6 ?_ ((mi.trans x5.mod).trans (m6.weak fun c _ hc => ?_))
        · intro c hc
          rcases hc with hc | hc | ⟨p', hp', rfl⟩
          · exact .inl (.inl hc)
          · exact .inl (.inr (.inl hc))
          · rcases List.mem_append.1 hp' with hp' | hp'
            · exact hki _ (.inr (.inr ⟨p', hp', rfl⟩))
            · simp at hp'; subst hp'; exact .inr mi.size
        · exact .inr (.inl hc)
      · have hq : keptF ks (cntF 0 (m.files.take i)) f = bs0 := by simpa using hq
        rw [if_pos hq, List.append_nil] at hsn2
        exact next hh kvi (by rw [hsn2]; exact Bi) hki mi)
    refine atI (LoadS.mk (hget_lit1 hc rfl) ?_)
    rw [sEq_iff]
    unfold keptF nextF at keep2
    refine PIf.intro (fun hq => ?_) (fun hq => ?_)
    · have hq : ¬ f.soft = bs0 := by simpa using hq
      rw [if_neg hq, if_neg hq] at keep2
      refine Join.mk fun K3 hK3 => ?_
      have k3 : ∀ x, x = (match ks[cntF 0 (m.files.take i)]? with | some n => f.firm ++ f.soft.extract 0 (min n.toNat f.soft.size) | none => f.firm) → K3 (x, ()) hh := fun x hx => hK3 _ _ (by
        rw [wrap_succ (by omega), hx]; exact keep2)
      refine PIf.intro (fun hq2 => ?_) (fun hq2 => ?_)
      · have hkl : cntF 0 (m.files.take i) < ks.length := by simpa [V.len] using hq2
        have hgk := List.getElem?_eq_getElem hkl
        generalize ks[cntF 0 (m.files.take i)] = n at hgk
        rw [hgk] at k3
        have Vh := V.ext m0
        refine atI (LoadS.mk (hget_lit1 hc rfl) (Vh.idx hgk fun a _ ca => LoadI.mk ca.int (atI (LoadS.mk (hget_lit1 hc rfl) ?_))))
        have e : (if ((if ((f.soft.size : Int) : Int) < n then (f.soft.size : Int) else n) : Int) > 0 then (if ((f.soft.size : Int) : Int) < n then (f.soft.size : Int) else n) else 0) = ((min n.toNat f.soft.size : Nat) : Int) := by
          split <;> split <;> omega
        rw [e]
        refine ⟨⟨by omega, by omega⟩, ?_, ?_⟩
        · rw [max_i64, ByteArray.size_extract]; omega
        · exact k3 _ rfl
      · have hkl : ks.length ≤ cntF 0 (m.files.take i) := by simpa [V.len] using hq2
        refine k3 _ ?_
        rw [List.getElem?_eq_none hkl]
    · have hq : f.soft = bs0 := by simpa using hq
      rw [if_pos hq, if_pos hq] at keep2
      exact keep2
  · have hil : i = m.files.length := by simp [o2.len] at hq; omega
    subst hil
    rw [List.take_length] at Bi
    refine atI (Store.mk1 Bh.head (by simp) fun h5 hb5 m5 hs5 => ?_)
    have B5 := Bh.hd (m' := offB m) (by simpa [offB] using hb5) m5 rfl B.good.off
    refine H bn h5 (footB bn rn kvi) ⟨r, kv, B5, hS⟩ ⟨rn, kvi, Bi.mod m5 ?_, fun _ => Iff.rfl⟩ (m0.mod.trans (m5.weak fun c _ hc => (hS c).2 (.inl hc))) ?_
    · rintro c hc rfl
      have hbl := blk_lt B.head
      rcases hki _ hc with h | h
      · have := hfn _ h; omega
      · have := x02.size; omega
    · intro c hc
      rcases hki c hc with h | h
      · exact (hfn _ h).1
      · have := x02.size; omega
end Go.Lf.G

/-
  Contracts: frames scanned, a log's segments, a log opened (chapters 2 and 4).
-/
set_option maxRecDepth 100000
set_option linter.unusedVariables false
set_option linter.unusedSimpArgs false
namespace Go.Lf.G
open Go

theorem app_str4 : appB P t_sl_string t_string StrE.w 16 = true := by kernel_rfl
theorem app_int4 : appB P t_sl_int t_int IntE.w 8 = true := by kernel_rfl

/-! ### frames -/
theorem strL_bl (s : ByteArray) : strL (bl s) = s := strL_of s
theorem scan_length {l : List UInt8} {rs : List (List UInt8)} (h : Scan l rs) : rs.length ≤ l.length := by
  induction h with
  | stop h => exact Nat.zero_le _
  | step h s ih => have := next_rest h; simp only [List.length_cons]; omega
theorem fScan_ok {A : Amb} {h : Heap} {s : ByteArray} {R : Value → Heap → Prop} (hs : s.size ≤ 1073741824)
    (H : ∀ h' sl n, Ext h h' → View StrE h' sl ((scanL (bl s)).map strL) → R (.tuple #[.slice sl.p sl.len sl.cap, .int .i64 n]) h') : HCalls A P f_frame_Scan #[.string s] h R := by
  refine ok_frame_Scan ?_
  unfold F_frame_Scan
  refine Loop.rule (fun m x hh => ∃ (sl : Sl) (dn rs : List (List UInt8)) (l : List UInt8), x = (sl, strL l, ()) ∧ Ext h hh ∧ Own StrE t_string hh sl (dn.map strL) ∧ (∀ c, sl.blk = some c → h.size ≤ c) ∧ Scan l rs ∧ scanL (bl s) = dn ++ rs ∧ dn.length + l.length ≤ s.size ∧ m = l.length) ?_
    ⟨⟨none, 0, 0⟩, [], _, bl s, by rw [strL_bl], Mod.refl, Own.nil, fun c hc => by simp [Sl.blk] at hc, scanL_is _, rfl, by rw [bl_size]; simp, rfl⟩
  rintro K m _ hh ⟨sl, dn, rs, l, rfl, x, o, f, sc, e, hl, rfl⟩ hK
  refine fNext_ok (by omega) fun h2 x2 => ⟨_, _, _, rfl, ?_⟩
  cases sc with
  | stop hn =>
    refine PIf.no (by simp; omega) ?_
    rw [List.append_nil] at e
    exact H h2 sl _ (x.trans x2) (by rw [e]; exact (o.ext x2).view)
  | step hn sc =>
    rename_i rs
    refine PIf.yes (by simp; omega) ?_
    have hr := next_rest hn
    refine New.append1 (E := StrE) (x := strL (nextL l).2.1) (s := sl) (l := dn.map strL) rfl app_str4 (o.ext x2) (by simp; omega) (by simp [maxLen]; omega) fun s' h6 o6 m6 b6 n6 => ?_
    refine hK (nextL l).2.2.length _ _ (by omega) ⟨s', dn ++ [(nextL l).2.1], rs, (nextL l).2.2, rfl, (x.trans x2).more m6 f, ?_, fun c hc => ?_, sc, by rw [e]; simp, by simp; omega, rfl⟩
    · rw [List.map_append]; exact o6
    · rcases b6 c hc with h | h
      · exact f c h
      · have := x.size; have := x2.size; omega

/-! ### integers in order -/
theorem Sort_ok {A : Amb} {h : Heap} {s : Sl} {l : List Int} {R : Value → Heap → Prop} (o : Own IntE t_int h s l) (hl : l.length ≤ 1099511627776)
    (H : ∀ h', View IntE h' s (l.mergeSort fun x y => decide (x ≤ y)) → Mod (fun b => s.blk = some b) h h' → R (.tuple #[]) h') : HCalls A P f_slices_Sort_of___int_int #[.slice s.p s.len s.cap] h R := by
  intro n
  have hlen := o.len
  rcases o.row with ⟨rfl, rfl⟩ | ⟨g, cur, hp, hg, hc1, hc2, hc3, hc4⟩
  · refine Calls.mono (Proofs.AnyM.slices_Sort_int_none Proofs.Tryz.sortI none 0 (A.at h n)) ?_
    rintro e w' ⟨rfl, rfl⟩
    exact ⟨_, rfl, h, n, rfl, H h (by simpa using View.nil) Mod.refl⟩
  · rw [hp, hlen]
    have hw : IntE.w = 1 := rfl
    rw [hw, Nat.mul_one] at hc3 hc4
    have hcur : ∀ j x, l[j]? = some x → cur[j]? = some (Value.int .i64 x) := fun j x hj => by
      have h1 := flat_get (E := IntE) hj 0 (.int .i64 x) rfl
      rw [← hc4, hw, Nat.mul_one, Nat.add_zero, List.getElem?_take] at h1
      split at h1
      · simpa using h1
      · cases h1
    refine Calls.mono (Proofs.AnyM.slices_Sort_int Proofs.Tryz.sortI g 0 s.cap l (A.at h n) ?_ (blk_lt hg) (by omega)) ?_
    · intro j hj
      have hj : j < l.length := by simpa using hj
      have h1 := hcur j l[j] (List.getElem?_eq_getElem hj)
      have h2 : l.toArray[j]! = l[j] := by simp [hj]
      refine ⟨?_, ?_⟩
      · show hget h ⟨g, 0 + j, none⟩ = _
        unfold hget
        rw [hg]
        simp only [Option.isSome_none, Bool.false_eq_true, if_false, Nat.zero_add, h2, h1]
      · show hfro h ⟨g, 0 + j, none⟩ = false
        unfold hfro
        rw [hg]
        simp
    · rintro e w' ⟨rfl, k, os, rfl⟩
      have hgb : (h.modify g (Sort.onCells (Sort.putCells (Value.int .i64) 0 (l.mergeSort fun x y => decide (x ≤ y)).toArray)) ++ os)[g]? = some (.cells (Sort.putCells (Value.int .i64) 0 (l.mergeSort fun x y => decide (x ≤ y)).toArray cur) t_int (0, 0)) := by
        rw [Array.getElem?_append_left (by simpa using blk_lt hg), Array.getElem?_modify, if_pos rfl, hg]
        rfl
      refine ⟨_, rfl, h.modify g (Sort.onCells (Sort.putCells (Value.int .i64) 0 (l.mergeSort fun x y => decide (x ≤ y)).toArray)) ++ os, n + k, rfl, H _ ⟨?_, hc1, fun j x hj => ⟨⟨g, 0, none⟩, hp, fun i v hi => ?_⟩⟩ ⟨by simp, fun b hb hn => ?_⟩⟩
      · rw [List.length_mergeSort]; exact hlen
      · have hi0 : i = 0 := by
          have := (List.getElem?_eq_some_iff.1 hi).1
          have e : (IntE.enc x).length = 1 := rfl
          omega
        subst hi0
        simp only [IntE, List.getElem?_cons_zero, Option.some.injEq] at hi
        subst hi
        have hjl : j < (l.mergeSort fun x y => decide (x ≤ y)).length := (List.getElem?_eq_some_iff.1 hj).1
        have hjc : j < cur.size := by rw [List.length_mergeSort] at hjl; omega
        rw [hw, Nat.mul_one, add_mk, add_mk, Nat.zero_add, Nat.add_zero]
        unfold hget
        rw [hgb]
        simp only [Option.isSome_none, Bool.false_eq_true, if_false, Sort.putCells, Array.getElem?_mapIdx]
        rw [Array.getElem?_eq_getElem hjc, Option.map_some, if_pos ⟨Nat.zero_le _, by simpa using hjl⟩]
        have : (l.mergeSort fun x y => decide (x ≤ y)).toArray[j - 0]! = x := by
          rw [Nat.sub_zero]
          simp [hj]
        rw [this]
      · have hbg : g ≠ b := fun e => hn (by rw [Sl.blk, hp, e]; rfl)
        rw [Array.getElem?_append_left (by simpa using hb), Array.getElem?_modify, if_neg hbg]

/-! ### segments -/
/-- the numbers of the files of a log, in order -/
structure SegL (nm : ByteArray) (m : Bx) (l : List Nat) : Prop where
  inc : l.Pairwise (· < ·)
  mem : ∀ n, n ∈ l ↔ 1 ≤ n ∧ n ≤ 99999999 ∧ (findF (fnB nm n) m.files).isSome = true
theorem find_names {k : ByteArray} {l : List Fi} : (findF k l).isSome = true ↔ k ∈ l.map (·.name) := by
  constructor
  · intro h
    cases hf : findF k l with
    | none => rw [hf] at h; cases h
    | some f =>
      obtain ⟨h1, h2⟩ := findF_some hf
      exact List.mem_map.2 ⟨f, h2, h1⟩
  · intro h
    obtain ⟨f, h1, h2⟩ := List.mem_map.1 h
    cases hf : findF k l with
    | none => exact absurd h2 (findF_none hf f h1)
    | some f => rfl
theorem names_nd {m : Bx} (g : GoodB m) : (m.files.map (·.name)).Nodup := List.pairwise_map.2 (g.sorted.imp fun h => lt_ne h)
theorem int_sorted {ns : List Nat} (hnd : ns.Nodup) : ∃ l : List Nat, ((ns.map fun n : Nat => (n : Int)).mergeSort fun x y => decide (x ≤ y)) = l.map (fun n : Nat => (n : Int)) ∧ l.Pairwise (· < ·) ∧ ∀ n, n ∈ l ↔ n ∈ ns := by
  have hp := List.mergeSort_perm (ns.map fun n : Nat => (n : Int)) (fun x y => decide (x ≤ y))
  have hs : ((ns.map fun n : Nat => (n : Int)).mergeSort fun x y => decide (x ≤ y)).Pairwise (fun x y => decide (x ≤ y) = true) :=
    List.pairwise_mergeSort (fun a b c h1 h2 => by simp at h1 h2 ⊢; omega) (fun a b => by simp; omega) _
  generalize (ns.map fun n : Nat => (n : Int)).mergeSort (fun x y => decide (x ≤ y)) = L at hp hs
  have hall : ∀ x ∈ L, ((x.toNat : Nat) : Int) = x := fun x hx => by
    obtain ⟨n, _, rfl⟩ := List.mem_map.1 (hp.subset hx)
    simp
  have hL : L = (L.map Int.toNat).map (fun n : Nat => (n : Int)) := by
    rw [List.map_map]
    conv => lhs; rw [← List.map_id L]
    exact List.map_congr_left fun x hx => (hall x hx).symm
  have hnd2 : L.Nodup := hp.symm.nodup (by
    rw [List.nodup_iff_pairwise_ne, List.pairwise_map]
    exact (List.nodup_iff_pairwise_ne.1 hnd).imp fun h e => h (by exact_mod_cast e))
  refine ⟨L.map Int.toNat, hL, ?_, fun n => ?_⟩
  · rw [List.pairwise_map]
    have h2 : L.Pairwise fun x y => decide (x ≤ y) = true ∧ x ≠ y := hs.and (List.nodup_iff_pairwise_ne.1 hnd2)
    refine h2.imp_of_mem fun {a c} ha hc hac => ?_
    have h3 := hall a ha
    have h4 := hall c hc
    have h5 : a ≤ c := of_decide_eq_true hac.1
    have h6 := hac.2
    omega
  · constructor
    · intro hn
      obtain ⟨x, hx, rfl⟩ := List.mem_map.1 hn
      obtain ⟨k, hk, rfl⟩ := List.mem_map.1 (hp.subset hx)
      simpa using hk
    · intro hn
      exact List.mem_map.2 ⟨(n : Int), hp.symm.subset (List.mem_map.2 ⟨n, hn, rfl⟩), by simp⟩

theorem segments_ok {A : Amb} {h : Heap} {b : Nat} {S : Nat → Prop} {m : Bx} {nm : ByteArray} {R : Value → Heap → Prop} (E : Evn h) (B : IsBox h b S m) (hd : m.down = false) (hnm : nm.size ≤ 1099511627776) (hw : wtF m.files ≤ 1073741824)
    (H : ∀ h' s (l : List Nat), SegL nm m l → View IntE h' s (l.map fun n : Nat => (n : Int)) → Ext h h' → (∀ c, s.blk = some c → h.size ≤ c) → R (.tuple #[.slice s.p s.len s.cap, .int .i64 0]) h') : HCalls A P f_wal_segments #[ptrV b, .string nm] h R := by
  refine ok_wal_segments ?_
  unfold F_wal_segments
  refine bList_ok B fun s h1 o1 x1 f1 => ⟨s, _, rfl, ?_⟩
  have hL : listB m = (m.files.map (·.name), 0) := by unfold listB; rw [if_neg (by simp [hd])]
  rw [hL] at o1 ⊢
  refine PIf.no rfl ?_
  have hnd := names_nd B.good
  have hsz : ∀ k ∈ m.files.map (·.name), k.size ≤ 32 := fun k hk => by
    obtain ⟨f, hf, rfl⟩ := List.mem_map.1 hk
    exact B.good.names f hf
  have hlen : (m.files.map (·.name)).length ≤ 1073741824 := by
    have := wtF_len m.files
    simp; omega
  have hfind : ∀ k, (findF k m.files).isSome = true ↔ k ∈ m.files.map (·.name) := fun k => find_names
  dsimp only at o1
  generalize m.files.map (·.name) = names at *
  have v1 := o1.view
  refine Loop.rule (fun mm x hh => ∃ (i : Nat) (sl : Sl) (ns : List Nat), x = (sl, (i : Int), ()) ∧ Ext h1 hh ∧ Own IntE t_int hh sl (ns.map fun n : Nat => (n : Int)) ∧ (∀ c, sl.blk = some c → h1.size ≤ c) ∧ i ≤ names.length ∧ ns.length ≤ i ∧ (ns.map (fnB nm)).Sublist (names.take i) ∧ (∀ n ∈ ns, 1 ≤ n ∧ n ≤ 99999999) ∧ (∀ k : Nat, 1 ≤ k → k ≤ 99999999 → fnB nm k ∈ names.take i → k ∈ ns) ∧ mm = names.length - i) ?_
    ⟨0, ⟨none, 0, 0⟩, [], rfl, Mod.refl, Own.nil, fun c hc => by simp [Sl.blk] at hc, Nat.zero_le _, Nat.le_refl _, by simp, by simp, by simp, rfl⟩
  rintro K mm _ hh ⟨i, sl, ns, rfl, xh, o, f, hi, hni, hsub, hrng, hall, rfl⟩ hK
  rw [v1.len]
  refine PIf.intro (fun hq => ?_) (fun hq => ?_)
  · have hil : i < names.length := by simpa using hq
    refine Join.mk fun K1 hK1 => ?_
    have hget : names[i]? = some names[i] := List.getElem?_eq_getElem hil
    rw [← v1.len]
    refine (v1.ext xh).idx hget fun a _ c => ?_
    refine LoadS.mk c.str ?_
    refine number_ok ((E.ext x1).ext xh) hnm (by have := hsz names[i] (List.getElem_mem hil); omega) fun h4 n x4 n0 n1 => ⟨_, rfl, ?_⟩
    have htk : names.take (i + 1) = names.take i ++ [names[i]] := by rw [List.take_add_one, hget]; rfl
    have fin : ∀ (s' : Sl) (ns' : List Nat) (h' : Heap), Ext h1 h' → Own IntE t_int h' s' (ns'.map fun n : Nat => (n : Int)) → (∀ c, s'.blk = some c → h1.size ≤ c) → ns'.length ≤ i + 1 → (ns'.map (fnB nm)).Sublist (names.take (i + 1)) → (∀ n ∈ ns', 1 ≤ n ∧ n ≤ 99999999) → (∀ k : Nat, 1 ≤ k → k ≤ 99999999 → fnB nm k ∈ names.take (i + 1) → k ∈ ns') → K1 (s', ()) h' := fun s' ns' h' x' o' f' l' sb' r' a' => by
      refine hK1 _ _ ?_
      dsimp only
      rw [wrap_succ (by omega)]
      exact hK (names.length - (i + 1)) _ _ (by omega) ⟨i + 1, s', ns', rfl, x', o', f', hil, l', sb', r', a', rfl⟩
    by_cases hn : n = 0
    · refine PIf.no (by simp [hn]) (fin sl ns h4 (xh.trans x4) (o.ext x4) f (by omega) ?_ hrng ?_)
      · rw [htk]; exact hsub.trans (List.sublist_append_left _ _)
      · intro k k1 k2 hk
        rw [htk] at hk
        rcases List.mem_append.1 hk with hk | hk
        · exact hall k k1 k2 hk
        · exact absurd (List.mem_singleton.1 hk).symm (n0 hn k k1 k2)
    · refine PIf.yes (by simp; omega) ?_
      obtain ⟨n9, ne⟩ := n1 hn
      refine New.append1 (E := IntE) (x := (n : Int)) (s := sl) (l := ns.map fun n : Nat => (n : Int)) rfl app_int4 (o.ext x4) (by simp; omega) (by simp [maxLen]; omega) fun s' h6 o6 m6 b6 _ => ?_
      refine fin s' (ns ++ [n]) h6 ((xh.trans x4).more m6 f) (by rw [List.map_append]; exact o6) (fun c hc => ?_) (by simp; omega) ?_ ?_ ?_
      · rcases b6 c hc with h | h
        · exact f c h
        · have := xh.size; have := x4.size; omega
      · rw [htk, List.map_append]
        have e2 : [n].map (fnB nm) = [names[i]] := by rw [ne]; rfl
        rw [e2]
        exact hsub.append (List.Sublist.refl _)
      · intro k hk
        rcases List.mem_append.1 hk with hk | hk
        · exact hrng k hk
        · rw [List.mem_singleton.1 hk]; omega
      · intro k k1 k2 hk
        rw [htk] at hk
        rcases List.mem_append.1 hk with hk | hk
        · exact List.mem_append.2 (.inl (hall k k1 k2 hk))
        · have := fnB_inj ((List.mem_singleton.1 hk).trans ne)
          exact List.mem_append.2 (.inr (by simp [this]))
  · have hil : i = names.length := by simp at hq; omega
    subst hil
    rw [List.take_length] at hsub hall
    have hnd2 : ns.Nodup := by
      have h1 := hsub.nodup hnd
      rw [List.nodup_iff_pairwise_ne, List.pairwise_map] at h1
      rw [List.nodup_iff_pairwise_ne]
      exact h1.imp fun h e => h (by rw [e])
    obtain ⟨l, hl1, hl2, hl3⟩ := int_sorted hnd2
    refine Sort_ok o (by simp; omega) fun h7 v7 m7 => ⟨rfl, ?_⟩
    rw [hl1] at v7
    refine H h7 sl l ⟨hl2, fun n => ?_⟩ v7 ((x1.trans xh).more m7 fun c hc => by have := f c hc; have := x1.size; omega) fun c hc => by have := f c hc; have := x1.size; omega
    rw [hl3, hfind]
    constructor
    · intro hn
      obtain ⟨r1, r2⟩ := hrng n hn
      exact ⟨r1, r2, hsub.subset (List.mem_map.2 ⟨n, hn, rfl⟩)⟩
    · rintro ⟨r1, r2, r3⟩
      exact hall n r1 r2 r3
end Go.Lf.G

/-
  Contracts: a log opened; added to, synced, rotated, dropped (chapter 4).
-/
set_option maxRecDepth 100000
set_option linter.unusedVariables false
set_option linter.unusedSimpArgs false
namespace Go.Lf.G
open Go

/-! ### what lies in files -/
def rdF (l : List Fi) (k : ByteArray) : Nat := match findF k l with | none => 0 | some f => f.firm.size + f.soft.size
theorem find_cons {k : ByteArray} {f : Fi} {l : List Fi} : findF k (f :: l) = if f.name = k then some f else findF k l := by rw [findF_cons]
theorem rd_del (k : ByteArray) : ∀ l : List Fi, rdF l k + wtF (delF k l) ≤ wtF l
  | [] => by simp [rdF, findF, delF, wtF]
  | f :: l => by
    have ih := rd_del k l
    have hw : wtF (f :: l) = f.firm.size + f.soft.size + 1 + wtF l := by simp [wtF]
    by_cases h : f.name = k
    · have h1 : rdF (f :: l) k = f.firm.size + f.soft.size := by unfold rdF; rw [find_cons, if_pos h]
      have h2 : delF k (f :: l) = delF k l := by simp [delF, h]
      rw [h1, h2, hw]; omega
    · have h1 : rdF (f :: l) k = rdF l k := by unfold rdF; rw [find_cons, if_neg h]
      have h2 : delF k (f :: l) = f :: delF k l := by simp [delF, h]
      have h3 : wtF (f :: delF k l) = f.firm.size + f.soft.size + 1 + wtF (delF k l) := by simp [wtF]
      rw [h1, h2, h3, hw]; omega
theorem rd_sum : ∀ (ks : List ByteArray), ks.Nodup → ∀ l : List Fi, (ks.map (rdF l)).sum ≤ wtF l
  | [], _, l => by simp
  | k :: ks, hnd, l => by
    rw [List.nodup_cons] at hnd
    have ih := rd_sum ks hnd.2 (delF k l)
    have e : ks.map (rdF (delF k l)) = ks.map (rdF l) := List.map_congr_left fun x hx => by
      unfold rdF
      rw [findF_del, if_neg (fun h => by subst h; exact hnd.1 hx)]
    rw [e] at ih
    have := rd_del k l
    simp only [List.map_cons, List.sum_cons]
    omega
def rdB (m : Bx) (nm : ByteArray) (n : Nat) : ByteArray := (readB m (fnB nm n)).1
noncomputable def recsB (nm : ByteArray) (m : Bx) (l : List Nat) : List ByteArray := l.flatMap fun n => (scanL (bl (rdB m nm n))).map strL
theorem rd_size {m : Bx} (hd : m.down = false) (k : ByteArray) : (readB m k).1.size = rdF m.files k := by
  unfold readB rdF
  rw [if_neg (by simp [hd])]
  cases findF k m.files with
  | none => rfl
  | some f => simp [ByteArray.size_append]
theorem recs_len {nm : ByteArray} {m : Bx} (hd : m.down = false) {l : List Nat} (hl : l.Pairwise (· < ·)) : (recsB nm m l).length ≤ wtF m.files := by
  have h1 : (recsB nm m l).length ≤ ((l.map (fnB nm)).map (rdF m.files)).sum := by
    unfold recsB
    clear hl
    induction l with
    | nil => simp
    | cons n l ih =>
      have h2 := scan_length (scanL_is (bl (rdB m nm n)))
      rw [bl_size, rdB, rd_size hd] at h2
      simp only [List.flatMap_cons, List.length_append, List.length_map, List.map_cons, List.sum_cons] at ih ⊢
      unfold rdB at ih ⊢
      omega
  refine Nat.le_trans h1 (rd_sum _ ?_ _)
  refine List.pairwise_map.2 (hl.imp fun {a c} h e => ?_)
  have := fnB_inj e
  omega

/-! ### Open -/
theorem Open_ok {A : Amb} {h : Heap} {b : Nat} {S : Nat → Prop} {m : Bx} {nm : ByteArray} {R : Value → Heap → Prop} (E : Evn h) (B : IsBox h b S m) (hd : m.down = false) (h0 : 0 < nm.size) (h8 : nm.size ≤ 8) (hw : wtF m.files ≤ 1073741824)
    (H0 : ∀ h' l, SegL nm m l → l.getLast?.getD 0 = 99999999 → Ext h h' → R (.tuple #[.pointer none, .slice none 0 0, .int .i64 2]) h')
    (H1 : ∀ h' l lg sl, SegL nm m l → l.getLast?.getD 0 ≠ 99999999 → Ext h h' → h.size ≤ lg → h'[lg]? = some (.cells #[ptrV b, .string nm, .int .i64 ((l.getLast?.getD 0 + 1 : Nat) : Int), .bool false] t_wal_Log (0, 0)) → View StrE h' sl (recsB nm m l) →
      (∀ c, sl.blk = some c → h.size ≤ c) → R (.tuple #[ptrV lg, .slice sl.p sl.len sl.cap, .int .i64 0]) h') : HCalls A P f_wal_Open #[ptrV b, .string nm] h R := by
  refine ok_wal_Open ?_
  unfold F_wal_Open
  refine PIf.no rfl (Join.mk fun K hK => ?_)
  have hne : sEq nm (⟨#[]⟩ : ByteArray) = false := by
    rw [sEq_iff, decide_eq_false_iff_not]
    rintro rfl
    have : (⟨#[]⟩ : ByteArray).size = 0 := rfl
    omega
  rw [hne]
  refine PIf.no rfl (hK _ _ (PIf.no (by simp; omega) ?_))
  refine segments_ok E B hd (by omega) hw fun h2 s2 l SL v2 x2 _ => ⟨s2, _, rfl, PIf.no rfl ?_⟩
  have hsz0 : l.length ≤ 99999999 := by
    have h1 : ∀ (l : List Nat) (k : Nat), l.Pairwise (· < ·) → (∀ n ∈ l, k < n ∧ n ≤ 99999999) → l.length + k ≤ 99999999 ∨ l = [] := by
      intro l
      induction l with
      | nil => intro k _ _; exact .inr rfl
      | cons a l ih =>
        intro k hp hr
        rw [List.pairwise_cons] at hp
        have ha := hr a (by simp)
        rcases ih a hp.2 (fun n hn => ⟨hp.1 n hn, (hr n (List.mem_cons_of_mem _ hn)).2⟩) with h | h
        · left; simp only [List.length_cons]; omega
        · subst h; left; simp; omega
    rcases h1 l 0 SL.inc (fun n hn => by have := (SL.mem n).1 hn; omega) with h | h
    · omega
    · subst h; simp
  refine Loop.rule (fun mm x hh => ∃ (i : Nat) (sl : Sl), x = (sl, (((l.take i).getLast?.getD 0 : Nat) : Int), (i : Int), ()) ∧ Ext h2 hh ∧ Own StrE t_string hh sl (recsB nm m (l.take i)) ∧ (∀ c, sl.blk = some c → h2.size ≤ c) ∧ i ≤ l.length ∧ mm = l.length - i) ?_
    ⟨0, ⟨none, 0, 0⟩, rfl, Mod.refl, Own.nil, fun c hc => by simp [Sl.blk] at hc, Nat.zero_le _, rfl⟩
  rintro K1 mm _ hh ⟨i, sl, rfl, xh, o, f, hi, rfl⟩ hK1
  have hlen : (l.map fun n : Nat => (n : Int)).length = l.length := List.length_map ..
  rw [v2.len, hlen]
  refine PIf.intro (fun hq => ?_) (fun hq => ?_)
  · have hil : i < l.length := by simpa using hq
    have hget : l[i]? = some l[i] := List.getElem?_eq_getElem hil
    have hmem : l[i] ∈ l := List.getElem_mem hil
    obtain ⟨n1, n9, hfn⟩ := (SL.mem l[i]).1 hmem
    have htk : l.take (i + 1) = l.take i ++ [l[i]] := by rw [List.take_add_one, hget]; rfl
    have hlast : (l.take (i + 1)).getLast?.getD 0 = l[i] := by rw [htk, List.getLast?_concat]; rfl
    have hrec : recsB nm m (l.take (i + 1)) = recsB nm m (l.take i) ++ (scanL (bl (rdB m nm l[i]))).map strL := by
      rw [htk]; unfold recsB; rw [List.flatMap_append]; simp
    have hcnt := recs_len (nm := nm) (m := m) hd (l := l.take (i + 1)) (SL.inc.sublist (List.take_sublist _ _))
    rw [hrec, List.length_append, List.length_map] at hcnt
    rw [← hlen, ← v2.len]
    refine (v2.ext xh).idx (i := i) (x := (l[i] : Int)) (by rw [List.getElem?_map, hget]; rfl) fun a _ c => ?_
    refine LoadI.mk c.int ?_
    have x2h := x2.trans xh
    refine file_ok (E.ext x2h) (by omega) (by omega) fun h4 x4 => ⟨_, rfl, ?_⟩
    refine bRead_ok ((B.ext x2h).ext x4) ⟨_, _, rfl, ?_⟩
    have hr2 : (readB m (fnB nm l[i])).2 = 0 := by
      unfold readB
      rw [if_neg (by simp [hd])]
      cases hf : findF (fnB nm l[i]) m.files with
      | none => rw [hf] at hfn; cases hfn
      | some f => rfl
    rw [hr2]
    refine PIf.no rfl ?_
    have hsize : (readB m (fnB nm l[i])).1.size ≤ 1073741824 := by
      rw [rd_size hd]
      have := rd_del (fnB nm l[i]) m.files
      omega
    refine fScan_ok hsize fun h6 s6 n6 x6 v6 => ⟨s6, _, rfl, ?_⟩
    refine append_own (E := StrE) app_str4 ((o.ext x4).ext x6) v6 (by rw [List.length_map]; unfold rdB at hcnt; omega) (by rw [List.length_map]; unfold rdB at hcnt; simp [maxLen]; omega) fun s' h7 o7 m7 b7 n7 => ?_
    dsimp only
    rw [wrap_succ (by omega)]
    refine hK1 (l.length - (i + 1)) _ _ (by omega) ⟨i + 1, s', ?_, ((xh.trans x4).trans x6).more m7 f, ?_, fun c hc => ?_, hil, rfl⟩
    · rw [hlast]
    · rw [hrec]; exact o7
    · rcases b7 c hc with h | h
      · exact f c h
      · have := xh.size; have := x4.size; have := x6.size; omega
  · have hil : i = l.length := by simp at hq; omega
    subst hil
    rw [List.take_length] at o ⊢
    refine PIf.intro (fun q => ?_) (fun q => ?_)
    · have q : l.getLast?.getD 0 = 99999999 := by simp at q; omega
      exact H0 hh l SL q (x2.trans xh)
    · have q : l.getLast?.getD 0 ≠ 99999999 := by simp at q; omega
      have hb : l.getLast?.getD 0 ≤ 99999999 := by
        cases hg : l.getLast? with
        | none => simp
        | some n =>
          have := (SL.mem n).1 (List.mem_of_getLast? hg)
          simp; omega
      refine New.mk fun h8 _ hb8 x8 hs8 => ?_
      dsimp only at hb8 ⊢
      rw [wrap_succ (by omega)] at hb8
      refine H1 h8 l hh.size sl SL q ((x2.trans xh).trans x8) (by have := x2.size; have := xh.size; omega) hb8 (o.ext x8).view fun c hc => by have := f c hc; have := x2.size; omega

/-! ### a log's cell -/
def IsLog (h : Heap) (lg b : Nat) (nm : ByteArray) (seg : Nat) (made : Bool) : Prop := h[lg]? = some (.cells #[ptrV b, .string nm, .int .i64 (seg : Int), .bool made] t_wal_Log (0, 0))
theorem IsLog.mod {h h' : Heap} {lg b : Nat} {nm : ByteArray} {seg : Nat} {made : Bool} {S : Nat → Prop} (L : IsLog h lg b nm seg made) (x : Mod S h h') (hS : ¬ S lg) : IsLog h' lg b nm seg made := x.blk L hS
theorem IsLog.ext {h h' : Heap} {lg b : Nat} {nm : ByteArray} {seg : Nat} {made : Bool} (L : IsLog h lg b nm seg made) (x : Ext h h') : IsLog h' lg b nm seg made := x.blk L (fun h => h)

theorem lAppend_ok {A : Amb} {h : Heap} {lg b seg : Nat} {nm rec : ByteArray} {made : Bool} {S : Nat → Prop} {m : Bx} {R : Value → Heap → Prop} (E : Evn h) (L : IsLog h lg b nm seg made) (B : IsBox h b S m) (hS : ¬ S lg) (hE : ∀ h', Mod S h h' → Evn h') (hnm : nm.size ≤ 1099511627776) (hseg : seg ≤ 4294967295) (hr : rec.size ≤ 1048576) (hw : wtF m.files ≤ 1073741824)
    (H : ∀ h' S', IsBox h' b S' (appendB m (fnB nm seg) (strL (wrapL (bl rec)))).2 → IsLog h' lg b nm seg (made || decide ((appendB m (fnB nm seg) (strL (wrapL (bl rec)))).1 = 0)) → Mod (fun c => S c ∨ c = lg) h h' → (∀ c, S' c → S c ∨ (h.size ≤ c ∧ c ≠ lg)) → R (.int .i64 (appendB m (fnB nm seg) (strL (wrapL (bl rec)))).1) h') :
    HCalls A P f_wal_Log_Append #[ptrV lg, .string rec] h R := by
  refine ok_wal_Log_Append ?_
  unfold F_wal_Log_Append
  refine PIf.no rfl ?_
  have hlt := blk_lt L
  have hlen : (bl rec).length ≤ 1048576 := by rw [bl_size]; exact hr
  have hwl := wrapL_len hlen
  rw [bl_size] at hwl
  have e0 : rec = strL (bl rec) := (strL_bl rec).symm
  have go : HCalls A P f_frame_Wrap #[.string rec] h fun v h1 => ∃ t12a : ByteArray, ∃ t12b : Int, v = .tuple #[.string t12a, .int .i64 t12b] ∧ (t12a = strL (wrapL (bl rec)) ∧ t12b = 0 ∧ Ext h h1) := by
    rw [e0]
    refine fWrap_ok (by rw [strL_bl] at *; omega) (fun h1 => by rw [strL_bl] at *; omega) fun _ h1 x1 => ⟨_, _, rfl, ?_, rfl, x1⟩
    rw [strL_bl]
  refine HCalls.mono go ?_
  rintro v h1 ⟨wa, wb, rfl, rfl, rfl, x1⟩
  refine ⟨_, _, rfl, PIf.no rfl ?_⟩
  have L1 := L.ext x1
  refine atI (LoadP.mk (hget_lit L1 rfl) (atI (LoadS.mk (hget_lit1 L1 rfl) (atI (LoadI.mk (hget_lit1 L1 rfl) ?_)))))
  refine file_ok (E.ext x1) hseg hnm fun h2 x2 => ⟨_, rfl, ?_⟩
  have x02 := x1.trans x2
  have L2 := L.ext x02
  refine ⟨hget_lit L2 rfl, ?_⟩
  refine bAppend_ok (B.ext x02) (by rw [strL_size]; omega) fun h3 S3 B3 m3 s3 => ⟨_, rfl, ?_⟩
  have L3 : IsLog h3 lg b nm seg made := L2.mod m3 hS
  have hx := x02.size
  have hs3 : ∀ c, S3 c → S c ∨ (h.size ≤ c ∧ c ≠ lg) := fun c hc => (s3 c hc).imp id fun h => ⟨by omega, by omega⟩
  have m03 : Mod (fun c => S c ∨ c = lg) h h3 := (Ext.mod x02).trans (m3.weak fun c _ hc => .inl hc)
  refine PIf.intro (fun q => ?_) (fun q => ?_)
  · have q : (appendB m (fnB nm seg) (strL (wrapL (bl rec)))).1 ≠ 0 := by simpa using q
    exact H h3 S3 B3 (by rw [decide_eq_false q, Bool.or_false]; exact L3) m03 hs3
  · have q : (appendB m (fnB nm seg) (strL (wrapL (bl rec)))).1 = 0 := by simpa using q
    refine atI (Store.mk1 L3 (by simp) fun h4 hb4 m4 hs4 => ?_)
    have nS3 : ¬ S3 lg := fun hc => by rcases s3 lg hc with h | h; exact hS h; omega
    have := H h4 S3 (B3.mod m4 fun c hc e => nS3 (e ▸ hc)) (by rw [decide_eq_true q, Bool.or_true]; simpa [IsLog] using hb4) (m03.then (m4.weak fun c _ hc => .inl (.inr hc))) hs3
    rw [q] at this
    exact this

def syncL (m : Bx) (k : ByteArray) (made : Bool) : Int × Bx := if made then syncB m k else (0, m)
theorem lSync_ok {A : Amb} {h : Heap} {lg b seg : Nat} {nm : ByteArray} {made : Bool} {S : Nat → Prop} {m : Bx} {R : Value → Heap → Prop} (E : Evn h) (L : IsLog h lg b nm seg made) (B : IsBox h b S m) (hS : ¬ S lg) (hnm : nm.size ≤ 1099511627776) (hseg : seg ≤ 4294967295)
    (H : ∀ h', IsBox h' b S (syncL m (fnB nm seg) made).2 → IsLog h' lg b nm seg made → Mod S h h' → R (.int .i64 (syncL m (fnB nm seg) made).1) h') :
    HCalls A P f_wal_Log_Sync #[ptrV lg] h R := by
  refine ok_wal_Log_Sync ?_
  unfold F_wal_Log_Sync
  refine PIf.no rfl (atI (LoadB.mk (hget_lit1 L rfl) ?_))
  cases made with
  | false => exact PIf.yes rfl (H h B L Mod.refl)
  | true =>
    refine PIf.no rfl (atI (LoadP.mk (hget_lit L rfl) (atI (LoadS.mk (hget_lit1 L rfl) (atI (LoadI.mk (hget_lit1 L rfl) ?_))))))
    refine file_ok E hseg hnm fun h1 x1 => ⟨_, rfl, ⟨hget_lit (L.ext x1) rfl, ?_⟩⟩
    refine bSync_ok (B.ext x1) fun h2 B2 m2 => ⟨_, rfl, ?_⟩
    exact H h2 B2 ((L.ext x1).mod m2 hS) ((Ext.mod x1).trans m2)

theorem lRotate_ok {A : Amb} {h : Heap} {lg b seg : Nat} {nm : ByteArray} {made : Bool} {S : Nat → Prop} {m : Bx} {R : Value → Heap → Prop} (E : Evn h) (L : IsLog h lg b nm seg made) (B : IsBox h b S m) (hS : ¬ S lg) (hnm : nm.size ≤ 1099511627776) (hseg : seg < 99999999)
    (H0 : (syncL m (fnB nm seg) made).1 ≠ 0 → ∀ h', IsBox h' b S (syncL m (fnB nm seg) made).2 → IsLog h' lg b nm seg made → Mod S h h' → R (.tuple #[.int .i64 0, .int .i64 (syncL m (fnB nm seg) made).1]) h')
    (H1 : (syncL m (fnB nm seg) made).1 = 0 → ∀ h', IsBox h' b S (syncL m (fnB nm seg) made).2 → IsLog h' lg b nm (seg + 1) false → Mod (fun c => S c ∨ c = lg) h h' → R (.tuple #[.int .i64 (seg : Int), .int .i64 0]) h') :
    HCalls A P f_wal_Log_Rotate #[ptrV lg] h R := by
  refine ok_wal_Log_Rotate ?_
  unfold F_wal_Log_Rotate
  refine PIf.no rfl (atI (LoadI.mk (hget_lit1 L rfl) (PIf.no (by simp; omega) ?_)))
  refine lSync_ok E L B hS hnm (by omega) fun h1 B1 L1 m1 => ⟨_, rfl, ?_⟩
  refine PIf.intro (fun q => ?_) (fun q => ?_)
  · exact H0 (by simpa using q) h1 B1 L1 m1
  · have q : (syncL m (fnB nm seg) made).1 = 0 := by simpa using q
    refine atI (LoadI.mk (hget_lit1 L1 rfl) ?_)
    rw [wrap_succ (by omega)]
    refine atI (Store.mk1 L1 (by simp) fun h2 hb2 m2 hs2 => ?_)
    refine atI (Store.mk1 hb2 (by simp) fun h3 hb3 m3 hs3 => ?_)
    have L3 : IsLog h3 lg b nm (seg + 1) false := by simpa [IsLog] using hb3
    refine atI (LoadI.mk (hget_lit1 L3 rfl) ?_)
    have e : IntKind.wrap .i64 (((seg + 1 : Nat) : Int) - 1) = (seg : Int) := by rw [wrap_i64 (by omega) (by omega)]; omega
    rw [e]
    have md := m2.trans m3
    exact H1 q h3 (B1.mod md fun c hc e => hS (e ▸ hc)) L3 ((m1.weak fun c _ hc => .inl hc).trans (md.weak fun c _ hc => .inr hc))
end Go.Lf.G

/-
  Contracts: the document's box behind a crash; lists of strings alike; a box that is awake.
-/
set_option maxRecDepth 100000
set_option linter.unusedVariables false
set_option linter.unusedSimpArgs false
namespace Go.Lf.G
open Go

/-- a new variable of three strings -/
theorem New.three {h : Heap} {T : TypeId} {e1 e2 e3 : ByteArray} {k v g : ByteArray} {K : Nat → Heap → Prop}
    (H : ∀ b h', b = h.size → h'[b]? = some (.cells #[.string k, .string v, .string g] T (0, 0)) → Ext h h' → h'.size = h.size + 1 → K b h') :
    New h (.cells #[.string e1, .string e2, .string e3] T) fun b h1 => Store h1 ⟨b, 0, none⟩ (.string k) fun h2 => Store h2 ((⟨b, 0, none⟩ : Addr).add 1) (.string v) fun h3 => Store h3 ((⟨b, 0, none⟩ : Addr).add 2) (.string g) fun h4 => K b h4 := by
  refine New.mk fun h1 _ hb hx hsz => ?_
  refine Store.mk hb (by simp) fun h2 hb2 m2 hs2 => ?_
  rw [add_mk, add_mk]
  refine Store.mk hb2 (by simp) fun h3 hb3 m3 hs3 => ?_
  refine Store.mk hb3 (by simp) fun h4 hb4 m4 hs4 => ?_
  refine H _ _ rfl (by simpa using hb4) ?_ (by omega)
  have m := (m2.trans m3).trans m4
  exact ⟨by omega, fun b hlt _ => (m.get b (by omega) (by omega)).trans (hx.get b hlt (by simp))⟩

theorem good_take {m : Bx} (g : GoodB m) (ks : List Int) (i : Nat) : GoodB ⟨crashF ks 0 (m.files.take i), -1, false⟩ := by
  have hg : GoodB (crashB { m with files := m.files.take i } ks) := by
    refine GoodB.crash (m := { m with files := m.files.take i }) ⟨g.sorted.sublist (List.take_sublist _ _), fun f2 hf2 => g.names f2 (List.mem_of_mem_take (i := i) hf2), g.lo, g.hi, ?_⟩
    have := wtF_take i m.files
    have := g.wt
    show wtF (m.files.take i) ≤ 1099511627776
    omega
  exact hg

theorem Same_ok {A : Amb} {h : Heap} {a b : Sl} {la lb : List ByteArray} {R : Value → Heap → Prop} (va : View StrE h a la) (vb : View StrE h b lb) (hl : la.length ≤ 1099511627776)
    (H : R (.bool (decide (la = lb))) h) : HCalls A P f_wherryref02_Same #[.slice a.p a.len a.cap, .slice b.p b.len b.cap] h R := by
  refine ok_wherryref02_Same ?_
  unfold F_wherryref02_Same
  rw [va.len, vb.len]
  refine PIf.intro (fun hc => ?_) (fun hc => ?_)
  · have : la ≠ lb := by rintro rfl; simp at hc
    simpa [this] using H
  · have hlen : la.length = lb.length := by simp at hc; omega
    refine Loop.rule (fun m x h1 => ∃ i : Nat, x = ((i : Int), ()) ∧ h1 = h ∧ m = la.length - i ∧ i ≤ la.length ∧ la.take i = lb.take i) ?_ ⟨0, rfl, rfl, rfl, by omega, by simp⟩
    rintro K m _ _ ⟨i, rfl, rfl, rfl, hi, he⟩ hK
    refine PIf.intro (fun hc => ?_) (fun hc => ?_)
    · have hi' : i < la.length := by simpa using hc
      rw [← va.len]
      refine va.idx (List.getElem?_eq_getElem hi') fun a1 _ c1 => LoadS.mk c1.str ?_
      rw [← vb.len]
      refine vb.idx (List.getElem?_eq_getElem (by omega)) fun a2 _ c2 => LoadS.mk c2.str ?_
      rw [sEq_iff]
      refine PIf.intro (fun hq => ?_) (fun hq => ?_)
      · have : la ≠ lb := by rintro rfl; simp at hq
        simpa [this] using H
      · simp at hq
        refine hK _ _ _ ?_ ⟨i + 1, by rw [wrap_succ (by omega)], rfl, rfl, by omega, ?_⟩
        · omega
        · rw [List.take_add_one, List.take_add_one, he, List.getElem?_eq_getElem hi', List.getElem?_eq_getElem (by omega), hq]
    · have hi' : i = la.length := by simp at hc; omega
      subst hi'
      rw [List.take_length, hlen, List.take_length] at he
      simpa [he] using H

end Go.Lf.G

