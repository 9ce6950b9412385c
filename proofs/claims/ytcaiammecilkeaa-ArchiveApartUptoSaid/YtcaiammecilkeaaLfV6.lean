/-
  Contracts: events and histories back from bytes (chapter 13).
-/
import Derived.Test.YtcaiammecilkeaaLfV5
set_option maxRecDepth 100000
set_option linter.unusedVariables false
set_option linter.unusedSimpArgs false
namespace Go.Lf.G
open Go

theorem len_optI (f : Bool) (m : Nat) (r : Rd) : (optI f m r).2.rest.length ≤ r.rest.length := by
  cases f with
  | false => exact Nat.le_refl _
  | true => exact len_intR m r
theorem len_optX (f : Bool) (r : Rd) : (optX f r).2.rest.length ≤ r.rest.length ∧ (optX f r).1.length ≤ r.rest.length := by
  cases f with
  | false => exact ⟨Nat.le_refl _, Nat.zero_le _⟩
  | true => exact len_textR r
theorem len_rdEv (b : EvB) (r : Rd) : (rdEv b r).2.rest.length ≤ r.rest.length ∧ (rdEv b r).1.data.size ≤ r.rest.length := by
  simp only [rdEv, strL_size]
  have h1 := len_intR b.id r
  have h2 := len_intR b.kind (intR b.id r).2
  have h3 := len_intR b.tick (intR b.kind (intR b.id r).2).2
  generalize intR b.tick (intR b.kind (intR b.id r).2).2 = t at *
  generalize ((intR b.kind (intR b.id r).2).1 : Int) = k at *
  have h4 := len_optI (flR k) b.ref t.2
  have h5 := len_optI (flS k) b.step (optI (flR k) b.ref t.2).2
  have h6 := len_optI (flT k) b.turn (optI (flS k) b.step (optI (flR k) b.ref t.2).2).2
  have h7 := len_optI (flU k) 1 (optI (flT k) b.turn (optI (flS k) b.step (optI (flR k) b.ref t.2).2).2).2
  have h8 := len_optX (flD k) (optI (flU k) 1 (optI (flT k) b.turn (optI (flS k) b.step (optI (flR k) b.ref t.2).2).2).2).2
  omega

theorem optRd_ok {A : Amb} {hh : Heap} {rb b1 j : Nat} {f bit : Int} {m : Nat} {fl : Bool} {r : Rd} {cs : Array Value} {T : TypeId} {K : Unit → Heap → Prop} (hbit : (bAnd .i64 f bit != (0 : Int)) = fl) (hr : RdAt hh rb r) (hl : r.rest.length ≤ 1099511627776)
    (hm : m ≤ 9223372036854775807) (hb : hh[b1]? = some (.cells cs T (0, 0))) (hj : j < cs.size) (hz : cs.setIfInBounds j (.int .i64 0) = cs) (hne : rb ≠ b1)
    (H : ∀ h', RdAt h' rb (optI fl m r).2 → h'[b1]? = some (.cells (cs.setIfInBounds j (.int .i64 ((optI fl m r).1 : Int))) T (0, 0)) → Mod (fun c => c = rb ∨ c = b1) hh h' → K () h') :
    PIf (bAnd .i64 f bit != (0 : Int)) (HCalls A P f_vary_Reader_Int #[ptrV rb, .int .i64 (m : Int)] hh fun v h2 => ∃ t : Int, v = .int .i64 t ∧ (Store h2 ((⟨b1, 0, none⟩ : Addr).add j) (.int .i64 t) fun h3 => K () h3)) (K () hh) := by
  rw [hbit]
  cases fl with
  | false => exact PIf.no rfl (H hh hr (by simp only [optI, Bool.false_eq_true, if_false]; rw [show (((0 : Nat) : Int)) = (0 : Int) from rfl, hz]; exact hb) Mod.refl)
  | true =>
    refine PIf.yes rfl (vInt_ok hr hl hm fun h2 hr2 m2 => ⟨_, rfl, ?_⟩)
    refine Store.mk1 (m2.blk hb hne.symm) hj fun h3 hb3 m3 hs3 => ?_
    exact H h3 (m3.blk hr2 hne) hb3 ((m2.weak fun c _ hc => .inl hc).trans (m3.weak fun c _ hc => .inr hc))

abbrev EvC (i k t a s n : Int) (u : Bool) (d : ByteArray) : Array Value := #[.int .i64 i, .int .i64 k, .int .i64 t, .int .i64 a, .int .i64 s, .int .i64 n, .bool u, .string d]
theorem eread_ok {A : Amb} {h : Heap} {rb : Nat} {r : Rd} {R : Value → Heap → Prop} (hr : RdAt h rb r) (hl : r.rest.length < 1099511627776)
    (H : ∀ h', RdAt h' rb (rdEv evB r).2 → Mod (· = rb) h h' → R (evA (rdEv evB r).1) h') : HCalls A P f_event_read #[ptrV rb] h R := by
  refine ok_event_read ?_
  unfold F_event_read
  have hrb := blk_lt hr
  refine New.mk fun h1 _ hb x1 hs1 => ?_
  have hr1 := x1.blk hr (fun h => h)
  have hlim : intR 500 r = intR evB.id r := rfl
  have l1 := len_intR 500 r
  have l2 := len_intR 18 (intR 500 r).2
  have l3 := len_intR 1099511627776 (intR 18 (intR 500 r).2).2
  refine vInt_ok (most := 500) hr1 (by omega) (by decide) fun h2 hr2 m2 => ⟨_, rfl, ?_⟩
  refine vInt_ok (most := 18) hr2 (by omega) (by decide) fun h3 hr3 m3 => ⟨_, rfl, ?_⟩
  refine vInt_ok (most := 1099511627776) hr3 (by omega) (by decide) fun h4 hr4 m4 => ⟨_, rfl, ?_⟩
  have m14 := (m2.trans m3).trans m4
  have hb4 := m14.blk hb (by omega)
  have hs4 : h1.size ≤ h4.size := m14.size
  refine New.mk fun h5 _ hb5 x5 hs5 => Store.eight hb5 fun h13 hb13 m13 hs13 => ?_
  have hne1 : rb ≠ h4.size := by have := blk_lt hr4; omega
  have hne0 : h.size ≠ h4.size := by omega
  have hr13 := m13.blk (x5.blk hr4 (fun h => h)) hne1
  have hz13 := m13.blk (x5.blk hb4 (fun h => h)) hne0
  have m013 : Mod (· = rb) h h13 := by
    have q : Mod (· = rb) h h4 := x1.mod.trans m14
    exact q.then ((x5.mod.trans m13).weak fun c _ hc => .inr (by have := m14.size; have := x1.size; omega))
  refine LoadI.mk (hget_lit1 hb13 rfl) (efields_ok ⟨_, _, rfl, ?_⟩)
  obtain ⟨n1, n2, n3, n4, n5⟩ := fN_bit ((intR 18 (intR 500 r).2).1 : Int)
  have hb1 : h.size ≤ h4.size := by omega
  have hb0 : h.size ≤ h.size := Nat.le_refl _
  have eR : rdEv evB r = rdEv evB r := rfl
  generalize hk : ((intR 18 (intR 500 r).2).1 : Int) = k at *
  generalize ht : intR 1099511627776 (intR 18 (intR 500 r).2).2 = t at *
  generalize hi : ((intR 500 r).1 : Int) = i at *
  have eP : rdEv evB r = (⟨i, k, t.1, (optI (flR k) 500 t.2).1, (optI (flS k) 15 (optI (flR k) 500 t.2).2).1, (optI (flT k) 5 (optI (flS k) 15 (optI (flR k) 500 t.2).2).2).1,
      decide ((optI (flU k) 1 (optI (flT k) 5 (optI (flS k) 15 (optI (flR k) 500 t.2).2).2).2).1 = 1), strL (optX (flD k) (optI (flU k) 1 (optI (flT k) 5 (optI (flS k) 15 (optI (flR k) 500 t.2).2).2).2).2).1⟩,
      (optX (flD k) (optI (flU k) 1 (optI (flT k) 5 (optI (flS k) 15 (optI (flR k) 500 t.2).2).2).2).2).2) := by
    simp only [rdEv, ← hk, ← ht, ← hi]; rfl
  have l4 := len_optI (flR k) 500 t.2
  have l5 := len_optI (flS k) 15 (optI (flR k) 500 t.2).2
  have l6 := len_optI (flT k) 5 (optI (flS k) 15 (optI (flR k) 500 t.2).2).2
  have l7 := len_optI (flU k) 1 (optI (flT k) 5 (optI (flS k) 15 (optI (flR k) 500 t.2).2).2).2
  rw [eP] at H
  generalize h4.size = b1 at *
  generalize hoa : optI (flR k) 500 t.2 = oa at *
  generalize hos : optI (flS k) 15 oa.2 = os at *
  generalize hot : optI (flT k) 5 os.2 = ot at *
  generalize hou : optI (flU k) 1 ot.2 = ou at *
  clear hb hb4 hb5 hr1 hr2 hr3 hr4 x1 x5 m2 m3 m4 m14 m13 hs1 hs4 hs5 hs13
  have up : ∀ {hx hy : Heap}, Mod (· = rb) h hx → Mod (fun c => c = rb ∨ c = b1) hx hy → Mod (· = rb) h hy := fun m1 m2 => m1.then (m2.weak fun c _ hc => hc.elim .inl fun e => .inr (by omega))
  refine Join.mk fun K hK => ?_
  refine optRd_ok (m := 500) (fl := flR k) (by rw [n1, nz_ite' (by decide)]) hr13 (by omega) (by decide) hb13 (by simp) rfl hne1 fun h14 hr14 hb14 m14 => hK _ _ ?_
  rw [hoa] at hr14 hb14
  have z14 := m14.blk hz13 (by omega)
  have M14 := up m013 m14
  refine Join.mk fun K1 hK1 => ?_
  refine optRd_ok (m := 15) (fl := flS k) (by rw [n2, nz_ite' (by decide)]) hr14 (by omega) (by decide) hb14 (by simp) rfl hne1 fun h15 hr15 hb15 m15 => hK1 _ _ ?_
  rw [hos] at hr15 hb15
  have z15 := m15.blk z14 (by omega)
  have M15 := up M14 m15
  refine Join.mk fun K2 hK2 => ?_
  refine optRd_ok (m := 5) (fl := flT k) (by rw [n3, nz_ite' (by decide)]) hr15 (by omega) (by decide) hb15 (by simp) rfl hne1 fun h16 hr16 hb16 m16 => hK2 _ _ ?_
  rw [hot] at hr16 hb16
  have z16 := m16.blk z15 (by omega)
  have M16 := up M15 m16
  refine Join.mk fun K3 hK3 => ?_
  have fin3 : ∀ h17, RdAt h17 rb ou.2 → h17[b1]? = some (.cells (EvC i k t.1 oa.1 os.1 ot.1 (decide (ou.1 = 1)) bs0') t_api_Event (0, 0)) → Mod (fun c => c = rb ∨ c = b1) h16 h17 → K3 () h17 := fun h17 hr17 hb17 m17 => by
    refine hK3 _ _ ?_
    have z17 := m17.blk z16 (by omega)
    have M17 := up M16 m17
    refine Join.mk fun K4 hK4 => ?_
    have fin4 : ∀ h18, RdAt h18 rb (optX (flD k) ou.2).2 → h18[b1]? = some (.cells (EvC i k t.1 oa.1 os.1 ot.1 (decide (ou.1 = 1)) (strL (optX (flD k) ou.2).1)) t_api_Event (0, 0)) → Mod (fun c => c = rb ∨ c = b1) h17 h18 → K4 () h18 := fun h18 hr18 hb18 m18 => by
      refine hK4 _ _ ?_
      have z18 := m18.blk z17 (by omega)
      have M18 := up M17 m18
      refine LoadI.mk (hget_lit hb18 rfl) (LoadI.mk (hget_lit1 hb18 rfl) (LoadI.mk (hget_lit1 hb18 rfl) (LoadI.mk (hget_lit1 hb18 rfl) (LoadI.mk (hget_lit1 hb18 rfl) (LoadI.mk (hget_lit1 hb18 rfl) (LoadB.mk (hget_lit1 hb18 rfl) (LoadS.mk (hget_lit1 hb18 rfl) ?_)))))))
      refine Store.eight z18 fun h19 hb19 m19 hs19 => ?_
      refine LoadI.mk (hget_lit hb19 rfl) (LoadI.mk (hget_lit1 hb19 rfl) (LoadI.mk (hget_lit1 hb19 rfl) (LoadI.mk (hget_lit1 hb19 rfl) (LoadI.mk (hget_lit1 hb19 rfl) (LoadI.mk (hget_lit1 hb19 rfl) (LoadB.mk (hget_lit1 hb19 rfl) (LoadS.mk (hget_lit1 hb19 rfl) ?_)))))))
      exact H h19 (m19.blk hr18 (by omega)) (M18.then (m19.weak fun c _ hc => .inr (by omega)))
    rw [n5, nz_ite' (by decide)]
    refine PIf.intro (fun q => ?_) (fun q => ?_)
    · refine vRText_ok hr17 (by omega) fun h18 hr18 m18 => ⟨_, rfl, ?_⟩
      refine Store.mk1 (m18.blk hb17 hne1.symm) (by simp) fun h19 hb19 m19 hs19 => ?_
      have ex : optX (flD k) ou.2 = textR ou.2 := by simp only [optX, q, if_true]
      refine fin4 h19 (by rw [ex]; exact m19.blk hr18 hne1) (by rw [ex]; exact hb19) ((m18.weak fun c _ hc => .inl hc).trans (m19.weak fun c _ hc => .inr hc))
    · have ex : optX (flD k) ou.2 = ([], ou.2) := by simp only [optX, q, Bool.false_eq_true, if_false]
      exact fin4 h17 (by rw [ex]; exact hr17) (by rw [ex]; exact hb17) Mod.refl
  rw [n4, nz_ite' (by decide)]
  refine PIf.intro (fun q => ?_) (fun q => ?_)
  · have ex : ou = intR 1 ot.2 := by rw [← hou]; simp only [optI, q, if_true]
    refine vInt_ok (most := 1) hr16 (by omega) (by decide) fun h17 hr17 m17 => ⟨_, rfl, ?_⟩
    refine Store.mk1 (m17.blk hb16 hne1.symm) (by simp) fun h18 hb18 m18 hs18 => ?_
    have e1 : ((((intR 1 ot.2).1 : Nat) : Int) == (1 : Int)) = decide (ou.1 = 1) := by
      rw [ex]
      by_cases h1 : (intR 1 ot.2).1 = 1
      · rw [h1]; rfl
      · rw [decide_eq_false h1, beq_eq_false_iff_ne]; omega
    rw [e1] at hb18
    refine fin3 h18 (by rw [ex]; exact m18.blk hr17 hne1) hb18 ((m17.weak fun c _ hc => .inl hc).trans (m18.weak fun c _ hc => .inr hc))
  · have ex : ou = (0, ot.2) := by rw [← hou]; simp only [optI, q, Bool.false_eq_true, if_false]
    exact fin3 h16 (by rw [ex]; exact hr16) (by rw [ex]; exact hb16) Mod.refl

def evZ : Ev := ⟨0, 0, 0, 0, 0, 0, false, bs0'⟩
def resEv (o : Option Ev) : Value := .tuple #[evA (o.getD evZ), .int .i64 (if o.isSome then 0 else 60)]
theorem eDecode_ok {A : Amb} {h : Heap} {l : List UInt8} {R : Value → Heap → Prop} (hl : l.length < 1099511627776) (H : ∀ h', Ext h h' → R (resEv (decEv l)) h') : HCalls A P f_event_Decode #[.string (strL l)] h R := by
  refine ok_event_Decode ?_
  unfold F_event_Decode
  refine New.mk fun h1 _ hb x1 hs1 => ?_
  refine vRead_ok fun h2 hr2 x2 => ⟨_, rfl, ?_⟩
  have hrb := blk_lt hr2
  refine eread_ok hr2 hl fun h3 hr3 m3 => ⟨_, _, _, _, _, _, _, _, rfl, ?_⟩
  have hb3 := m3.blk (x2.blk hb (fun h => h)) (by omega)
  have x03 : Ext h h3 := (x1.trans x2).more m3 fun c hc => by subst hc; exact x1.size
  have hlen := len_rdEv evB ⟨l, false⟩
  refine New.mk fun h4 _ hb4 x4 hs4 => Store.eight hb4 fun h12 hb12 m12 hs12 => ?_
  have hm3 := m3.size
  have x012 : Ext h h12 := (x03.trans x4).more m12 fun c hc => by subst hc; exact x03.size
  have hb012 := m12.blk (x4.blk hb3 (fun h => h)) (by omega)
  have hr12 := m12.blk (x4.blk hr3 (fun h => h)) (by omega)
  refine Join.mk fun K hK => ?_
  refine vEnd_ok hr12 ⟨_, rfl, ?_⟩
  have eD : decEv l = if endR (rdEv evB ⟨l, false⟩).2 && evOK (rdEv evB ⟨l, false⟩).1 then some (rdEv evB ⟨l, false⟩).1 else none := rfl
  generalize (rdEv evB ⟨l, false⟩).2 = r' at *
  generalize (rdEv evB ⟨l, false⟩).1 = e at *
  have bad : decEv l = none → ∀ hh, Ext h12 hh → K (true, ()) hh := fun en hh x => by
    refine hK _ _ (PIf.yes rfl ?_)
    refine Store.eight (x.blk hb012 (fun h => h)) fun h13 hb13 m13 hs13 => ?_
    refine LoadI.mk (hget_lit hb13 rfl) (LoadI.mk (hget_lit1 hb13 rfl) (LoadI.mk (hget_lit1 hb13 rfl) (LoadI.mk (hget_lit1 hb13 rfl) (LoadI.mk (hget_lit1 hb13 rfl) (LoadI.mk (hget_lit1 hb13 rfl) (LoadB.mk (hget_lit1 hb13 rfl) (LoadS.mk (hget_lit1 hb13 rfl) ?_)))))))
    have := H h13 ((x012.trans x).more m13 fun c hc => by omega)
    rw [en] at this
    exact this
  refine PIf.intro (fun q => ?_) (fun q => ?_)
  · have q : endR r' = false := by simpa using q
    exact bad (by rw [eD, q]; rfl) h12 Mod.refl
  · have q : endR r' = true := by simpa using q
    refine LoadI.mk (hget_lit hb12 rfl) (LoadI.mk (hget_lit1 hb12 rfl) (LoadI.mk (hget_lit1 hb12 rfl) (LoadI.mk (hget_lit1 hb12 rfl) (LoadI.mk (hget_lit1 hb12 rfl) (LoadI.mk (hget_lit1 hb12 rfl) (LoadB.mk (hget_lit1 hb12 rfl) (LoadS.mk (hget_lit1 hb12 rfl) ?_)))))))
    refine eCheck_ok (e := e) (by simp only at hlen; omega) fun h13 x13 => ⟨_, rfl, ?_⟩
    cases hok : evOK e with
    | false => exact bad (by rw [eD, hok, Bool.and_false]; rfl) h13 x13
    | true =>
      refine hK _ _ (PIf.no rfl ?_)
      have hb13 := x13.blk hb12 (fun h => h)
      refine LoadI.mk (hget_lit hb13 rfl) (LoadI.mk (hget_lit1 hb13 rfl) (LoadI.mk (hget_lit1 hb13 rfl) (LoadI.mk (hget_lit1 hb13 rfl) (LoadI.mk (hget_lit1 hb13 rfl) (LoadI.mk (hget_lit1 hb13 rfl) (LoadB.mk (hget_lit1 hb13 rfl) (LoadS.mk (hget_lit1 hb13 rfl) ?_)))))))
      refine Store.eight (x13.blk hb012 (fun h => h)) fun h14 hb14 m14 hs14 => ?_
      refine LoadI.mk (hget_lit hb14 rfl) (LoadI.mk (hget_lit1 hb14 rfl) (LoadI.mk (hget_lit1 hb14 rfl) (LoadI.mk (hget_lit1 hb14 rfl) (LoadI.mk (hget_lit1 hb14 rfl) (LoadI.mk (hget_lit1 hb14 rfl) (LoadB.mk (hget_lit1 hb14 rfl) (LoadS.mk (hget_lit1 hb14 rfl) ?_)))))))
      have := H h14 ((x012.trans x13).more m14 fun c hc => by omega)
      rw [eD, q, hok] at this
      exact this
end Go.Lf.G
