/-
  Contracts: histories as bytes, and back; histories alike (chapter 13).
-/
import Derived.Test.YtcaiammecilkeaaLfV6
set_option maxRecDepth 100000
set_option linter.unusedVariables false
set_option linter.unusedSimpArgs false
namespace Go.Lf.G
open Go

theorem app_ev : appB P t_sl_api_Event t_api_Event EvE.w 72 = true := by kernel_rfl
theorem P_ev : P.underlying t_api_Event = some (.struct (P.fieldsOf t_api_Event)) := by kernel_rfl
theorem ev_eqB (x : Ev) : eqB P t_api_Event (Ev.fv x) = true := by kernel_rfl
theorem ev_at {h : Heap} {a : Addr} {x : Ev} (c : Cells h a (EvE.enc x)) : hget h a = some (.int .i64 x.id) ∧ hget h (a.add 1) = some (.int .i64 x.kind) ∧ hget h (a.add 2) = some (.int .i64 x.tick) ∧ hget h (a.add 3) = some (.int .i64 x.ref) ∧ hget h (a.add 4) = some (.int .i64 x.step) ∧
    hget h (a.add 5) = some (.int .i64 x.turn) ∧ hget h (a.add 6) = some (.bool x.undo) ∧ hget h (a.add 7) = some (.string x.data) := by
  refine ⟨?_, c 1 _ rfl, c 2 _ rfl, c 3 _ rfl, c 4 _ rfl, c 5 _ rfl, c 6 _ rfl, c 7 _ rfl⟩
  have := c 0 _ rfl
  rwa [add_zero] at this
theorem eqEv {A : Amb} {o1 o2 : Operand} {x y : Ev} {h : Heap} {K : Value → Heap → Prop} (H : K (.bool (decide (x = y))) h) : RunK A P (do eqGuard .eql t_api_Event o1 o2 (evA x) (evA y); binOp .eql t_api_Event (evA x) (evA y)) h K := by
  refine eq_flat (xs := Ev.fv x) (ys := Ev.fv y) P_ev (ev_eqB x) rfl rfl rfl ?_
  have e : decide (Ev.fv x = Ev.fv y) = decide (x = y) := by rw [decide_eq_decide]; exact Ev.fv_inj
  rw [e]; exact H
theorem neEv {A : Amb} {o1 o2 : Operand} {x y : Ev} {h : Heap} {K : Value → Heap → Prop} (H : K (.bool (!decide (x = y))) h) : RunK A P (do eqGuard .neq t_api_Event o1 o2 (evA x) (evA y); binOp .neq t_api_Event (evA x) (evA y)) h K := by
  refine ne_flat (xs := Ev.fv x) (ys := Ev.fv y) P_ev (ev_eqB x) rfl rfl rfl ?_
  have e : decide (Ev.fv x = Ev.fv y) = decide (x = y) := by rw [decide_eq_decide]; exact Ev.fv_inj
  rw [e]; exact H

theorem eEqual_ok {A : Amb} {h : Heap} {a b : Sl} {la lb : List Ev} {R : Value → Heap → Prop} (va : View EvE h a la) (vb : View EvE h b lb) (hl : la.length ≤ 1099511627776)
    (H : R (.bool (decide (la = lb))) h) : HCalls A P f_slices_Equal_of___api_Event_api_Event #[.slice a.p a.len a.cap, .slice b.p b.len b.cap] h R := by
  refine ok_slices_Equal_of___api_Event_api_Event ?_
  unfold F_slices_Equal_of___api_Event_api_Event
  rw [va.len, vb.len]
  refine PIf.intro (fun hc => ?_) (fun hc => ?_)
  · have : la ≠ lb := by rintro rfl; simp at hc
    simpa [this] using H
  · have hlen : la.length = lb.length := by simp at hc; omega
    refine Loop.rule (fun m x h1 => ∃ i : Nat, x = ((i : Int), ()) ∧ h1 = h ∧ m = la.length - i ∧ i ≤ la.length ∧ la.take i = lb.take i) ?_ ⟨0, rfl, rfl, rfl, by omega, by simp⟩
    rintro K m _ _ ⟨i, rfl, rfl, rfl, hi, he⟩ hK
    refine PIf.intro (fun hc => ?_) (fun hc => ?_)
    · have hi' : i < la.length := by simpa using hc
      rw [← va.len]
      refine va.idx (List.getElem?_eq_getElem hi') fun a1 _ c1 => ?_
      obtain ⟨p0, p1, p2, p3, p4, p5, p6, p7⟩ := ev_at c1
      refine LoadI.mk p0 (LoadI.mk p1 (LoadI.mk p2 (LoadI.mk p3 (LoadI.mk p4 (LoadI.mk p5 (LoadB.mk p6 (LoadS.mk p7 ?_)))))))
      rw [← vb.len]
      refine vb.idx (List.getElem?_eq_getElem (by omega)) fun a2 _ c2 => ?_
      obtain ⟨q0, q1, q2, q3, q4, q5, q6, q7⟩ := ev_at c2
      refine LoadI.mk q0 (LoadI.mk q1 (LoadI.mk q2 (LoadI.mk q3 (LoadI.mk q4 (LoadI.mk q5 (LoadB.mk q6 (LoadS.mk q7 ?_)))))))
      refine neEv ⟨_, rfl, ?_⟩
      refine PIf.intro (fun hne => ?_) (fun hne => ?_)
      · have hne : la[i] ≠ lb[i]'(by omega) := by simpa using hne
        have : la ≠ lb := by rintro rfl; exact hne rfl
        simpa [this] using H
      · have heq : la[i] = lb[i]'(by omega) := by simpa using hne
        dsimp only
        rw [wrap_succ (by omega)]
        refine hK (la.length - (i + 1)) _ _ (by omega) ⟨i + 1, rfl, rfl, rfl, hi', ?_⟩
        rw [List.take_succ_eq_append_getElem hi', List.take_succ_eq_append_getElem (show i < lb.length by omega), he, heq]
    · have hi' : i = la.length := by simp at hc; omega
      have : la = lb := by
        rw [List.take_of_length_le (by omega), List.take_of_length_le (by omega)] at he
        exact he
      simpa [this] using H

def resPack (l : List Ev) : Value := .tuple #[.string (strL (packEv l).2), .int .i64 ((packEv l).1 : Int)]
theorem encEv_len {e : Ev} (h : evHead e = true) (hd : e.data.size < 18446744073709551616) : (encEv e).length ≤ 100 + e.data.size := by
  have hh := h
  simp only [evHead, Bool.and_eq_true] at hh
  obtain ⟨⟨⟨⟨⟨⟨⟨hk, hid⟩, htk⟩, hr⟩, hs⟩, ht⟩, hu⟩, hx⟩ := hh
  have hk' := inI_iff.1 hk
  have hid' := inI_iff.1 hid
  have htk' := inI_iff.1 htk
  have l1 := putV_len10 (n := e.id.toNat) (by omega)
  have l2 := putV_len10 (n := e.kind.toNat) (by omega)
  have l3 := putV_len10 (n := e.tick.toNat) (by omega)
  have l4 := optP_len (f := flR e.kind) (n := e.ref) (by cases hf : flR e.kind <;> rw [hf] at hr <;> simp [inE, inI] at hr <;> omega)
  have l5 := optP_len (f := flS e.kind) (n := e.step) (by cases hf : flS e.kind <;> rw [hf] at hs <;> simp [inE, inI] at hs <;> omega)
  have l6 := optP_len (f := flT e.kind) (n := e.turn) (by cases hf : flT e.kind <;> rw [hf] at ht <;> simp [inE, inI] at ht <;> omega)
  have l7 := optP_len (f := flU e.kind) (n := if e.undo then 1 else 0) (by split <;> omega)
  have l8 : (optT (flD e.kind) e.data).length ≤ 10 + e.data.size := by
    cases hf : flD e.kind with
    | false => simp [optT]
    | true =>
      simp only [optT, if_true, textL, List.length_append, bl_size]
      have := putV_len10 hd; omega
  simp only [encEv, List.length_append]
  omega
theorem flat_le {l : List Ev} (h : l.all evOK = true) (hd : ∀ e ∈ l, e.data.size ≤ 4194304) : (l.flatMap fun e => textL (encEv e)).length ≤ l.length * 5000000 := by
  induction l with
  | nil => simp
  | cons e l ih =>
    simp only [List.all_cons, Bool.and_eq_true] at h
    have h1 := ih h.2 fun x hx => hd x (List.mem_cons_of_mem _ hx)
    have h2 := hd e (by simp)
    have h3 := encEv_len (evOK_head h.1) (by omega)
    have h4 := putV_len10 (n := (encEv e).length) (by omega)
    have h5 : (textL (encEv e)).length = (putV (encEv e).length).length + (encEv e).length := by simp [textL]
    simp only [List.flatMap_cons, List.length_append, List.length_cons]
    omega

theorem ePack_ok {A : Amb} {h : Heap} {s : Sl} {l : List Ev} {R : Value → Heap → Prop} (v : View EvE h s l) (hl : l.length ≤ 1099511627776) (hd : ∀ e ∈ l, e.data.size ≤ 4194304) (H : ∀ h', Ext h h' → R (resPack l) h') : HCalls A P f_event_Pack #[.slice s.p s.len s.cap] h R := by
  refine ok_event_Pack ?_
  unfold F_event_Pack
  rw [v.len]
  refine PIf.intro (fun hq => ?_) (fun hq => ?_)
  · have h5 : 500 < l.length := by simp at hq; omega
    have := H h Mod.refl
    simp only [resPack, packEv, if_pos h5] at this
    exact this
  have h5 : ¬ 500 < l.length := by simp at hq; omega
  have hp : packEv l = if l.all evOK then (0, encEvs l) else (120, []) := by unfold packEv; rw [if_neg h5]
  rw [wrap_u64n (by omega)]
  have l0 := putV_len10 (n := l.length) (by omega)
  refine vPut_ok (by omega) fun h1 x1 => ⟨_, rfl, ?_⟩
  refine Loop.rule (fun m x hh => ∃ i : Nat, x = (strL (putV l.length ++ (l.take i).flatMap fun e => textL (encEv e)), (i : Int), ()) ∧ Ext h hh ∧ m = l.length - i ∧ i ≤ l.length ∧ (l.take i).all evOK = true) ?_
    ⟨0, by simp, x1, rfl, by omega, rfl⟩
  rintro K m _ hh ⟨i, rfl, xe, rfl, hi, hall⟩ hK
  refine PIf.intro (fun hq2 => ?_) (fun hq2 => ?_)
  · have hil : i < l.length := by simpa using hq2
    obtain ⟨e, he⟩ : ∃ e, l[i]? = some e := ⟨_, List.getElem?_eq_getElem hil⟩
    have hm := List.mem_of_getElem? he
    have hed := hd e hm
    rw [← v.len]
    refine (v.ext xe).idx he fun a _ c => ?_
    rw [v.len]
    obtain ⟨p0, p1, p2, p3, p4, p5, p6, p7⟩ := ev_at c
    refine LoadI.mk p0 (LoadI.mk p1 (LoadI.mk p2 (LoadI.mk p3 (LoadI.mk p4 (LoadI.mk p5 (LoadB.mk p6 (LoadS.mk p7 ?_)))))))
    refine New.mk fun h2 _ hb2 x2 _ => Store.eight hb2 fun h3 hb3 m3 s3 => ?_
    have x03 : Ext h h3 := (xe.trans x2).more m3 fun c hc => by subst hc; exact xe.size
    refine LoadI.mk (hget_lit hb3 rfl) (LoadI.mk (hget_lit1 hb3 rfl) (LoadI.mk (hget_lit1 hb3 rfl) (LoadI.mk (hget_lit1 hb3 rfl) (LoadI.mk (hget_lit1 hb3 rfl) (LoadI.mk (hget_lit1 hb3 rfl) (LoadB.mk (hget_lit1 hb3 rfl) (LoadS.mk (hget_lit1 hb3 rfl) ?_)))))))
    refine eEncode_ok (e := e) (by omega) fun h4 x4 => ⟨_, _, rfl, ?_⟩
    have x04 := x03.trans x4
    cases hok : evOK e with
    | false =>
      refine PIf.yes rfl ?_
      have := H h4 x04
      rw [resPack, hp, if_neg] at this
      · exact this
      · intro hh; rw [List.all_eq_true] at hh; rw [hh e hm] at hok; cases hok
    | true =>
      refine PIf.no rfl ?_
      have h3 := encEv_len (evOK_head hok) (by omega)
      have h6 := putV_len10 (n := (encEv e).length) (by omega)
      have hfl := flat_le hall fun x hx => hd x (List.mem_of_mem_take hx)
      have htk : (l.take i).length ≤ 500 := by simp; omega
      have hmul : (l.take i).length * 5000000 ≤ 500 * 5000000 := Nat.mul_le_mul_right _ htk
      refine vText_ok (l := encEv e) (by omega) fun h7 x7 => ⟨_, rfl, ⟨?_, ?_⟩⟩
      · dsimp only
        have h9 : (textL (encEv e)).length = (putV (encEv e).length).length + (encEv e).length := by simp [textL]
        rw [strL_size, strL_size, max_i64, List.length_append]
        omega
      · dsimp only
        rw [wrap_succ (by omega), strL_app]
        refine hK (l.length - (i + 1)) _ _ (by omega) ⟨i + 1, ?_, x04.trans x7, rfl, hil, ?_⟩
        · rw [List.take_add_one, he, Option.toList_some, List.flatMap_append, List.append_assoc]
          simp
        · rw [List.take_add_one, he, Option.toList_some, List.all_append, hall]
          simpa using hok
  · have hil : i = l.length := by simp at hq2; omega
    rw [List.take_of_length_le (by omega)] at hall
    have := H hh xe
    rw [resPack, hp, if_pos hall] at this
    dsimp only
    rw [List.take_of_length_le (by omega)]
    exact this

theorem eUnpack_ok {A : Amb} {h : Heap} {l : List UInt8} {R : Value → Heap → Prop} (hl : l.length < 1099511627776)
    (H0 : unpackEv l = none → ∀ h', Ext h h' → R (.tuple #[.slice none 0 0, .int .i64 60]) h')
    (H1 : ∀ es, unpackEv l = some es → ∀ h' s, Ext h h' → View EvE h' s es → es.length ≤ 500 → R (.tuple #[.slice s.p s.len s.cap, .int .i64 0]) h') : HCalls A P f_event_Unpack #[.string (strL l)] h R := by
  refine ok_event_Unpack ?_
  unfold F_event_Unpack
  refine vRead_ok fun h1 hr1 x1 => ⟨_, rfl, ?_⟩
  refine vInt_ok (most := 500) hr1 (by simp only; omega) (by decide) fun h2 hr2 m2 => ⟨_, rfl, ?_⟩
  have x02 : Ext h h2 := x1.more m2 fun c hc => by omega
  have hlen := len_intR 500 ⟨l, false⟩
  have hk : (intR 500 ⟨l, false⟩).1 ≤ 500 := by
    unfold intR
    split
    · exact Nat.zero_le _
    · split
      · exact Nat.zero_le _
      · omega
  have eU : unpackEv l = match rdEvs (intR 500 ⟨l, false⟩).1 (intR 500 ⟨l, false⟩).2 with | none => none | some (l', r) => if endR r then some l' else none := rfl
  generalize hrb : h.size = rb at *
  refine Loop.rule (fun m x hh => ∃ (k : Nat) (s : Sl) (es : List Ev) (r : Rd), x = (s, (k : Int), ()) ∧ Ext h hh ∧ RdAt hh rb r ∧ Own EvE t_api_Event hh s es ∧ (∀ c, s.blk = some c → h.size ≤ c ∧ c ≠ rb) ∧ m = k ∧ r.rest.length ≤ l.length ∧ es.length + k ≤ 500 ∧
    unpackEv l = match rdEvs k r with | none => none | some (l', r') => if endR r' then some (es ++ l') else none) ?_ ⟨(intR 500 ⟨l, false⟩).1, ⟨none, 0, 0⟩, [], (intR 500 ⟨l, false⟩).2, rfl, x02, hr2, Own.nil, fun c hc => by simp [Sl.blk] at hc, rfl, hlen, by simpa using hk, eU⟩
  rintro K m _ hh ⟨k, s, es, r, rfl, xe, hr, o, fr, hm, hlr, hk5, eU⟩ hK
  refine PIf.intro (fun hq => ?_) (fun hq => ?_)
  · have hk0 : 0 < k := by simp at hq; omega
    obtain ⟨k', rfl⟩ : ∃ k', k = k' + 1 := ⟨k - 1, by omega⟩
    have hlt := len_textR r
    refine vRText_ok hr (by omega) fun h3 hr3 m3 => ⟨_, rfl, ?_⟩
    have x3 : Ext h h3 := xe.more m3 fun c hc => by omega
    have o3 := o.mod m3 fun c hc => (fr c hc).2
    refine eDecode_ok (by omega) fun h4 x4 => ⟨_, _, _, _, _, _, _, _, _, rfl, ?_⟩
    have x04 := x3.trans x4
    have hr4 := x4.blk hr3 (fun h => h)
    have o4 := o3.ext x4
    refine New.mk fun h5 _ hb5 x5 hs5 => Store.eight hb5 fun h6 hb6 m6 hs6 => ?_
    have hsz := x04.size
    have x06 : Ext h h6 := (x04.trans x5).more m6 fun c hc => by omega
    have hr6 := m6.blk (x5.blk hr4 (fun h => h)) (by have := blk_lt hr4; omega)
    have o6 := (o4.ext x5).mod m6 fun c hc e => by have := o4.lt hc; omega
    have er : rdEvs (k' + 1) r = match decEv (textR r).1 with | none => none | some e => match rdEvs k' (textR r).2 with | none => none | some (l, r') => some (e :: l, r') := rfl
    rw [er] at eU
    cases hd : decEv (textR r).1 with
    | none =>
      rw [hd] at eU
      exact PIf.yes rfl (H0 eU h6 x06)
    | some e =>
      rw [hd] at eU hb6
      refine PIf.no rfl ?_
      refine LoadI.mk (hget_lit hb6 rfl) (LoadI.mk (hget_lit1 hb6 rfl) (LoadI.mk (hget_lit1 hb6 rfl) (LoadI.mk (hget_lit1 hb6 rfl) (LoadI.mk (hget_lit1 hb6 rfl) (LoadI.mk (hget_lit1 hb6 rfl) (LoadB.mk (hget_lit1 hb6 rfl) (LoadS.mk (hget_lit1 hb6 rfl) ?_)))))))
      refine New.append1 (E := EvE) (x := e) (s := s) (l := es) rfl app_ev o6 (by omega) (by simp [maxLen]; omega) fun s' h' o' m' hb' hn' => ?_
      have hsr : s.blk ≠ some rb := fun hc => (fr _ hc).2 rfl
      dsimp only
      rw [show ((k' + 1 : Nat) : Int) - (1 : Int) = ((k' : Nat) : Int) by simp, wrap_nat (by omega)]
      refine hK k' _ _ (by omega) ⟨k', s', es ++ [e], (textR r).2, rfl, x06.more m' fun c hc => (fr c hc).1, m'.blk hr6 hsr, o', fun c hc => ?_, rfl, by omega, by simp; omega, ?_⟩
      · rcases hb' c hc with h1 | h1
        · exact fr c h1
        · have q := blk_lt hr6
          have q2 := x06.size
          omega
      · rw [eU]
        cases hrk : rdEvs k' (textR r).2 with
        | none => rfl
        | some p => obtain ⟨l', r'⟩ := p; simp
  · have hk0 : k = 0 := by simp at hq; omega
    subst hk0
    simp only [rdEvs, List.append_nil] at eU
    refine vEnd_ok hr ⟨_, rfl, ?_⟩
    refine PIf.intro (fun q => ?_) (fun q => ?_)
    · have q : endR r = false := by simpa using q
      exact H0 (by rw [eU, q]; rfl) hh xe
    · have q : endR r = true := by simpa using q
      exact H1 es (by rw [eU, q]; rfl) hh s xe o.view (by omega)
end Go.Lf.G
