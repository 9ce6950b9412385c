/-
 The law LsmBatches (chapter 9) over its formula.
-/
import Derived.Test.YteecdmkgblonnaaGreatDoorLfGLLsmBatches
import Derived.Test.YteecdmkgblonnaaGreatDoorLfQ0ToO3
import Derived.Test.YteecdmkgblonnaaGreatDoorLfU13
set_option linter.unusedVariables false
set_option linter.unusedSimpArgs false
set_option maxRecDepth 100000
set_option linter.unusedVariables false
set_option linter.unusedSimpArgs false
namespace Go.Lf.G
open Go
open M (Sorted findK putL putsL refAllL findLs GoodL wrongP OkL liveL atK thereK)
theorem upd_mem {k : ByteArray} {v : Value} {p : ByteArray × Value} : ∀ {m : List (ByteArray × Value)}, (m.map (·.1)).Nodup → p ∈ updM k v m → p = (k, v) ∨ (p ∈ m ∧ p.1 ≠ k)
 | [], _, h => by simp [updM] at h; exact .inl h
 | q :: m, nd, h => by
  rw [List.map_cons, List.nodup_cons] at nd
  unfold updM at h
  split at h
  ·rename_i hq
   rcases List.mem_cons.1 h with h | h
   ·exact .inl h
   ·refine .inr ⟨List.mem_cons_of_mem _ h, fun e => nd.1 ?_⟩
    rw [hq, ← e]
    exact List.mem_map.2 ⟨p, h, rfl⟩
  ·rename_i hq
   rcases List.mem_cons.1 h with h | h
   ·subst h; exact .inr ⟨List.mem_cons_self, hq⟩
   ·rcases upd_mem nd.2 h with h1 | h1
    ·exact .inl h1
    ·exact .inr ⟨List.mem_cons_of_mem _ h1.1, h1.2⟩
theorem upd_len (k : ByteArray) (v : Value) : ∀ m : List (ByteArray × Value), (updM k v m).length ≤ m.length + 1
 | [] => by simp [updM]
 | q :: m => by
  unfold updM
  split
  ·simp
  ·have := upd_len k v m; simp; omega
def aggP (x : Pr) : Value := .agg #[.string x.key, .string x.val, .bool x.gone]
theorem P_msp : P.underlying t_map_string_api_Pair = some (.map t_string t_api_Pair) := by kernel_rfl
def budB : Bud := ⟨1000, 0, 100, by decide, by decide, by decide⟩
theorem LsmBatches_ok {A : Amb} {h : Heap} {first batch : Sl} {lf lb : List Pr} {R : Value → Heap → Prop} (E : Evn h) (vf : View PairE h first lf) (vb : View PairE h batch lb) (H : ∀ h', Ext h h' → R (.bool true) h') : HCalls A P f_wherrylaw09_LsmBatches #[.slice first.p first.len first.cap, .slice batch.p batch.len batch.cap] h R := by
 refine ok_wherrylaw09_LsmBatches ?_
 unfold F_wherrylaw09_LsmBatches
 refine awake_ok E fun h1 x1 => ⟨_, rfl, PIf.no rfl ?_⟩
 refine bNew_ok fun b h2 Sb B2 x2 f2 => ⟨_, rfl, ?_⟩
 have x02 := x1.trans x2
 have sz1 := x1.size
 have sz2 := x2.size
 refine start_ok (B := budB) E B2 x02 (fun c hc => by have := f2 c hc; omega) rfl rfl (fun n => rfl) (fun n => rfl) (fun x hx => absurd rfl hx) (by decide) (by decide) fun h3 q3 k3 st3 m3 D3 eb3 S3 fu3 mp3 ot3 md3 kk3 => ⟨_, _, rfl, PIf.no rfl ?_⟩
 refine Write_calm (B := budB) (s := first) E S3 fu3 (by decide) (vf.ext S3.mem.ext) (S3.args vf) (by decide) fun h4 q4 k4 st4 m4 D4 ed4 eb4 S4 fu4 mp4 ot4 md4 kk4 => ⟨_, rfl, ?_⟩
 rw [mp3] at mp4
 have ln4 : (mapS st4).length ≤ 64 := by
  rw [mp4]
  split
  ·rename_i hck
   have := wrL_len lf []
   have := (check_bat hck).1.len
   simp only [List.length_nil] at *; omega
  ·simp
 obtain ⟨l1, l2, l3, l4⟩ := S4.frlen
 rw [← ed4]
 refine Scan_ok S4.mem l1 l2 l3 fun sl h5 o5 b5 x5 => ⟨sl, _, rfl, ?_⟩
 rw [show (1000 : Int) = ((1000 : Nat) : Int) from rfl, scan_all (by omega)] at o5
 have S5 := S4.on x5
 refine Write_calm (B := budB) (s := batch) E S5 fu4 (by decide) (vb.ext S5.mem.ext) (S5.args vb) (by decide) fun h6 q6 k6 st6 m6 D6 ed6 eb6 S6 fu6 mp6 ot6 md6 kk6 => ⟨_, rfl, ?_⟩
 have ln6 : (mapS st6).length ≤ 128 := by
  rw [mp6]
  split
  ·rename_i hck
   have := wrL_len lb (mapS st4)
   have := (check_bat hck).1.len
   omega
  ·omega
 obtain ⟨l1', l2', l3', l4'⟩ := S6.frlen
 rw [← ed6]
 refine Scan_ok S6.mem l1' l2' l3' fun s2 h7 o7 b7 x7 => ⟨s2, _, rfl, PIf.no rfl ?_⟩
 rw [show (1000 : Int) = ((1000 : Nat) : Int) from rfl, scan_all (by omega)] at o7
 have S7 := S6.on x7
 have o6 := o5.mod md6 fun c hc hk => hk (S4.free (b5 c hc))
 refine PIf.intro (fun hz => ?_) (fun hz => ?_)
 ·have hck : checkL lb ≠ 0 := by simpa using hz
  rw [if_neg hck] at mp6
  rw [mp6] at o7
  refine M.Same_ok (o6.view.ext x7) o7.view (by omega) ⟨_, rfl, ?_⟩
  rw [decide_eq_true rfl]
  exact H h7 S7.mem.ext
 have hck : checkL lb = 0 := by simpa using hz
 rw [if_pos hck] at mp6
 have hbat := (check_bat hck).1
 have hb64 := hbat.len
 refine New.mk fun h9 _ hb9 x9 s9 => ?_
 have S9 := S7.on x9
 have kmb : k6 h7.size = 0 := S7.free (Nat.le_refl _)
 have hgm : h.size ≤ h7.size := S7.mem.ext.size
 refine Loop.rule (fun mm x hh => ∃ (i : Nat) (lm : List (ByteArray × Value)), x = ((i : Int), ()) ∧ mm = lb.length - i ∧ i ≤ lb.length ∧ StoreAt budB h hh q6 k6 st6 m6 D6 7 128 ∧ MapS hh h7.size lm ∧ lm.length ≤ i ∧ (lm.map (·.1)).Nodup ∧ ∀ p ∈ lm, ∃ x, findK p.1 (lb.take i).reverse = some x ∧ p.2 = aggP x) ?_
  ⟨0, [], rfl, rfl, Nat.zero_le _, S9, MapS.empty hb9, Nat.le_refl _, by simp, fun p hp => by cases hp⟩
 rintro K mm _ hh ⟨i, lm, rfl, rfl, hi, S, Mm, hlm, nd, hval⟩ hK
 dsimp only
 rw [vb.len]
 refine PIf.intro (fun hq => ?_) (fun hq => ?_)
 ·have hil : i < lb.length := by have := of_decide_eq_true hq; omega
  have hget : lb[i]? = some lb[i] := List.getElem?_eq_getElem hil
  have hok := hbat.ok lb[i] (List.getElem_mem hil)
  have htk : lb.take (i + 1) = lb.take i ++ [lb[i]] := by rw [List.take_add_one, hget]; rfl
  generalize lb[i] = p at *
  rw [← vb.len]
  refine (vb.ext S.mem.ext).idx hget fun a _ c => ?_
  obtain ⟨c0, c1, c2⟩ := c.pair
  refine LoadS.mk c0 (LoadS.mk c1 (LoadB.mk c2 (New.pair fun b1 h10 eb10 hb10 x10 s10 => ?_)))
  refine LoadS.mk (hget_lit hb10 rfl) (LoadS.mk (hget_lit hb10 rfl) (LoadS.mk (hget_lit1 hb10 rfl) (LoadB.mk (hget_lit1 hb10 rfl) ?_)))
  have S10 := S.on x10
  have hk64 := hok.keyMost
  refine update_ok P_msp P_str (Mm.mod x10 fun h => h) (by simp [maxLen]; omega) (by simp [maxLen]; omega) fun h11 Mm11 md11 s11 => ?_
  have S11 := S10.beside md11 fun c hc => by subst hc; exact ⟨kmb, hgm⟩
  rw [wrap_succ (by omega)]
  have nd11 : ((updM p.key (aggP p) lm).map (·.1)).Nodup := by
   obtain ⟨es, clock, _, mo⟩ := Mm11
   exact mo.nodup
  refine hK (lb.length - (i + 1)) _ _ (by omega) ⟨i + 1, updM p.key (aggP p) lm, rfl, rfl, hil, S11, Mm11, by have := upd_len p.key (aggP p) lm; omega, nd11, fun q hq => ?_⟩
  rw [htk, List.reverse_append, List.reverse_singleton, List.singleton_append, M.findK_cons]
  rcases upd_mem nd hq with h1 | ⟨h1, h2⟩
  ·subst h1
   exact ⟨p, if_pos rfl, rfl⟩
  ·rw [if_neg fun e => h2 e.symm]
   exact hval q h1
 ·have hil : i = lb.length := by have := of_decide_eq_false hq; omega
  subst hil
  rw [List.take_length] at hval
  clear hK K
  have hmh := Mm.lt
  refine range_ok P_msp Mm fun h12 I12 x12 s12 => ⟨_, rfl, ?_⟩
  have S12 := S.on x12
  have kr : k6 hh.size = 0 := S.free (Nat.le_refl _)
  have hgr : h.size ≤ hh.size := S.mem.ext.size
  generalize hr : hh.size = r at *
  refine Loop.rule (fun mm x h' => ∃ n, MapIter h' r h7.size lm n ∧ StoreAt budB h h' q6 k6 st6 m6 D6 7 128 ∧ mm = n) ?_ ⟨lm.length, I12, S12, rfl⟩
  rintro K mm _ h13 ⟨n, I, S13, rfl⟩ hK
  refine next_ok I (.inl ⟨rfl, H h13 S13.mem.ext⟩) fun p hp h14 n' St hlt m14 => .inr ⟨_, _, rfl, ?_⟩
  have S14 := S13.beside m14 fun c hc => by subst hc; exact ⟨kr, hgr⟩
  obtain ⟨x, hfx, hpx⟩ := hval p hp
  have hxk := M.findK_key hfx
  have hxok := hbat.ok x (by simpa using hxk.2)
  have I14 := St.iter
  rw [show p = (p.1, aggP x) from by rw [← hpx]] at St
  refine entry_ok St ⟨_, _, rfl, p.1, rfl, x.key, x.val, x.gone, rfl, ?_⟩
  refine New.pair fun b4 h15 eb15 hb15 x15 s15 => ?_
  have S15 := S14.on x15
  obtain ⟨j1, j2, j3, j4⟩ := S15.frlen
  have hkey : p.1.size ≤ 64 := by rw [← hxk.1]; exact hxok.keyMost
  refine Get_ok S15.mem j2 (by omega) fun h16 x16 => ⟨_, _, _, rfl, ?_⟩
  have hb16 := ext_cells x16 hb15
  have hgt : getM (mapS st6) p.1 = if x.gone then (⟨#[]⟩, false) else (x.val, true) := by
   unfold getM
   rw [mp6, wrL_find p.1 S4.sorted, hfx]
   show (match alive (some x) with | some p => _ | none => _) = _
   rw [alive_some]
   cases x.gone <;> rfl
  refine Join.mk fun K3 hK3 => PIf.no rfl (LoadB.mk (hget_lit1 hb16 rfl) ?_)
  have fin : K3 (false, ()) h16 := hK3 _ _ (PIf.no rfl (hK n' _ _ hlt ⟨n', (I14.mod x15 (fun h => h) (fun h => h)).mod x16 (fun h => h) (fun h => h), S15.on x16, rfl⟩))
  rw [hgt]
  cases hg : x.gone with
  | true =>
   refine PIf.no rfl (LoadS.mk (hget_lit1 hb16 rfl) ?_)
   have e : sEq (⟨#[]⟩ : ByteArray) x.val = true := by rw [sEq_iff, empty_str (hxok.gone hg)]; exact decide_eq_true rfl
   show K3 (!sEq (⟨#[]⟩ : ByteArray) x.val, ()) h16
   rw [e]; exact fin
  | false =>
   refine PIf.no rfl (LoadS.mk (hget_lit1 hb16 rfl) ?_)
   have e : sEq x.val x.val = true := by rw [sEq_iff]; exact decide_eq_true rfl
   show K3 (!sEq x.val x.val, ()) h16
   rw [e]; exact fin
end Go.Lf.G

